import Derived.Test.YtgmcmhlomfeldaaAn0
import Derived.ArgAppend
import Derived.Below
import Derived.BigQuiet
import Derived.ChangeArms
import Derived.Deep.AppendLies
import Derived.Deep.CutBlock
import Derived.Deep.DeepCutAuto
import Derived.Deep.Draws
import Derived.Deep.LoopGhost
import Derived.Deep.OwnRows
import Derived.Deep.QuietTactic
import Derived.Deep.RegionHeld3
import Derived.Deep.Slices
import Derived.Great.BuildSlice
import Derived.KernelRfl
import Derived.Laws.BitsLemmas
import Derived.Laws.BytesArg
import Derived.Laws.CopyOwn
import Derived.Laws.Cover2
import Derived.Laws.IdiomCopy
import Derived.Laws.MakeOwn
import Derived.Laws.OwnMore
import Derived.Laws.ResultCell
import Derived.Laws.Rows
import Derived.Laws.Slices
import Derived.Laws.StructEq
import Derived.Lib.AppendStr
import Derived.Lib.ConvBytes
import Derived.Lib.Hide
import Derived.Lib.SliceRun
import Derived.Maps.AppendAt
import Derived.OrdersHeld
import Derived.OwnWalk
import Derived.RegionTactic
import Derived.RowKit
import Derived.RowKit3
import Derived.SizedLaws
import Derived.Tactics
import Derived.Test.YtgmcmhlomfeldaaProg
import Derived.WalkKit
import Derived.WideLaws
set_option linter.unusedVariables false
set_option linter.unusedSimpArgs false
namespace Go.Proofs.YtgmcmhlomfeldaaW.PrintWords
end Go.Proofs.YtgmcmhlomfeldaaW.PrintWords
namespace Go.Proofs.YtgmcmhlomfeldaaW.PrintLast
end Go.Proofs.YtgmcmhlomfeldaaW.PrintLast
namespace Go.Proofs.YtgmcmhlomfeldaaW.PrintMore
end Go.Proofs.YtgmcmhlomfeldaaW.PrintMore
/-! ### Print0 -/
namespace Go.Proofs.Ytgmcmhlomfeldaa.Print
open Go.RowKit Go.Proofs.YtgmcmhlomfeldaaW.PrintWords Go.Proofs.YtgmcmhlomfeldaaW.PrintLast Go.Proofs.YtgmcmhlomfeldaaW.PrintMore
set_option linter.unusedVariables false
set_option linter.unusedSimpArgs false
def errW : Option Int → Value
  | none => .nilIface
  | some c => .iface 0 (.int .i64 c)
theorem errW_none : errW none = .nilIface := rfl
theorem errW_some (c : Int) : errW (some c) = .iface 0 (.int .i64 c) := rfl
theorem info3 : (Try.prog.info? 3).map (fun i => (i.zero, i.size, i.bytes)) = some (some (.int .i64 0), 1, 8) := by kernel_rfl
theorem info37 : (Try.prog.info? 37).map (fun i => (i.zero, i.size, i.bytes)) = some (some (.agg #[(.int .i64 0), (.int .i64 0), (.slice none 0 0), (.int .i64 0)]), 4, 48) := by kernel_rfl
structure S37 where
  f0 : Int
  f1 : Int
  f2 : (List Int)
  f3 : Int
def z37 : S37 := ⟨(0 : Int), (0 : Int), ([] : List Int), (0 : Int)⟩
def k37 : Kd S37 := Kd.iso (Kd.pair (Kd.int .i64) (Kd.pair (Kd.int .i64) (Kd.pair (Kd.slice 3 (Kd.int .i64)) (Kd.int .i64)))) (fun x : S37 => (x.f0, x.f1, x.f2, x.f3))
theorem k37_open {w : World} {x : S37} {cs : List Value} (h : k37.K w x cs) : ∃ A2 c2, cs = [.int .i64 x.f0, .int .i64 x.f1, .slice A2 x.f2.length c2, .int .i64 x.f3] ∧ x.f2.length ≤ c2 ∧ (Kd.int .i64).C w A2 x.f2.length x.f2 := by
  obtain ⟨_, _, rfl, rfl, ⟨_, _, rfl, rfl, ⟨_, _, rfl, ⟨A2, c2, rfl, l2, g2⟩, rfl⟩⟩⟩ := h
  exact ⟨A2, c2, rfl, l2, g2⟩
theorem k37_mk (w : World) (x : S37) {A2 : Option Addr} {c2 : Nat} (l2 : x.f2.length ≤ c2) (g2 : (Kd.int .i64).C w A2 x.f2.length x.f2) : k37.K w x [.int .i64 x.f0, .int .i64 x.f1, .slice A2 x.f2.length c2, .int .i64 x.f3] := ⟨[.int .i64 x.f0], [.int .i64 x.f1, .slice A2 x.f2.length c2, .int .i64 x.f3], rfl, rfl, ⟨[.int .i64 x.f1], [.slice A2 x.f2.length c2, .int .i64 x.f3], rfl, rfl, ⟨[.slice A2 x.f2.length c2], [.int .i64 x.f3], rfl, ⟨A2, c2, rfl, l2, g2⟩, rfl⟩⟩⟩
theorem k37_mkM (w : World) (base : Nat) (ok : Nat → Prop) (x : S37) {v2 : Value} (g2 : (Kd.int .i64).R 3 w base ok v2 x.f2) : k37.M w base ok x [.int .i64 x.f0, .int .i64 x.f1, v2, .int .i64 x.f3] := ⟨[.int .i64 x.f0], [.int .i64 x.f1, v2, .int .i64 x.f3], rfl, rfl, ⟨[.int .i64 x.f1], [v2, .int .i64 x.f3], rfl, rfl, ⟨[v2], [.int .i64 x.f3], rfl, ⟨v2, rfl, g2⟩, rfl⟩⟩⟩
def rd_T37 (xs : List S37) (i : Int) : S37 := xs.getD i.toNat z37
theorem at_T37 {w : World} {A : Option Addr} {n : Nat} {xs : List S37} (h : Kd.C k37 w A n xs) (i : Int) (h0 : 0 ≤ i) (h1 : i < n) : ∃ ad A2 c2, A = some ad ∧ w.cell? (ad.add (i.toNat * 4)) = some (.int .i64 (rd_T37 xs i).f0) ∧ w.cell? ⟨(ad.add (i.toNat * 4)).block, (ad.add (i.toNat * 4)).off + 1, none⟩ = some (.int .i64 (rd_T37 xs i).f1) ∧ w.cell? ⟨(ad.add (i.toNat * 4)).block, (ad.add (i.toNat * 4)).off + 2, none⟩ = some (.slice A2 (rd_T37 xs i).f2.length c2) ∧ w.cell? ⟨(ad.add (i.toNat * 4)).block, (ad.add (i.toNat * 4)).off + 3, none⟩ = some (.int .i64 (rd_T37 xs i).f3) ∧ (rd_T37 xs i).f2.length ≤ c2 ∧ (Kd.int .i64).C w A2 (rd_T37 xs i).f2.length (rd_T37 xs i).f2 := by
  obtain ⟨ad, c, e, _, hK, hc0⟩ := Kd.C_get h z37 i h0 h1
  have hc : ∀ j u, c[j]? = some u → w.cell? (ad.add (i.toNat * 4 + j)) = some u := hc0
  obtain ⟨A2, c2, rfl, l2, g2⟩ := k37_open hK
  exact ⟨ad, A2, c2, e, hc 0 _ rfl, by rw [← add_field _ _ 1 (by omega)]; exact hc 1 _ rfl, by rw [← add_field _ _ 2 (by omega)]; exact hc 2 _ rfl, by rw [← add_field _ _ 3 (by omega)]; exact hc 3 _ rfl, l2, g2⟩
end Go.Proofs.Ytgmcmhlomfeldaa.Print
/-! ### K -/
namespace Go.Proofs.Ytgmcmhlomfeldaa
open Go.RowKit
/-- Of the blocks that were there only those of S may have changed. -/
structure Only (S : List Nat) (w w' : World) : Prop where
  os : w'.os = w.os
  tape : w'.tape = w.tape
  output : w'.output = w.output
  size : w.heap.size ≤ w'.heap.size
  block : ∀ k, k < w.heap.size → k ∉ S → w'.heap[k]? = w.heap[k]?
theorem Only.refl (S : List Nat) (w : World) : Only S w w := ⟨rfl, rfl, rfl, Nat.le_refl _, fun _ _ _ => rfl⟩
theorem Only.trans {S : List Nat} {a b c : World} (h : Only S a b) (k : Only S b c) : Only S a c :=
  ⟨k.os.trans h.os, k.tape.trans h.tape, k.output.trans h.output, Nat.le_trans h.size k.size,
   fun i hi hn => (k.block i (Nat.lt_of_lt_of_le hi h.size) hn).trans (h.block i hi hn)⟩
/-- What is written newly in between does not count. -/
theorem Only.then {S T : List Nat} {a b c : World} (h : Only S a b) (k : Only T b c) (hT : ∀ i, i ∈ T → i ∈ S ∨ a.heap.size ≤ i) : Only S a c :=
  ⟨k.os.trans h.os, k.tape.trans h.tape, k.output.trans h.output, Nat.le_trans h.size k.size,
   fun i hi hn => (k.block i (Nat.lt_of_lt_of_le hi h.size) (fun ht => (hT i ht).elim hn (by omega))).trans (h.block i hi hn)⟩
theorem Only.mono {S T : List Nat} {a b : World} (h : Only S a b) (hT : ∀ i, i ∈ S → i ∈ T) : Only T a b :=
  ⟨h.os, h.tape, h.output, h.size, fun i hi hn => h.block i hi (fun hs => hn (hT i hs))⟩
theorem Only.alloc {S : List Nat} {a w : World} (h : Only S a w) (o : Obj) : Only S a (w.alloc o) :=
  h.trans ⟨rfl, rfl, rfl, by simp, fun k hk _ => Below.heap_alloc _ _ _ hk⟩
theorem Only.setRow {S : List Nat} {a w : World} (h : Only S a w) {g : Nat} (hp : g ∈ S ∨ a.heap.size ≤ g) (cs : Array Value) : Only S a (w.setRow g cs) :=
  h.then (T := [g]) ⟨rfl, rfl, rfl, by simp [World.setRow], fun k _ hn => setRow_other w g k cs (by simpa using hn)⟩ (by simpa using hp)
theorem Only.grown {S : List Nat} {a w w' : World} {row : Option Nat} (h : Only S a w) (hg : w.grownBy w' row) (hr : ∀ k, row = some k → k ∈ S ∨ a.heap.size ≤ k) : Only S a w' :=
  h.then (T := row.toList) ⟨hg.os, hg.tape, hg.output, hg.size, fun k hk hn => hg.block k hk (fun e => hn (by rw [← e]; simp))⟩ (fun i hi => hr i (by simpa using hi))
theorem Only.below {S : List Nat} {a w : World} (h : Only S a w) {B : Nat} (hB : B ≤ a.heap.size) (hS : ∀ i, i ∈ S → B ≤ i) : Below B a w :=
  ⟨h.os, h.tape, h.output, h.size, fun k hk => h.block k (by omega) (fun hs => by have := hS k hs; omega)⟩
theorem Only.nil_below {a w : World} (h : Only [] a w) : Below a.heap.size a w := h.below (Nat.le_refl _) (by simp)
theorem Only.of_below {a w : World} (h : Below a.heap.size a w) : Only [] a w := ⟨h.os, h.tape, h.output, h.size, fun k hk _ => h.block k hk⟩
theorem Only.heap {S : List Nat} {a w : World} (h : Only S a w) {k : Nat} {o : Obj} (ho : a.heap[k]? = some o) (hk : k ∉ S) : w.heap[k]? = some o :=
  (h.block k (Array.getElem?_eq_some_iff.1 ho).1 hk).trans ho
theorem Only.cell {S : List Nat} {a w : World} (h : Only S a w) {p : Addr} {v : Value} (hc : a.cell? p = some v) (hp : p.block ∉ S) : w.cell? p = some v :=
  (World.cell?_of_block (w := a) (h.block p.block (block_lt_of_cell hc) hp)).trans hc
theorem Only.pop {S : List Nat} {g : Nat} {a w : World} (h : Only (g :: S) a w) (hg : a.heap.size ≤ g) : Only S a w :=
  ⟨h.os, h.tape, h.output, h.size, fun i hi hn => h.block i hi (by simp; exact ⟨by omega, hn⟩)⟩
theorem heap_lt {w : World} {g : Nat} {o : Obj} (h : w.heap[g]? = some o) : g < w.heap.size := (Array.getElem?_eq_some_iff.1 h).1
/-- The cells from an address on hold these values. -/
def CellsAt (w : World) (ad : Addr) (cs : List Value) : Prop := ∀ j v, cs[j]? = some v → w.cell? (ad.add j) = some v
theorem add_block (ad : Addr) (j : Nat) : (ad.add j).block = ad.block := by unfold Addr.add; split <;> rfl
theorem CellsAt.only {S : List Nat} {a w : World} {ad : Addr} {cs : List Value} (h : CellsAt a ad cs) (ho : Only S a w) (hp : ad.block ∉ S) : CellsAt w ad cs :=
  fun j v hj => ho.cell (h j v hj) (by rw [add_block]; exact hp)
section laws
variable {P : Program}
theorem run_loadVar_at (w : World) (ty : TypeId) (ad : Addr) (cs : List Value) (d : TypeDesc) (hc : CellsAt w ad cs)
    (hu : P.underlying ty = some d) (hd : (match d with | .struct _ | .array _ _ => true | _ => false) = true) (hi : (P.info? ty).map (·.size) = some cs.length) :
    (loadVar ty ad).run P w = .ok (.agg cs.toArray) w := by
  have hl : (loadCells ad cs.length).run P w = .ok cs.toArray w := run_loadCells_list (P := P) w ad cs hc
  cases hq : P.info? ty with
  | none => simp [hq] at hi
  | some i =>
    have hs : i.size = cs.length := by simpa [hq] using hi
    have hagg : (isAgg ty).run P w = .ok true w := by
      unfold isAgg
      rw [Sem.run_bind, run_underlying hu w]
      cases d <;> simp_all
    simp [loadVar, Sem.run_bind, hagg, sizeOf, typeInfo, hq, hs, hl]
/-- A struct or an array is loaded from wherever it lies. -/
theorem wpList_load_at {ops : Array Oper} {rest : List Oper} {o : Oper} {a : Act} {w : World} {Q : Exit → Act → World → Prop} (hgd : o.guard = none) (ty : TypeId) (x : Operand) (ho : o.op = .load ty x)
    (ad : Addr) (hx : a.eval x = .pointer (some ad)) (cs : List Value) (d : TypeDesc) (hc : CellsAt w ad cs)
    (hu : P.underlying ty = some d) (hd : (match d with | .struct _ | .array _ _ => true | _ => false) = true) (hi : (P.info? ty).map (·.size) = some cs.length)
    (h : wpList P ops Q rest (a.put o.dst (.agg cs.toArray)) w) : wpList P ops Q (o :: rest) a w := by
  refine wpList_plain hgd fun K hK => ?_
  unfold Oper.wp execOp
  simp only [ho, hx, Instr.loadAt, Instr.sureAddr, Sem.run_bind, Sem.run_pure, Result.andThen_ok, run_loadVar_at w ty ad cs d hc hu hd hi]
  exact hK _ _ h
theorem cellsAt_row {w : World} {g : Nat} {cs : List Value} {t : TypeId} {fr : Nat × Nat} (h : w.heap[g]? = some (.cells cs.toArray t fr)) : CellsAt w ⟨g, 0, none⟩ cs := by
  intro j v hj
  have e : (⟨g, 0, none⟩ : Addr).add j = ⟨g, j, none⟩ := by unfold Addr.add; split <;> simp_all
  rw [e, cell_of_row w g j _ _ _ h, List.getElem?_toArray, hj]
end laws
end Go.Proofs.Ytgmcmhlomfeldaa
/-! ### Rd -/
namespace Go.Proofs.Ytgmcmhlomfeldaa
open Go.RowKit Go.Deep
theorem CellsAt.below {w w' : World} {ad : Addr} {cs : List Value} (h : CellsAt w ad cs) (hb : Below w.heap.size w w') : CellsAt w' ad cs :=
  fun j v hj => by have := h j v hj; exact (hb.cell (by exact block_lt_of_cell this)).trans this
end Go.Proofs.Ytgmcmhlomfeldaa
/-! ### L -/
namespace Go.Proofs.Ytgmcmhlomfeldaa
namespace L
open Go.RowKit
section
variable {P : Program} {ops : Array Oper} {Q : Exit → Act → World → Prop} {md : Region.Mode}
/-- Whatever order is picked from here on, each operation that is carried out leaves what was there. -/
def wpGrow (P : Program) (md : Region.Mode) (ops : Array Oper) (Q : Exit → Act → World → Prop) (S : List Nat) (z : Nat) : Nat → Array Bool → Act → World → Prop
  | 0, listed, a, w => Region.ready md ops listed = [] ∧ Q .normal a w
  | fuel + 1, listed, a, w =>
    (Region.ready md ops listed = [] → Q .normal a w) ∧
    ∀ i ∈ Region.ready md ops listed, wpOp P ops Q i (fun a' w' => (i = z ∨ Only S w w') ∧ wpGrow P md ops Q S z fuel (listed.setIfInBounds i true) a' w') a w
theorem wpAny_of_grow {S : List Nat} {z : Nat} : ∀ (fuel : Nat) (listed : Array Bool) (a : Act) (w : World), wpGrow P md ops Q S z fuel listed a w → wpAny P md ops Q fuel listed a w
  | 0, _, _, _, h => h
  | fuel + 1, _, _, _, h => ⟨h.1, fun i hi => wpOp_mono (fun a' w' h' => wpAny_of_grow fuel _ a' w' h'.2) (h.2 i hi)⟩
theorem yields_weaker {S T : World → Prop} {o : Oper} {v : Value} {a : Act} (h : YieldsIf P ops S o v a) (hT : ∀ w, T w → S w) : YieldsIf P ops T o v a :=
  h.imp (fun ⟨hw, hv⟩ => ⟨hw, fun w hw' => hv w (hT w hw')⟩) id
/-- What looks at no memory. -/
def plainOp : Op → Bool
  | .move _ | .assign _ | .extract _ _ => true
  | _ => false
theorem exec_move {ρ : Operand → Value} {o : Oper} {x : Operand} (ho : o.op = .move x) : execOp ρ o = pure (.value (ρ x)) := by unfold execOp; rw [ho]
theorem exec_assign {ρ : Operand → Value} {o : Oper} {x : Operand} (ho : o.op = .assign x) : execOp ρ o = pure (.value (ρ x)) := by unfold execOp; rw [ho]
theorem exec_extract {ρ : Operand → Value} {o : Oper} {x : Operand} {i : Nat} (ho : o.op = .extract x i) : execOp ρ o = (Instr.extract (ρ x) i >>= fun a => pure (.value a)) := by unfold execOp; rw [ho]
theorem plain_run {P : Program} {ρ : Operand → Value} {o : Oper} {v : Value} {w : World} (hp : plainOp o.op = true) (h : (execOp ρ o).run P w = .ok (.value v) w) (w' : World) : (execOp ρ o).run P w' = .ok (.value v) w' := by
  cases ho : o.op with
  | move x => rw [exec_move ho] at h ⊢; simp only [Sem.run_pure] at h ⊢; injection h with h1 h2; rw [h1]
  | assign x => rw [exec_assign ho] at h ⊢; simp only [Sem.run_pure] at h ⊢; injection h with h1 h2; rw [h1]
  | extract x i =>
    rw [exec_extract ho] at h ⊢
    generalize ρ x = u at *
    unfold Instr.extract at h ⊢
    cases u with
    | tuple vs =>
      simp only at h ⊢
      cases hv : vs[i]? with
      | none =>
        rw [hv] at h
        simp [stuck, Sem.run] at h
      | some y =>
        rw [hv] at h
        simp only [Sem.run_bind, Sem.run_pure, Result.andThen] at h ⊢
        injection h with h1 h2
        rw [h1]
    | _ => simp [stuck, Sem.run] at h
  | _ => rw [ho] at hp; cases hp
/-- z waits for all others, at most over one in between. -/
inductive Waits (md : Region.Mode) (ops : Array Oper) : Oper → Nat → Prop
  | one {o : Oper} (e : Edge) (he : e ∈ o.after) (hb : Region.binds md e = true) : Waits md ops o e.on
  | more {o om : Oper} {k : Nat} (e : Edge) (he : e ∈ o.after) (hb : Region.binds md e = true) (ho : ops[e.on]? = some om) (h : Waits md ops om k) : Waits md ops o k
def LastOp (md : Region.Mode) (ops : Array Oper) (z : Nat) : Prop := ∀ oz, ops[z]? = some oz → ∀ k, k < ops.size → k ≠ z → Waits md ops oz k ∨ ∃ ok, ops[k]? = some ok ∧ (Waits md ops ok z ∨ plainOp ok.op = true)
/-- What was carried out waited for what was carried out. -/
def Closed (md : Region.Mode) (ops : Array Oper) (listed : Array Bool) : Prop := ∀ j oj, ops[j]? = some oj → listed.getD j false = true → ∀ e ∈ oj.after, Region.binds md e = true → listed.getD e.on false = true
theorem Waits.listed {md : Region.Mode} {ops : Array Oper} {listed : Array Bool} (hcl : Closed md ops listed) {o : Oper} {k : Nat} (h : Waits md ops o k) : (∀ e ∈ o.after, Region.binds md e = true → listed.getD e.on false = true) → listed.getD k false = true := by
  induction h with
  | one e he hb => exact fun hall => hall e he hb
  | more e he hb ho h ih => exact fun hall => ih (hcl _ _ ho (hall e he hb))
theorem getD_set_mono {l : Array Bool} {j k : Nat} (h : l.getD k false = true) : (l.setIfInBounds j true).getD k false = true := by
  rw [Array.getD_eq_getD_getElem?] at h ⊢
  rw [Array.getElem?_setIfInBounds]
  split
  · split <;> simp_all
  · exact h
theorem Closed.add {listed : Array Bool} {j : Nat} (h : Closed md ops listed) (hj : j ∈ Region.ready md ops listed) : Closed md ops (listed.setIfInBounds j true) := by
  intro k ok hk hl e he hb
  by_cases hkj : j = k
  · subst hkj
    obtain ⟨_, o, ho, hall⟩ := mem_ready.1 hj
    obtain rfl := Option.some.inj (ho.symm.trans hk)
    exact getD_set_mono (hall e he hb)
  · refine getD_set_mono (h k ok hk ?_ e he hb)
    rw [Array.getD_eq_getD_getElem?, Array.getElem?_setIfInBounds, if_neg hkj] at hl
    rw [Array.getD_eq_getD_getElem?]
    exact hl
theorem wpGrow_first {S : List Nat} {z : Nat} {i : Nat} {oi : Oper} {v : Value} (hz : LastOp md ops z) (hiz : i ≠ z) (hi : ops[i]? = some oi) (hsel : ∀ (j : Nat) (o : Oper) cs b, ops[j]? = some o → o.op ≠ .select cs b)
    (hQ : ∀ c a w, Q (.panic c) (a.put oi.dst v) w → Q (.panic c) a w) :
    ∀ (fuel : Nat) (listed : Array Bool) (a : Act) (w : World), Closed md ops listed →
      (∀ j oj, ops[j]? = some oj → j ≠ i → listed.getD j true = false → (∀ e ∈ oj.after, Region.binds md e = true → e.on ≠ i) → oi.apart ops oj = true) →
      i ∈ Region.ready md ops listed → YieldsIf P ops (fun w' => Only S w w') oi v a →
      wpGrow P md ops Q S z fuel (listed.setIfInBounds i true) (a.put oi.dst v) w → wpGrow P md ops Q S z (fuel + 1) listed a w := by
  intro fuel
  induction fuel with
  | zero =>
    intro listed a w _ _ hr hy H
    refine ⟨fun h => (by rw [h] at hr; cases hr), fun j hj => ?_⟩
    by_cases hji : j = i
    · subst hji; exact hy.wpOp hi (Only.refl S w) ⟨.inr (Only.refl S w), H⟩
    · have h1 := ready_mono hj hji
      rw [H.1] at h1
      cases h1
  | succ fuel ih =>
    intro listed a w hcl hfree hr hy H
    refine ⟨fun h => (by rw [h] at hr; cases hr), fun j hj => ?_⟩
    by_cases hji : j = i
    · subst hji; exact hy.wpOp hi (Only.refl S w) ⟨.inr (Only.refl S w), H⟩
    · have h1 := H.2 j (ready_mono hj hji)
      obtain ⟨hjun, oj, hoj, hall⟩ := mem_ready.1 hj
      have hnot : ∀ e ∈ oj.after, Region.binds md e = true → e.on ≠ i := fun e he hb heq => by
        have h1 := hall e he hb
        have h0 := (mem_ready.1 hr).1
        rw [heq] at h1
        rcases Nat.lt_or_ge i listed.size with h' | h'
        · simp [h'] at h0 h1; rw [h0] at h1; cases h1
        · simp [Array.getElem?_eq_none h'] at h1
      have h2 := wpOp_putIf hoj (hfree j oj hoj hji hjun hnot) (fun cs b => hsel i oi cs b hi) (fun cs b => hsel j oj cs b hoj) hQ hy h1
      have hfree' : ∀ k ok, ops[k]? = some ok → k ≠ i → (listed.setIfInBounds j true).getD k true = false →
          (∀ e ∈ ok.after, Region.binds md e = true → e.on ≠ i) → oi.apart ops ok = true := fun k ok hk hki hun hno => by
        refine hfree k ok hk hki ?_ hno
        by_cases hjk : j = k
        · subst hjk; exact hjun
        · rw [getD_set_ne true hjk] at hun; exact hun
      have hjz : j ≠ z ∨ plainOp oi.op = true := by
        by_cases hjz : j = z
        · right
          subst hjz
          rcases hz oj hoj i (Array.getElem?_eq_some_iff.1 hi).1 hiz with hz1 | ⟨ok, hok, hz1 | hz1⟩
          · exfalso
            have h1 := hz1.listed hcl (fun e he hb => hall e he hb)
            have h0 := (mem_ready.1 hr).1
            rcases Nat.lt_or_ge i listed.size with h' | h'
            · simp [h'] at h0 h1; rw [h0] at h1; cases h1
            · simp [Array.getElem?_eq_none h'] at h1
          · exfalso
            obtain ⟨hiun, oi', hoi', hall'⟩ := mem_ready.1 hr
            obtain rfl := Option.some.inj (hok.symm.trans hoi')
            have h1 := hz1.listed hcl (fun e he hb => hall' e he hb)
            rcases Nat.lt_or_ge j listed.size with h' | h'
            · simp [h'] at hjun h1; rw [hjun] at h1; cases h1
            · simp [Array.getElem?_eq_none h'] at h1
          · obtain rfl := Option.some.inj (hok.symm.trans hi)
            exact hz1
        · exact .inl hjz
      have weak : ∀ a' w', YieldsIf P ops (fun w' => Only S w w') oi v a' → (j = z ∨ Only S w w') → YieldsIf P ops (fun w'' => Only S w' w'') oi v a' := by
        intro a' w' hy' hjo
        rcases hjz with hjz | hpl
        · exact yields_weaker hy' fun w'' h => (hjo.resolve_left hjz).trans h
        · rcases hy' with ⟨hw1, hw2⟩ | hw
          · exact .inl ⟨hw1, fun w'' _ => plain_run hpl (hw2 w (Only.refl S w)) w''⟩
          · exact .inr hw
      refine wpOp_mono (fun a' w' h3 => ⟨h3.2.1, ih (listed.setIfInBounds j true) a' w' (hcl.add hj) hfree' (ready_mono hr (Ne.symm hji)) (weak a' w' h3.1 h3.2.1) ?_⟩) h2
      rw [Array.setIfInBounds_comm _ _ hji]
      exact h3.2.2
/-- What matters of an operation for its place: what it waits for, which temporaries it looks at, which it fills. -/
abbrev Row := List Nat × List Nat × Option Nat
def rowOf (md : Region.Mode) (ops : Array Oper) (o : Oper) : Row := ((o.after.toList.filter (Region.binds md)).map (·.on), o.looksAt ops, o.dst)
def tabOf (md : Region.Mode) (ops : Array Oper) : List Row := ops.toList.map (rowOf md ops)
def apartT (x y : Row) : Bool :=
  (match x.2.2 with
   | some d => !y.2.1.contains d && y.2.2 != some d
   | none => true) &&
  (match y.2.2 with
   | some d => !x.2.1.contains d
   | none => true)
theorem apartT_spec {x y : Oper} (h : apartT (rowOf md ops x) (rowOf md ops y) = true) : x.apart ops y = true := h
def readyT (tab : List Row) (l : List Bool) (i : Nat) : Bool :=
  !l.getD i true && (match tab[i]? with
   | some r => r.1.all fun k => l.getD k false
   | none => false)
theorem readyT_spec (l : List Bool) (i : Nat) : readyT (tabOf md ops) l i = true ↔ i ∈ Region.ready md ops l.toArray := by
  rw [mem_ready]
  unfold readyT tabOf
  have e1 : l.toArray.getD i true = l.getD i true := by simp [List.getD_eq_getElem?_getD]
  have e2 : ∀ k, l.toArray.getD k false = l.getD k false := fun k => by simp [List.getD_eq_getElem?_getD]
  rw [e1, List.getElem?_map, Array.getElem?_toList]
  cases ho : ops[i]? with
  | none => simp
  | some o =>
    simp only [Option.map_some, Bool.and_eq_true, Bool.not_eq_true', List.all_eq_true, rowOf, List.mem_map, List.mem_filter]
    constructor
    · rintro ⟨h1, h2⟩
      exact ⟨h1, o, rfl, fun e he hb => by rw [e2]; exact h2 _ ⟨e, ⟨by simpa using he, hb⟩, rfl⟩⟩
    · rintro ⟨h1, o', ho', h2⟩
      cases ho'
      refine ⟨h1, ?_⟩
      rintro k ⟨e, ⟨he, hb⟩, rfl⟩
      have := h2 e (by simpa using he) hb
      rwa [e2] at this
def freeT (tab : List Row) (l : List Bool) (i : Nat) (x : Row) : List Row → Nat → Bool
  | [], _ => true
  | y :: r, j => (j == i || l.getD j true || y.1.contains i || apartT x y) && freeT tab l i x r (j + 1)
theorem freeT_spec (tab : List Row) (l : List Bool) (i : Nat) (x : Row) : ∀ (r : List Row) (j : Nat), freeT tab l i x r j = true → ∀ k y, r[k]? = some y → j + k = i ∨ l.getD (j + k) true = true ∨ y.1.contains i = true ∨ apartT x y = true
  | [], _, _, k, y, hk => by simp at hk
  | z :: r, j, h, k, y, hk => by
    simp only [freeT, Bool.and_eq_true, Bool.or_eq_true, beq_iff_eq] at h
    cases k with
    | zero =>
      simp at hk
      subst hk
      rcases h.1 with ((h1 | h1) | h1) | h1
      · exact .inl (by omega)
      · exact .inr (.inl (by simpa using h1))
      · exact .inr (.inr (.inl h1))
      · exact .inr (.inr (.inr h1))
    | succ k =>
      have := freeT_spec tab l i x r (j + 1) h.2 k y (by simpa using hk)
      rwa [show j + 1 + k = j + (k + 1) by omega] at this
def aloneT (tab : List Row) (l : List Bool) (i n : Nat) : Bool := (List.range n).all fun j => j == i || !readyT tab l j
/-- The numbers in the order in which they are taken; beside each: may it be taken first? does it come up alone? -/
def reachT (tab : List Row) (k : Nat) : Nat → List Nat → Bool
  | 0, l => l.contains k
  | d + 1, l => l.contains k || l.any fun m => match tab[m]? with | some q => reachT tab k d q.1 | none => false
def plains (ops : Array Oper) : List Bool := ops.toList.map fun o => plainOp o.op
def lastT (pl : List Bool) (tab : List Row) (n z : Nat) : Bool := match tab[z]? with
  | some r => (List.range n).all fun k => k == z || reachT tab k 1 r.1 || reachT tab k 4 r.1 || (match tab[k]? with | some q => reachT tab z 4 q.1 | none => false) || pl.getD k false
  | none => true
theorem tab_get {z : Nat} {oz : Oper} (hoz : ops[z]? = some oz) : (tabOf md ops)[z]? = some (rowOf md ops oz) := by unfold tabOf; rw [List.getElem?_map, Array.getElem?_toList, hoz]; rfl
theorem row_has {oz : Oper} {k : Nat} (h : k ∈ (rowOf md ops oz).1) : ∃ e ∈ oz.after, Region.binds md e = true ∧ e.on = k := by
  simp only [rowOf, List.mem_map, List.mem_filter] at h
  obtain ⟨e, ⟨he, hb⟩, heq⟩ := h
  exact ⟨e, by simpa using he, hb, heq⟩
theorem reachT_spec (k : Nat) : ∀ (d : Nat) (o : Oper), reachT (tabOf md ops) k d (rowOf md ops o).1 = true → Waits md ops o k
  | 0, o, h => by
    obtain ⟨e, he, hb, h3⟩ := row_has (List.contains_iff_mem.1 h)
    subst h3
    exact .one e he hb
  | d + 1, o, h => by
    simp only [reachT, Bool.or_eq_true, List.any_eq_true] at h
    rcases h with h | ⟨m, hm, h2⟩
    · obtain ⟨e, he, hb, h3⟩ := row_has (List.contains_iff_mem.1 h)
      subst h3
      exact .one e he hb
    · obtain ⟨e, he, hb, rfl⟩ := row_has hm
      cases ho : ops[e.on]? with
      | none =>
        have : (tabOf md ops)[e.on]? = none := by unfold tabOf; rw [List.getElem?_map, Array.getElem?_toList, ho]; rfl
        rw [this] at h2
        cases h2
      | some om =>
        rw [tab_get ho] at h2
        exact .more e he hb ho (reachT_spec k d om h2)
theorem lastT_spec {z : Nat} (h : lastT (plains ops) (tabOf md ops) ops.size z = true) : LastOp md ops z := by
  intro oz hoz k hk hkz
  unfold lastT at h
  rw [tab_get hoz] at h
  simp only [List.all_eq_true, List.mem_range, Bool.or_eq_true, beq_iff_eq] at h
  rcases h k hk with (((h1 | h1) | h1) | h1) | h1
  · exact absurd h1 hkz
  · exact .inl (reachT_spec k _ oz h1)
  · exact .inl (reachT_spec k _ oz h1)
  · obtain ⟨ok, hok⟩ : ∃ ok, ops[k]? = some ok := ⟨_, Array.getElem?_eq_getElem hk⟩
    rw [tab_get hok] at h1
    exact .inr ⟨ok, hok, .inl (reachT_spec z _ ok h1)⟩
  · obtain ⟨ok, hok⟩ : ∃ ok, ops[k]? = some ok := ⟨_, Array.getElem?_eq_getElem hk⟩
    refine .inr ⟨ok, hok, .inr ?_⟩
    unfold plains at h1
    rw [List.getD_eq_getElem?_getD, List.getElem?_map, Array.getElem?_toList, hok] at h1
    exact h1
def rowsT (tab : List Row) (n z : Nat) : List (Nat × Bool × Bool) → List Bool → Bool
  | [], l => (List.range n).all fun j => !readyT tab l j
  | (i, f, c) :: r, l =>
    readyT tab l i && (!f || (i != z && (match tab[i]? with | some x => freeT tab l i x tab 0 | none => false))) && (!c || aloneT tab l i n) && rowsT tab n z r (l.set i true)
/-- The walk through a region in one order. -/
def GrowL (P : Program) (ops : Array Oper) (Q : Exit → Act → World → Prop) (S : List Nat) (z : Nat) : List (Nat × Bool × Bool) → Act → World → Prop
  | [], a, w => Q .normal a w
  | (i, f, c) :: r, a, w => ∃ oi, ops[i]? = some oi ∧
      ((f = true ∧ ∃ v, YieldsIf P ops (fun w' => Only S w w') oi v a ∧ GrowL P ops Q S z r (a.put oi.dst v) w) ∨
       (c = true ∧ Region.wanted oi (yielded ops a.tmps) = true ∧ oi.wp P a w (fun a' w' => (i = z ∨ Only S w w') ∧ GrowL P ops Q S z r a' w') Q))
theorem ready_lt {l : Array Bool} {j : Nat} (h : j ∈ Region.ready md ops l) : j < ops.size := by
  obtain ⟨_, o, ho, _⟩ := mem_ready.1 h
  exact (Array.getElem?_eq_some_iff.1 ho).1
theorem grow_of_rows {S : List Nat} {z : Nat} (hz : LastOp md ops z) (hsel : Region.noSelect ops = true) (hQ : ∀ c (a : Act) d v w, Q (.panic c) (a.put d v) w → Q (.panic c) a w) :
    ∀ (T : List (Nat × Bool × Bool)) (l : List Bool), rowsT (tabOf md ops) ops.size z T l = true → Closed md ops l.toArray → ∀ a w, GrowL P ops Q S z T a w → wpGrow P md ops Q S z T.length l.toArray a w
  | [], l, hT, _, a, w, h => by
    refine ⟨?_, h⟩
    rw [List.eq_nil_iff_forall_not_mem]
    intro j hj
    simp only [rowsT, List.all_eq_true, List.mem_range, Bool.not_eq_true'] at hT
    have := hT j (ready_lt hj)
    rw [(readyT_spec l j).2 hj] at this
    cases this
  | (i, f, c) :: r, l, hT, hcl, a, w, h => by
    simp only [rowsT, Bool.and_eq_true, Bool.or_eq_true, Bool.not_eq_true'] at hT
    obtain ⟨⟨⟨hrd, hf⟩, hc⟩, hr⟩ := hT
    obtain ⟨oi, hi, h⟩ := h
    have hcl' : Closed md ops (l.set i true).toArray := by
      have := hcl.add ((readyT_spec l i).1 hrd)
      simpa using this
    have hset : l.toArray.setIfInBounds i true = (l.set i true).toArray := by simp
    rcases h with ⟨hft, v, hy, hg⟩ | ⟨hct, hw, hwp⟩
    · have hfr := hf.resolve_left (by rw [hft]; simp)
      have htab : (tabOf md ops)[i]? = some (rowOf md ops oi) := by unfold tabOf; rw [List.getElem?_map, Array.getElem?_toList, hi]; rfl
      rw [htab] at hfr
      simp only [bne_iff_ne, ne_eq] at hfr
      refine wpGrow_first hz hfr.1 hi (Region.noSelect_spec hsel) (fun c a w => hQ c a _ _ w) r.length _ a w hcl (fun j oj hj hne hun hno => ?_) ((readyT_spec l i).1 hrd) hy ?_
      · have htj : (tabOf md ops)[j]? = some (rowOf md ops oj) := by unfold tabOf; rw [List.getElem?_map, Array.getElem?_toList, hj]; rfl
        have hl : l.getD j true = false := by simpa [List.getD_eq_getElem?_getD] using hun
        rcases freeT_spec _ l i _ _ 0 hfr.2 j _ htj with h1 | h1 | h1 | h1
        · exact absurd (by omega) hne
        · rw [Nat.zero_add, hl] at h1; cases h1
        · exfalso
          simp only [rowOf, List.contains_iff_mem, List.mem_map, List.mem_filter] at h1
          obtain ⟨e, ⟨he, hb⟩, heq⟩ := h1
          exact hno e (by simpa using he) hb heq
        · exact apartT_spec h1
      · rw [hset]
        exact grow_of_rows hz hsel hQ r _ hr hcl' _ _ hg
    · have hal := hc.resolve_left (by rw [hct]; simp)
      refine ⟨fun h0 => ?_, fun j hj => ?_⟩
      · have := (readyT_spec l i).1 hrd
        rw [h0] at this
        cases this
      · have hji : j = i := by
          simp only [aloneT, List.all_eq_true, List.mem_range, Bool.or_eq_true, beq_iff_eq, Bool.not_eq_true'] at hal
          rcases hal j (ready_lt hj) with h1 | h1
          · exact h1
          · rw [(readyT_spec l j).2 hj] at h1; cases h1
        subst hji
        rw [hset]
        unfold wpOp
        simp only [hi, hw, if_true]
        exact .inl (Oper.wp_mono (fun a' w' h => ⟨h.1, grow_of_rows hz hsel hQ r _ hr hcl' _ _ h.2⟩) hwp)
/-- The beginning. -/
theorem grow_start (S : List Nat) (z : Nat) (T : List (Nat × Bool × Bool)) {id : Nat} {a : Act} {w : World} (hm : P.follows .mixedOrders = true)
    (tab : List Row) (htab : tabOf .any ops = tab) (hs : Region.noSelect ops = true) {n : Nat} (hn : ops.size = n) (hT : (lastT (plains ops) tab n z && rowsT tab n z T (List.replicate n false) && T.length == n) = true)
    (hQ : ∀ c (a : Act) t v w, Q (.panic c) (a.put (some t) v) w → Q (.panic c) a w)
    (h : ∀ w1, Only [] w w1 → GrowL P ops Q S z T a w1) : (Code.region id ops true).wp P Q a w := by
  subst htab
  subst hn
  simp only [Bool.and_eq_true, beq_iff_eq] at hT
  obtain ⟨⟨h2, h1⟩, h3⟩ := hT
  have ho : Only [] w { w with drawn := w.drawn + 1 } := ⟨rfl, rfl, rfl, Nat.le_refl _, fun _ _ _ => rfl⟩
  refine wp_region_any hm (wpAny_of_grow (S := S) (z := z) _ _ _ _ ?_)
  have := grow_of_rows (S := S) (z := z) (lastT_spec h2) hs (fun c a d v w h => by cases d with | none => exact h | some t => exact hQ c a t v w h) T _ h1 (fun j oj _ hl => by exfalso; rw [Array.getD_eq_getD_getElem?, List.getElem?_toArray, List.getElem?_replicate] at hl; split at hl <;> simp at hl) a _ (h _ ho)
  rw [h3, List.toArray_replicate] at this
  exact this
section
variable {S : List Nat} {z : Nat} {i : Nat} {f c : Bool} {oi : Oper} {r : List (Nat × Bool × Bool)} {a : Act} {w : World}
theorem growl_off (hi : ops[i]? = some oi) (hw : Region.wanted oi (yielded ops a.tmps) = false) (h : GrowL P ops Q S z r (a.put oi.dst undef) w) : GrowL P ops Q S z ((i, true, c) :: r) a w :=
  ⟨oi, hi, .inl ⟨rfl, _, .inr ⟨hw, rfl⟩, h⟩⟩
theorem growl_on {v : Value} (hi : ops[i]? = some oi) (hw : Region.wanted oi (yielded ops a.tmps) = true) (hy : ∀ w', Only S w w' → (execOp a.eval oi).run P w' = .ok (.value v) w')
    (h : GrowL P ops Q S z r (a.put oi.dst v) w) : GrowL P ops Q S z ((i, true, c) :: r) a w :=
  ⟨oi, hi, .inl ⟨rfl, _, .inl ⟨hw, hy⟩, h⟩⟩
theorem growl_alone (hi : ops[i]? = some oi) (hw : Region.wanted oi (yielded ops a.tmps) = true) (h : oi.wp P a w (fun a' w' => (i = z ∨ Only S w w') ∧ GrowL P ops Q S z r a' w') Q) : GrowL P ops Q S z ((i, f, true) :: r) a w :=
  ⟨oi, hi, .inr ⟨rfl, hw, h⟩⟩
end
def lk : List (Nat × Value) → Nat → Option Value
  | [], _ => none
  | (t, v) :: r, k => if k = t then some v else lk r k
def puts (a : Act) : List (Nat × Value) → Act
  | [] => a
  | (t, v) :: r => (puts a r).put (some t) v
def evE (a : Act) (env : List (Nat × Value)) : Operand → Value
  | .tmp t => match lk env t with
    | some v => v
    | none => a.eval (.tmp t)
  | x => a.eval x
theorem puts_size (a : Act) : ∀ env, (puts a env).tmps.size = a.tmps.size
  | [] => rfl
  | (t, v) :: r => by simp [puts, Act.put, puts_size a r]
theorem puts_get (a : Act) (k : Nat) : ∀ env : List (Nat × Value), (∀ p ∈ env, p.1 < a.tmps.size) → (puts a env).tmps[k]? = (lk env k).or a.tmps[k]?
  | [], _ => by simp [puts, lk]
  | (t, v) :: r, h => by
    have ht : t < a.tmps.size := h (t, v) (by simp)
    have ih := puts_get a k r (fun p hp => h p (by simp [hp]))
    show ((puts a r).tmps.setIfInBounds t v)[k]? = _
    rw [Array.getElem?_setIfInBounds]
    by_cases hk : t = k
    · subst hk
      rw [if_pos rfl, if_pos (by rw [puts_size]; exact ht)]
      simp [lk]
    · rw [if_neg hk, ih]
      simp [lk, Ne.symm hk]
theorem puts_eval (a : Act) (env : List (Nat × Value)) (h : ∀ p ∈ env, p.1 < a.tmps.size) : (puts a env).eval = evE a env := by
  funext x
  cases x with
  | tmp t =>
    show (puts a env).tmps.getD t undef = evE a env (.tmp t)
    rw [Array.getD_eq_getD_getElem?, puts_get a t env h]
    simp only [evE]
    cases hl : lk env t with
    | none => simp [Act.eval]
    | some v => simp
  | _ => rfl
/-- Is the operation carried out? -/
def wantE (ops : Array Oper) (env : List (Nat × Value)) (o : Oper) : Option Bool :=
  match o.guard with
  | none => some true
  | some (j, want) => match (ops[j]?).bind (·.dst) with
    | none => none
    | some d => match lk env d with
      | some (.bool b) => some (b == want)
      | some .nilIface => none
      | some (.tuple _) => some false
      | _ => none
theorem wantE_spec {env : List (Nat × Value)} {o : Oper} {b : Bool} (a : Act) (h : ∀ p ∈ env, p.1 < a.tmps.size) (hw : wantE ops env o = some b) : Region.wanted o (yielded ops (puts a env).tmps) = b := by
  unfold wantE at hw
  unfold Region.wanted
  cases hg : o.guard with
  | none => rw [hg] at hw; simpa using hw
  | some p =>
    obtain ⟨j, want⟩ := p
    rw [hg] at hw
    simp only at hw ⊢
    unfold yielded
    cases hd : (ops[j]?).bind (·.dst) with
    | none => rw [hd] at hw; cases hw
    | some d =>
      rw [hd] at hw
      simp only [Option.bind_some] at hw ⊢
      rw [puts_get a d env h]
      cases hl : lk env d with
      | none => rw [hl] at hw; simp at hw
      | some v =>
        rw [hl] at hw
        cases v <;> simp at hw ⊢ <;> simp [hw]
/-- The walk at a frame of which these temporaries were filled in the region. -/
def GrowE (P : Program) (ops : Array Oper) (Q : Exit → Act → World → Prop) (S : List Nat) (z : Nat) (T : List (Nat × Bool × Bool)) (a : Act) (N : Nat) (env : List (Nat × Value)) (w : World) : Prop :=
  a.tmps.size = N → (∀ p ∈ env, p.1 < N) → GrowL P ops Q S z T (puts a env) w
theorem growe_start {S : List Nat} {z : Nat} {T : List (Nat × Bool × Bool)} {a : Act} {w : World} {N : Nat} (hN : a.tmps.size = N) (h : GrowE P ops Q S z T a N [] w) : GrowL P ops Q S z T a w :=
  h hN (by simp)
theorem more_lt {d N : Nat} {v : Value} {env : List (Nat × Value)} (hd : d < N) (he : ∀ p ∈ env, p.1 < N) : ∀ p ∈ (d, v) :: env, p.1 < N := by
  intro p hp
  rcases List.mem_cons.1 hp with rfl | hp
  · exact hd
  · exact he p hp
section
variable {S : List Nat} {z : Nat} {i : Nat} {f c : Bool} {oi : Oper} {d : Nat} {T : List (Nat × Bool × Bool)} {a : Act} {w : World} {N : Nat} {env : List (Nat × Value)}
theorem ge_off (hi : ops[i]? = some oi) (hdst : oi.dst = some d) (hd : decide (d < N) = true) (hw : wantE ops env oi = some false) (h : GrowE P ops Q S z T a N ((d, undef) :: env) w) : GrowE P ops Q S z ((i, true, c) :: T) a N env w := by
  intro hN he
  subst hN
  refine growl_off hi (wantE_spec a he hw) ?_
  rw [hdst]
  exact h rfl (more_lt (of_decide_eq_true hd) he)
theorem ge_val {v : Value} (hi : ops[i]? = some oi) (hdst : oi.dst = some d) (hd : decide (d < N) = true) (hw : wantE ops env oi = some true) (hy : ∀ w', Only S w w' → (execOp (evE a env) oi).run P w' = .ok (.value v) w')
    (h : GrowE P ops Q S z T a N ((d, v) :: env) w) : GrowE P ops Q S z ((i, true, c) :: T) a N env w := by
  intro hN he
  subst hN
  refine growl_on hi (wantE_spec a he hw) (by rw [puts_eval a env he]; exact hy) ?_
  rw [hdst]
  exact h rfl (more_lt (of_decide_eq_true hd) he)
/-- What an operation copies. -/
def copies : Op → Option Operand
  | .move x | .assign x => some x
  | _ => none
theorem ge_move {v : Value} {x : Operand} (hi : ops[i]? = some oi) (hdst : oi.dst = some d) (hd : decide (d < N) = true) (hw : wantE ops env oi = some true) (hx : copies oi.op = some x) (hv : evE a env x = v)
    (h : GrowE P ops Q S z T a N ((d, v) :: env) w) : GrowE P ops Q S z ((i, true, c) :: T) a N env w := by
  refine ge_val hi hdst hd hw (fun w' _ => ?_) h
  subst hv
  unfold copies at hx
  unfold execOp
  split at hx
  · cases hx; rename_i heq; rw [heq]; rfl
  · cases hx; rename_i heq; rw [heq]; rfl
  · cases hx
theorem ge_pick {b : Bool} {v : Value} {x y y2 : Operand} (hi : ops[i]? = some oi) (hdst : oi.dst = some d) (hd : decide (d < N) = true) (hw : wantE ops env oi = some true) (hx : oi.op = .pick x y y2) (hb : evE a env x = .bool b)
    (hv : (if b = true then evE a env y else evE a env y2) = v) (h : GrowE P ops Q S z T a N ((d, v) :: env) w) : GrowE P ops Q S z ((i, true, c) :: T) a N env w := by
  refine ge_val hi hdst hd hw (fun w' _ => ?_) h
  subst hv
  unfold execOp
  rw [hx]
  simp only [hb, asBool]
  cases b <;> rfl
/-- A call of a Go function, that comes up alone. -/
theorem ge_call {g : FuncId} {xs : Array Operand} {tys : Array TypeId} {vs : Array Value} (hi : ops[i]? = some oi) (hdst : oi.dst = some d) (hd : decide (d < N) = true) (hw : wantE ops env oi = some true)
    (hx : oi.op = .call { callee := .value (.func g), args := xs, argTypes := tys }) (hvs : xs.map (evE a env) = vs) (hcf : (callFunc g vs).run P w = .ok (.enter g vs) w)
    (h : Calls P g vs w fun e w' => ∃ v, e = .returned v ∧ Only S w w' ∧ GrowE P ops Q S z T a N ((d, v) :: env) w') : GrowE P ops Q S z ((i, f, true) :: T) a N env w := by
  intro hN he
  subst hN
  refine growl_alone hi (wantE_spec a he hw) ?_
  unfold Oper.wp execOp
  rw [puts_eval a env he, hx]
  have hr : (do let d ← resolve (evE a env) { callee := .value (.func g), args := xs, argTypes := tys } oi.type; invoke d.target d.args).run P w = .ok (.enter g vs) w := by
    simp only [resolve, Sem.run_bind, hvs]
    have e1 : (evE a env (.func g)) = .func (.func g) #[] #[] := rfl
    rw [e1]
    simp only [Deferred.ofValue]
    simp [invoke, hcf]
  rw [hr]
  simp only [Oper.upon]
  refine Calls.mono h fun e w' ⟨v, he', ho, hg⟩ => ?_
  subst he'
  refine ⟨.inr ho, ?_⟩
  rw [hdst]
  exact hg rfl (more_lt (of_decide_eq_true hd) he)
/-- An operation that makes memory and comes up alone. -/
theorem ge_mem {v : Value} {w' : World} (hi : ops[i]? = some oi) (hdst : oi.dst = some d) (hd : decide (d < N) = true) (hw : wantE ops env oi = some true) (hy : (execOp (evE a env) oi).run P w = .ok (.value v) w')
    (ho : Only S w w') (h : GrowE P ops Q S z T a N ((d, v) :: env) w') : GrowE P ops Q S z ((i, f, true) :: T) a N env w := by
  intro hN he
  subst hN
  refine growl_alone hi (wantE_spec a he hw) ?_
  unfold Oper.wp
  rw [puts_eval a env he, hy]
  simp only [Oper.upon]
  refine ⟨.inr ho, ?_⟩
  rw [hdst]
  exact h rfl (more_lt (of_decide_eq_true hd) he)
/-- The operation that waits for all others. -/
theorem ge_last {w' : World} (hi : ops[z]? = some oi) (hdst : oi.dst = none) (hw : wantE ops env oi = some true) (hy : (execOp (evE a env) oi).run P w = .ok .skip w')
    (h : Q .normal (puts a env) w') : GrowE P ops Q S z ((z, f, true) :: []) a N env w := by
  intro hN he
  subst hN
  refine growl_alone hi (wantE_spec a he hw) ?_
  unfold Oper.wp
  rw [puts_eval a env he, hy]
  simp only [Oper.upon]
  refine ⟨.inl trivial, ?_⟩
  rw [hdst]
  exact h
theorem ge_done (h : Q .normal (puts a env) w) : GrowE P ops Q S z [] a N env w := fun _ _ => h
end
end
end L
/-- A slice of the call's own stays what it is. -/
theorem ownsRow_only {w w' : World} {base : Nat} {e : TypeId} {size : Nat} {v : Value} {n : Nat} {xs : List Value} {S : List Nat} (h : w.ownsRow base e size v n xs) (ho : Only S w w') (hS : ∀ k, v.ownBlock = some k → k ∉ S) : w'.ownsRow base e size v n xs := by
  refine ⟨h.1, ?_⟩
  rcases h.2 with hn | ⟨g, cap, cur, hv, hb, hg, rest⟩
  · exact .inl hn
  · exact .inr ⟨g, cap, cur, hv, hb, ho.heap hg (hS g (by rw [hv]; rfl)), rest⟩
end Go.Proofs.Ytgmcmhlomfeldaa
/-! ### A -/
namespace Go.Proofs.Ytgmcmhlomfeldaa
open Go.RowKit
section
variable {P : Program}
theorem run_append_row (w : World) (t ty : TypeId) (base : Nat) (e : TypeId) (size bytes : Nat) (z : Value) (ht : P.underlying t = some (.slice e)) (hinfo : (P.info? e).map (fun i => (i.zero, i.size, i.bytes)) = some (some z, size, bytes))
    (hzs : z.cells.size = size) (hsz : 0 < size) (v : Value) (n : Nat) (xs : List Value) (hown : w.ownsRow base e size v n xs)
    (A : Option Addr) (m c : Nat) (news : List Value) (hl : news.length = m * size) (hA : 0 < m → ∃ ad, A = some ad ∧ CellsAt w ad news) (h1 : ∀ u ∈ news, u.oneCell' = true)
    (h63 : n + m ≤ maxLen) (hbytes : (n + m) * bytes ≤ 140737488355328) (hbase : base ≤ w.heap.size) :
    ∃ A' c' w', (Builtin.append_ #[t, t] ty #[v, .slice A m c]).run P w = .ok (.slice A' (n + m) c') w' ∧ w'.ownsRow base e size (.slice A' (n + m) c') (n + m) (xs ++ news) ∧ Only v.ownBlock.toList w w' ∧
      (∀ k, (Value.slice A' (n + m) c').ownBlock = some k → v.ownBlock = some k ∨ w.heap.size ≤ k) := by
  obtain ⟨i, h2, h3, h4, h5⟩ := info_parts hinfo
  rcases Nat.eq_zero_or_pos m with hm | hm
  · subst hm
    obtain rfl : news = [] := List.eq_nil_of_length_eq_zero (by omega)
    rw [List.append_nil, Nat.add_zero]
    rcases hown.2 with ⟨rfl, rfl⟩ | ⟨g, cap, cur, rfl, hb, hg, hnc, _⟩
    · refine ⟨none, 0, w, ?_, hown, Only.refl _ _, fun k hk => .inl hk⟩
      cases A <;> simp [Builtin.append_, run_underlying ht, sizeOf, typeInfo, h2, Builtin.lenOf, Builtin.firstCells, loadCells, loadCellsFrom]
    · refine ⟨_, _, w, ?_, hown, Only.refl _ _, fun k hk => .inl hk⟩
      cases A <;> simp [Builtin.append_, run_underlying ht, sizeOf, typeInfo, h2, Builtin.lenOf, Builtin.firstCells, loadCells, loadCellsFrom, storeCells, hnc]
  · obtain ⟨ad, rfl, hc⟩ := hA hm
    obtain ⟨g, cap, w', hr, h6, h7, h8, h9⟩ := run_append_lies (P := P) w t ty base e i z size bytes ht h2 h3 h4 h5 hzs hsz v n xs hown ad m c news hl hc h1 hm h63 hbytes hbase _ rfl
    refine ⟨_, _, w', hr, h6, (Only.refl _ _).grown h7 (fun k hk => .inl (by rw [hk]; simp)), fun k hk => ?_⟩
    obtain rfl : g = k := by simpa [Value.ownBlock] using hk
    exact h8.imp id (fun h => by omega)
theorem wpList_append_row {ops : Array Oper} {rest : List Oper} {o : Oper} {a : Act} {w : World} {Q : Exit → Act → World → Prop} (hgd : o.guard = none) (s x : Operand) (t : TypeId)
    (ho : o.op = .call { callee := .builtin .append, args := #[s, x], argTypes := #[t, t] })
    (base : Nat) (e : TypeId) (size bytes : Nat) (z : Value) (ht : P.underlying t = some (.slice e)) (hinfo : (P.info? e).map (fun i => (i.zero, i.size, i.bytes)) = some (some z, size, bytes))
    (hzs : z.cells.size = size) (hsz : 0 < size) (v : Value) (n : Nat) (xs : List Value) (hs : a.eval s = v) (hown : w.ownsRow base e size v n xs)
    (A : Option Addr) (m c : Nat) (news : List Value) (hx : a.eval x = .slice A m c) (hl : news.length = m * size) (hA : 0 < m → ∃ ad, A = some ad ∧ CellsAt w ad news) (h1 : ∀ u ∈ news, u.oneCell' = true)
    (h63 : n + m ≤ maxLen) (hbytes : (n + m) * bytes ≤ 140737488355328) (hbase : base ≤ w.heap.size)
    (h : ∀ A' c' w', w'.ownsRow base e size (.slice A' (n + m) c') (n + m) (xs ++ news) → Only v.ownBlock.toList w w' → (∀ k, (Value.slice A' (n + m) c').ownBlock = some k → v.ownBlock = some k ∨ w.heap.size ≤ k) →
      wpList P ops Q rest (a.put o.dst (.slice A' (n + m) c')) w') : wpList P ops Q (o :: rest) a w := by
  refine wpList_plain hgd fun K hK => ?_
  obtain ⟨A', c', w', hr, h2, h3, h4⟩ := run_append_row (P := P) w t o.type base e size bytes z ht hinfo hzs hsz v n xs hown A m c news hl hA h1 h63 hbytes hbase
  unfold Oper.wp execOp
  simp only [ho, resolve, invoke, builtin, Sem.run_bind, Sem.run_pure, Result.andThen_ok, List.map_toArray, List.map_cons, List.map_nil, hs, hx, hr]
  exact hK _ _ (h A' c' w' h2 h3 h4)
/-- The same in a region that draws its order. -/
theorem ge_append_row {ops : Array Oper} {Q : Exit → Act → World → Prop} {S : List Nat} {z9 : Nat} {i : Nat} {f : Bool} {oi : Oper} {d : Nat} {T : List (Nat × Bool × Bool)} {a : Act} {w : World} {N : Nat} {env : List (Nat × Value)}
    (hi : ops[i]? = some oi) (hdst : oi.dst = some d) (hd : decide (d < N) = true) (hw : L.wantE ops env oi = some true) (s x : Operand) (t : TypeId)
    (ho : oi.op = .call { callee := .builtin .append, args := #[s, x], argTypes := #[t, t] })
    (base : Nat) (e : TypeId) (size bytes : Nat) (z : Value) (ht : P.underlying t = some (.slice e)) (hinfo : (P.info? e).map (fun i => (i.zero, i.size, i.bytes)) = some (some z, size, bytes))
    (hzs : z.cells.size = size) (hsz : 0 < size) (v : Value) (n : Nat) (xs : List Value) (hs : L.evE a env s = v) (hown : w.ownsRow base e size v n xs)
    (A : Option Addr) (m c : Nat) (news : List Value) (hx : L.evE a env x = .slice A m c) (hl : news.length = m * size) (hA : 0 < m → ∃ ad, A = some ad ∧ CellsAt w ad news) (h1 : ∀ u ∈ news, u.oneCell' = true)
    (h63 : n + m ≤ maxLen) (hbytes : (n + m) * bytes ≤ 140737488355328) (hbase : base ≤ w.heap.size)
    (h : ∀ A' c' w', w'.ownsRow base e size (.slice A' (n + m) c') (n + m) (xs ++ news) → Only v.ownBlock.toList w w' → (∀ k, (Value.slice A' (n + m) c').ownBlock = some k → v.ownBlock = some k ∨ w.heap.size ≤ k) →
      Only S w w' ∧ L.GrowE P ops Q S z9 T a N ((d, .slice A' (n + m) c') :: env) w') : L.GrowE P ops Q S z9 ((i, f, true) :: T) a N env w := by
  obtain ⟨A', c', w', hr, h2, h3, h4⟩ := run_append_row (P := P) w t oi.type base e size bytes z ht hinfo hzs hsz v n xs hown A m c news hl hA h1 h63 hbytes hbase
  obtain ⟨h5, h6⟩ := h A' c' w' h2 h3 h4
  refine L.ge_mem hi hdst hd hw (w' := w') ?_ h5 h6
  unfold execOp
  simp only [ho, resolve, invoke, builtin, Sem.run_bind, Sem.run_pure, Result.andThen_ok, List.map_toArray, List.map_cons, List.map_nil, hs, hx, hr]
end
end Go.Proofs.Ytgmcmhlomfeldaa
/-! ### Own -/
namespace Go.Proofs.Ytgmcmhlomfeldaa
open Go.RowKit
set_option linter.unusedSimpArgs false
set_option linter.unusedVariables false
theorem ownsRow_lt {w : World} {base : Nat} {e : TypeId} {size : Nat} {v : Value} {n : Nat} {xs : List Value} (h : w.ownsRow base e size v n xs) {k : Nat} (hk : v.ownBlock = some k) : base ≤ k ∧ k < w.heap.size := by
  rcases h.2 with ⟨rfl, _⟩ | ⟨g, cap, cur, rfl, hb, hg, _⟩
  · cases hk
  · obtain rfl : g = k := by simpa [Value.ownBlock] using hk
    exact ⟨hb, heap_lt hg⟩
theorem ownsRow_slice {w : World} {base : Nat} {e : TypeId} {size : Nat} {v : Value} {n : Nat} {xs : List Value} (h : w.ownsRow base e size v n xs) : ∃ A c, v = .slice A n c ∧ n ≤ c ∧ (0 < n → ∃ ad, A = some ad ∧ CellsAt w ad xs) := by
  rcases h.2 with ⟨rfl, rfl⟩ | ⟨g, cap, cur, rfl, hb, hg, hn, hm, hcs, ht⟩
  · exact ⟨none, 0, rfl, Nat.le_refl _, fun h => by omega⟩
  · refine ⟨_, cap, rfl, hn, fun _ => ⟨_, rfl, ?_⟩⟩
    intro j v hj
    have := cellsAt_row (cs := cur.toList) (by simpa using hg)
    refine this j v ?_
    rw [← ht, List.getElem?_take] at hj
    split at hj
    · exact hj
    · cases hj
theorem ownsRow_mono {w : World} {base base' : Nat} {e : TypeId} {size : Nat} {v : Value} {n : Nat} {xs : List Value} (h : w.ownsRow base e size v n xs) (hb : base' ≤ base) : w.ownsRow base' e size v n xs := by
  refine ⟨h.1, h.2.imp id ?_⟩
  rintro ⟨g, cap, cur, hv, h1, rest⟩
  exact ⟨g, cap, cur, hv, by omega, rest⟩
theorem ownsRow_nil (w : World) (base : Nat) (e : TypeId) (size : Nat) : w.ownsRow base e size (.slice none 0 0) 0 [] := ⟨by simp, .inl ⟨rfl, rfl⟩⟩
section
variable {P : Program}
section region
variable {ops : Array Oper} {Q : Exit → Act → World → Prop} {S : List Nat} {z9 : Nat} {i : Nat} {f : Bool} {oi : Oper} {d : Nat} {T : List (Nat × Bool × Bool)} {a : Act} {w : World} {N : Nat} {env : List (Nat × Value)}
/-- []T{x} -/
theorem ge_one (hi : ops[i]? = some oi) (hdst : oi.dst = some d) (hd : decide (d < N) = true) (hw : L.wantE ops env oi = some true) (t : TypeId) (x : Operand) (hop : oi.op = .buildSlice t 1 #[(0, x)]) (e : TypeId) (ht : P.underlying t = some (.slice e))
    (z : Value) (size bytes : Nat) (hinfo : (P.info? e).map (fun i => (i.zero, i.size, i.bytes)) = some (some z, size, bytes)) (hs0 : 0 < size) (hs1 : size ≤ 1000) (cells : Array Value)
    (hfill : Instr.fill (fun i => some (i * size, size)) ((Array.range (1 * size)).map (z.cells[· % z.cells.size]!)) [(0, L.evE a env x)] = some cells)
    (h : L.GrowE P ops Q S z9 T a N ((d, .slice (some ⟨w.heap.size, 0, none⟩) 1 1) :: env) (w.alloc (.cells cells e))) : L.GrowE P ops Q S z9 ((i, f, true) :: T) a N env w := by
  obtain ⟨ie, h2, h3, h4, h5⟩ := info_parts hinfo
  subst h4
  refine L.ge_mem hi hdst hd hw (w' := w.alloc (.cells cells e)) ?_ ((Only.refl _ _).alloc _) h
  have := run_buildSlice (P := P) w t e 1 #[(0, L.evE a env x)] cells ie z ht h2 h3 (by omega) (by omega) hfill
  unfold execOp
  simp [hop, this]
end region
end
end Go.Proofs.Ytgmcmhlomfeldaa
/-! ### Kd -/
namespace Go.Proofs.Ytgmcmhlomfeldaa
open Go.RowKit Go.Proofs.YtgmcmhlomfeldaaW.PrintWords
theorem Kd.C_cells {α : Type} {d : Kd α} {w : World} {A : Option Addr} {n : Nat} {xs : List α} (h : Kd.C d w A n xs) (k : Nat) (hk : k < xs.length) :
    ∃ ad cs, A = some ad ∧ cs.length = d.sz ∧ d.K w xs[k] cs ∧ CellsAt w (ad.add (k * d.sz)) cs := by
  have hn := h.1
  obtain ⟨ad, he, hc⟩ := h.2.2 (by omega)
  obtain ⟨c, h1, h2, h3⟩ := hc k _ (List.getElem?_eq_getElem hk)
  refine ⟨ad, c, he, h1, h2, fun j v hj => ?_⟩
  rw [Go.Deep.add_add]
  exact h3 j v hj
theorem getD_at {α : Type} (xs : List α) (z : α) (k : Nat) (hk : k < xs.length) : xs.getD ((k : Int)).toNat z = xs[k] := by
  rw [Int.toNat_natCast, List.getD_eq_getElem?_getD, List.getElem?_eq_getElem hk]
  rfl
/-- A row that is read has its cells one behind the other. -/
theorem Kd.C_flat {α : Type} {d : Kd α} {w : World} {A : Option Addr} {xs : List α} (h : Kd.C d w A xs.length xs) :
    ∃ news, Reps (d.K w) d.sz xs news ∧ (0 < xs.length → ∃ ad, A = some ad ∧ CellsAt w ad news) ∧ ∀ u ∈ news, u.oneCell' = true := by
  by_cases h0 : 0 < xs.length
  · obtain ⟨ad, he, _⟩ := h.2.2 h0
    subst he
    obtain ⟨inner, hr, hc⟩ := ReadsRow.inner_ h
    refine ⟨inner, hr, fun _ => ⟨ad, rfl, hc⟩, fun u hu => ?_⟩
    obtain ⟨i, hi, rfl⟩ := List.getElem_of_mem hu
    have hl := hr.1
    have hsz : 0 < d.sz := by
      rcases Nat.eq_zero_or_pos d.sz with e | e
      · rw [e, Nat.mul_zero] at hl; omega
      · exact e
    have hi2 : i / d.sz < xs.length := by rw [Nat.div_lt_iff_lt_mul hsz]; omega
    have hK := hr.2 (i / d.sz) _ (List.getElem?_eq_getElem hi2)
    refine d.K_one hK _ ?_
    refine List.mem_of_getElem? (i := i % d.sz) ?_
    rw [List.getElem?_take, if_pos (Nat.mod_lt _ hsz), List.getElem?_drop, Nat.mul_comm, Nat.div_add_mod, List.getElem?_eq_getElem hi]
  · obtain rfl : xs = [] := List.eq_nil_of_length_eq_zero (by omega)
    exact ⟨[], Reps.none _ _, fun h => absurd h (by simp), fun u hu => by simp at hu⟩
/-- What was made of the cells of a row of flat values is a row of one's own. -/
theorem Kd.R_of_own {α : Type} {d : Kd α} {e : Nat} {w w' : World} {base : Nat} {xs : List α} {news : List Value} {v : Value} (hM : ∀ x cs, d.K w x cs → d.M w' base (fun k => True ∧ some k ≠ v.ownBlock) x cs) (hr : Reps (d.K w) d.sz xs news)
    (ho : w'.ownsRow base e d.sz v xs.length news) : Kd.R d e w' base (fun _ => True) v xs := ⟨fun _ _ => trivial, news, ho, hr.imp_ hM⟩
end Go.Proofs.Ytgmcmhlomfeldaa
/-! ### Sto -/
namespace Go.Proofs.Ytgmcmhlomfeldaa
open Go.RowKit
section
variable {P : Program}
theorem run_storeVar_in (w : World) (ty : TypeId) (g off : Nat) (t : TypeId) (cur cs : List Value) (v : Value) (hg : w.heap[g]? = some (.cells cur.toArray t (0, 0))) (hv : v.cells.toList = cs) (hi : (P.info? ty).map (·.size) = some cs.length)
    (hfit : off + cs.length ≤ cur.length) (h1 : ∀ u ∈ cs, u.oneCell' = true) :
    ∃ w', (storeVar ty ⟨g, off, none⟩ v).run P w = .ok () w' ∧ w'.heap[g]? = some (.cells (splice cur off cs).toArray t (0, 0)) ∧ Only [g] w w' := by
  obtain ⟨i, hi0, hi1⟩ := Option.map_eq_some_iff.1 hi
  have hst := run_storeCells_at P g off t cs 0 cur.toArray w hg (by simpa using hfit) h1
  have e1 : (List.take (off + 0) cur.toArray.toList ++ cs ++ List.drop (off + 0 + cs.length) cur.toArray.toList).toArray = (splice cur off cs).toArray := by simp [splice]
  rw [e1] at hst
  refine ⟨w.setRow g (splice cur off cs).toArray, ?_, setRow_heap w g _ _ t _ hg, (Only.refl _ _).setRow (by simp) _⟩
  have hs : v.cells.size = i.size := by rw [hi1, ← hv]; simp
  simp [storeVar, sizeOf, typeInfo, hi0, hs, hv, hst]
/-- Two results, the first in a variable of its own: a row. -/
theorem results_row {fn : Func} {p u : Tmp} {ty : TypeId} (h : fn.results = #[.cell p ty, .tmp u]) (tmps : Array Value) (w : World) (g : Nat) (t : TypeId) (cs : Array Value) (fr : Nat × Nat) (d : TypeDesc)
    (hp : tmps.getD p undef = .pointer (some ⟨g, 0, none⟩)) (hg : w.heap[g]? = some (.cells cs t fr))
    (hu : P.underlying ty = some d) (hd : (match d with | .struct _ | .array _ _ => true | _ => false) = true) (hi : (P.info? ty).map (·.size) = some cs.size) :
    (results fn tmps).run P w = .ok (.tuple #[.agg cs, tmps.getD u undef]) w := by
  rw [results_cell_tmp h, hp]
  simp [asAddr, run_loadVar_row w g t ty cs fr d hg hu hd hi]
end
end Go.Proofs.Ytgmcmhlomfeldaa
/-! ### Sep -/
namespace Go.Proofs.Ytgmcmhlomfeldaa
open Go.RowKit
inductive Res where
  | blk (b : Nat) (t : TypeId) (cs : List Value)
  | row (v : Value) (e : TypeId) (size n : Nat) (xs : List Value)
  | obj (b : Nat) (o : Obj)
def Res.block : Res → Option Nat
  | .blk b _ _ => some b
  | .row v _ _ _ _ => v.ownBlock
  | .obj b _ => some b
def Res.holds (w : World) (base : Nat) : Res → Prop
  | .blk b t cs => base ≤ b ∧ w.heap[b]? = some (.cells cs.toArray t (0, 0))
  | .row v e size n xs => w.ownsRow base e size v n xs
  | .obj b o => base ≤ b ∧ w.heap[b]? = some o
theorem Res.holds.lt {w : World} {base : Nat} {r : Res} (h : r.holds w base) {k : Nat} (hk : r.block = some k) : base ≤ k ∧ k < w.heap.size := by
  cases r with
  | blk b t cs =>
    obtain rfl : b = k := by simpa [Res.block] using hk
    exact ⟨h.1, heap_lt h.2⟩
  | row v e size n xs => exact ownsRow_lt h hk
  | obj b o =>
    obtain rfl : b = k := by simpa [Res.block] using hk
    exact ⟨h.1, heap_lt h.2⟩
theorem Res.holds.only {S : List Nat} {w w' : World} {base : Nat} {r : Res} (h : r.holds w base) (ho : Only S w w') (hS : ∀ k, r.block = some k → k ∉ S) : r.holds w' base := by
  cases r with
  | blk b t cs => exact ⟨h.1, ho.heap h.2 (hS b rfl)⟩
  | row v e size n xs => exact ownsRow_only h ho hS
  | obj b o => exact ⟨h.1, ho.heap h.2 (hS b rfl)⟩
/-- Behind the world w0 this is one's own, each apart from each; all that lay in w0 lies as it lay. -/
structure St (w0 : World) (L : List Res) (w : World) : Prop where
  only : Only [] w0 w
  each : ∀ (i : Nat) (r : Res), L[i]? = some r → r.holds w w0.heap.size
  apart : ∀ (i j : Nat) (r s : Res) (k : Nat), L[i]? = some r → L[j]? = some s → r.block = some k → s.block = some k → i = j
section
variable {w0 w w' : World} {L : List Res}
theorem St.of_only (h : Only [] w0 w) : St w0 [] w := ⟨h, by simp, by simp⟩
theorem St.nil (w0 : World) : St w0 [] w0 := .of_only (Only.refl _ _)
theorem St.keep (h : St w0 L w) (ho : Only [] w w') : St w0 L w' := ⟨h.only.trans ho, fun i r hi => (h.each i r hi).only ho (by simp), h.apart⟩
theorem St.below (h : St w0 L w) (hb : Below w.heap.size w w') : St w0 L w' := h.keep (Only.of_below hb)
theorem St.le (h : St w0 L w) : w0.heap.size ≤ w.heap.size := h.only.size
theorem St.lt (h : St w0 L w) {i : Nat} {r : Res} (hi : L[i]? = some r) {k : Nat} (hk : r.block = some k) : w0.heap.size ≤ k ∧ k < w.heap.size := (h.each i r hi).lt hk
theorem St.heap (h : St w0 L w) (i : Nat) {b : Nat} {t : TypeId} {cs : List Value} (hi : L[i]? = some (.blk b t cs)) : w.heap[b]? = some (.cells cs.toArray t (0, 0)) := (h.each i _ hi).2
theorem St.cells (h : St w0 L w) (i : Nat) {b : Nat} {t : TypeId} {cs : List Value} (hi : L[i]? = some (.blk b t cs)) : CellsAt w ⟨b, 0, none⟩ cs := cellsAt_row (h.heap i hi)
theorem St.cell (h : St w0 L w) (i j : Nat) {b : Nat} {t : TypeId} {cs : List Value} {u : Value} (hi : L[i]? = some (.blk b t cs)) (hj : cs[j]? = some u) : w.cell? ⟨b, j, none⟩ = some u := by
  rw [cell_of_row w b j _ _ _ (h.heap i hi), ← Array.getElem?_toList]
  exact hj
theorem St.row (h : St w0 L w) (i : Nat) {v : Value} {e : TypeId} {size n : Nat} {xs : List Value} (hi : L[i]? = some (.row v e size n xs)) : w.ownsRow w0.heap.size e size v n xs := h.each i _ hi
/-- Something new. -/
theorem St.add (h : St w0 L w) (ho : Only [] w w') {r : Res} (hr : r.holds w' w0.heap.size) (hn : ∀ k, r.block = some k → w.heap.size ≤ k) : St w0 (L ++ [r]) w' := by
  have hget : ∀ (i : Nat) (s : Res), (L ++ [r])[i]? = some s → (i < L.length ∧ L[i]? = some s) ∨ (i = L.length ∧ s = r) := by
    intro i s hi
    rw [List.getElem?_append] at hi
    split at hi
    · exact .inl ⟨‹_›, hi⟩
    · have := (List.getElem?_eq_some_iff.1 hi).1
      simp at this
      obtain rfl : i = L.length := by omega
      simp at hi
      exact .inr ⟨rfl, hi.symm⟩
  refine ⟨h.only.trans ho, fun i s hi => ?_, fun i j s t k hi hj hs ht => ?_⟩
  · rcases hget i s hi with ⟨_, h1⟩ | ⟨_, rfl⟩
    · exact (h.each i s h1).only ho (by simp)
    · exact hr
  · rcases hget i s hi with ⟨_, h1⟩ | ⟨h1, rfl⟩ <;> rcases hget j t hj with ⟨_, h2⟩ | ⟨h2, rfl⟩
    · exact h.apart i j s t k h1 h2 hs ht
    · have := (h.lt h1 hs).2; have := hn k ht; omega
    · have := (h.lt h2 ht).2; have := hn k hs; omega
    · omega
theorem St.alloc (h : St w0 L w) (cs : List Value) (t : TypeId) : St w0 (L ++ [.blk w.heap.size t cs]) (w.alloc (.cells cs.toArray t)) :=
  h.add ((Only.refl _ _).alloc _) ⟨h.le, heap_alloc_new w _⟩ (fun k hk => by simp [Res.block] at hk; omega)
/-- A row that a call has made. -/
theorem St.made (h : St w0 L w) (ho : Only [] w w') {v : Value} {e : TypeId} {size n : Nat} {xs : List Value} (hv : w'.ownsRow w.heap.size e size v n xs) : St w0 (L ++ [.row v e size n xs]) w' :=
  h.add ho (r := .row v e size n xs) (ownsRow_mono hv h.le) (fun _ hk => (ownsRow_lt hv hk).1)
theorem St.empty (h : St w0 L w) (e : TypeId) (size : Nat) : St w0 (L ++ [.row (.slice none 0 0) e size 0 []]) w := h.made (Only.refl _ _) (ownsRow_nil _ _ _ _)
/-- One of them is turned. -/
theorem St.set (h : St w0 L w) (i : Nat) {r : Res} (hi : L[i]? = some r) {S : List Nat} (ho : Only S w w') (hS : ∀ k, k ∈ S → r.block = some k) {r' : Res} (hr : r'.holds w' w0.heap.size)
    (hk : ∀ k, r'.block = some k → r.block = some k ∨ w.heap.size ≤ k) : St w0 (L.set i r') w' := by
  have hget : ∀ (j : Nat) (s : Res), (L.set i r')[j]? = some s → (j ≠ i ∧ L[j]? = some s) ∨ (j = i ∧ s = r') := by
    intro j s hj
    rw [List.getElem?_set] at hj
    split at hj
    · rename_i hij
      split at hj
      · exact .inr ⟨hij.symm, (Option.some.inj hj).symm⟩
      · cases hj
    · exact .inl ⟨fun e => by omega, hj⟩
  have hbl : ∀ k, k ∈ S → w0.heap.size ≤ k := fun k hk' => (h.lt hi (hS k hk')).1
  refine ⟨(h.only.then ho (fun k hk' => .inr (hbl k hk'))), fun j s hj => ?_, fun j l s t k hj hl hs ht => ?_⟩
  · rcases hget j s hj with ⟨h1, h2⟩ | ⟨_, rfl⟩
    · exact (h.each j s h2).only ho (fun k hk' hm => h1 (h.apart j i s r k h2 hi hk' (hS k hm)))
    · exact hr
  · rcases hget j s hj with ⟨h1, h2⟩ | ⟨h1, rfl⟩ <;> rcases hget l t hl with ⟨h3, h4⟩ | ⟨h3, rfl⟩
    · exact h.apart j l s t k h2 h4 hs ht
    · rcases hk k ht with h5 | h5
      · exact (h1 (h.apart j i s r k h2 hi hs h5)).elim
      · have := (h.lt h2 hs).2; omega
    · rcases hk k hs with h5 | h5
      · exact (h3 (h.apart l i t r k h4 hi ht h5)).elim
      · have := (h.lt h4 ht).2; omega
    · omega
theorem St.store (h : St w0 L w) (i : Nat) {b : Nat} {t : TypeId} {cs cs' : List Value} (hi : L[i]? = some (.blk b t cs)) (ho : Only [b] w w') (hg : w'.heap[b]? = some (.cells cs'.toArray t (0, 0))) : St w0 (L.set i (.blk b t cs')) w' :=
  h.set i hi ho (fun k hk => by simp at hk; simp [Res.block, hk]) (r' := .blk b t cs') ⟨(h.each i _ hi).1, hg⟩ (fun k hk => .inl hk)
theorem St.grow (h : St w0 L w) (i : Nat) {v v' : Value} {e : TypeId} {size n n' : Nat} {xs xs' : List Value} (hi : L[i]? = some (.row v e size n xs)) (ho : Only v.ownBlock.toList w w') (hv : w'.ownsRow w0.heap.size e size v' n' xs')
    (hk : ∀ k, v'.ownBlock = some k → v.ownBlock = some k ∨ w.heap.size ≤ k) : St w0 (L.set i (.row v' e size n' xs')) w' :=
  h.set i hi ho (fun k hk => by simpa [Res.block] using hk) (r' := .row v' e size n' xs') hv hk
/-- Some of them, in another order. -/
theorem St.pick (h : St w0 L w) {L' : List Res} (f : Nat → Nat) (hf : ∀ i j, i < L'.length → j < L'.length → f i = f j → i = j) (hL : ∀ i r, L'[i]? = some r → L[f i]? = some r) : St w0 L' w :=
  ⟨h.only, fun i r hi => h.each _ r (hL i r hi), fun i j r s k hi hj hr hs => hf i j (List.getElem?_eq_some_iff.1 hi).1 (List.getElem?_eq_some_iff.1 hj).1 (h.apart _ _ r s k (hL i r hi) (hL j s hj) hr hs)⟩
/-- The same where all are told: the places by a function that `decide` looks at. -/
theorem St.pickN (h : St w0 L w) {L' : List Res} (n : Nat) (hn : L'.length = n) (f : Nat → Nat) (hf : ∀ i, i < n → ∀ j, j < n → f i = f j → i = j) (hL : ∀ i r, L'[i]? = some r → L[f i]? = some r) : St w0 L' w :=
  h.pick f (fun i j hi hj e => hf i (hn ▸ hi) j (hn ▸ hj) e) hL
theorem St.front {A B : List Res} (h : St w0 (A ++ B) w) : St w0 A w :=
  h.pick id (fun _ _ _ _ e => e) (fun i r hi => by
    show (A ++ B)[i]? = some r
    rw [List.getElem?_append_left (List.getElem?_eq_some_iff.1 hi).1]
    exact hi)
theorem St.back {A B : List Res} (h : St w0 (A ++ B) w) : St w0 B w :=
  h.pick (fun i => A.length + i) (fun _ _ _ _ e => by omega) (fun i r hi => by
    rw [List.getElem?_append_right (by omega), Nat.add_sub_cancel_left]
    exact hi)
theorem St.others (h : St w0 L w) (i : Nat) {r : Res} (hi : L[i]? = some r) {S : List Nat} (ho : Only S w w') (hS : ∀ k, k ∈ S → r.block = some k) (j : Nat) {s : Res} (hj : L[j]? = some s) (hij : i ≠ j) : s.holds w' w0.heap.size :=
  (h.each j s hj).only ho (fun k hk hm => hij (h.apart i j r s k hi hj (hS k hm) hk))
/-- Another start. -/
theorem St.from (h : St w0 L w) {wa : World} (ha : Only [] wa w0) : St wa L w :=
  ⟨ha.trans h.only, fun i r hi => by
    have := h.each i r hi
    cases r with
    | blk b t cs => exact ⟨Nat.le_trans ha.size this.1, this.2⟩
    | row v e size n xs => exact ownsRow_mono this ha.size
    | obj b o => exact ⟨Nat.le_trans ha.size this.1, this.2⟩, h.apart⟩
/-- Two that lie apart: what a callee has made beside what one had. -/
theorem St.join {M : List Res} (h : St w0 L w) (k : St w M w') : St w0 (L ++ M) w' := by
  have hk := h.keep k.only
  have hlt : ∀ (i : Nat) (r : Res) (b : Nat), L[i]? = some r → r.block = some b → b < w.heap.size := fun i r b hi hb => (h.lt hi hb).2
  have hge : ∀ (i : Nat) (r : Res) (b : Nat), M[i]? = some r → r.block = some b → w.heap.size ≤ b := fun i r b hi hb => (k.lt hi hb).1
  have hm := k.from h.only
  refine ⟨hk.only, fun i r hi => ?_, fun i j r s b hi hj hr hs => ?_⟩
  · rw [List.getElem?_append] at hi
    split at hi
    · exact hk.each i r hi
    · exact hm.each _ r hi
  · rw [List.getElem?_append] at hi hj
    split at hi <;> split at hj
    · exact h.apart i j r s b hi hj hr hs
    · have := hlt _ _ _ hi hr; have := hge _ _ _ hj hs; omega
    · have := hge _ _ _ hi hr; have := hlt _ _ _ hj hs; omega
    · have := k.apart _ _ r s b hi hj hr hs; omega
end
end Go.Proofs.Ytgmcmhlomfeldaa
/-! ### Flat -/
namespace Go.Proofs.Ytgmcmhlomfeldaa
open Go.RowKit Go.Proofs.YtgmcmhlomfeldaaW.PrintWords
set_option linter.unusedVariables false
theorem drop_flat {α : Type} (enc : α → List Value) (sz : Nat) (hlen : ∀ x, (enc x).length = sz) : ∀ (l : List α) (i : Nat), (l.flatMap enc).drop (i * sz) = (l.drop i).flatMap enc
  | [], i => by simp
  | x :: l, 0 => by simp
  | x :: l, i + 1 => by
    rw [List.flatMap_cons, Nat.add_mul, Nat.one_mul, Nat.add_comm (i * sz), ← List.drop_drop]
    rw [show (enc x ++ l.flatMap enc).drop sz = l.flatMap enc by rw [← hlen x]; exact List.drop_left]
    rw [drop_flat enc sz hlen l i, List.drop_succ_cons]
theorem flat_length {α : Type} (enc : α → List Value) (sz : Nat) (hlen : ∀ x, (enc x).length = sz) : ∀ (l : List α), (l.flatMap enc).length = l.length * sz
  | [] => by simp
  | x :: l => by rw [List.flatMap_cons, List.length_append, hlen, flat_length enc sz hlen l, List.length_cons, Nat.add_mul, Nat.one_mul, Nat.add_comm]
/-- A cell of an element. -/
theorem flat_get {α : Type} (enc : α → List Value) (sz : Nat) (hlen : ∀ x, (enc x).length = sz) {l : List α} {i k : Nat} {x : α} {u : Value} (hi : l[i]? = some x) (hk : (enc x)[k]? = some u) : (l.flatMap enc)[i * sz + k]? = some u := by
  obtain ⟨hlt, rfl⟩ := List.getElem?_eq_some_iff.1 hi
  have hks : k < sz := by rw [← hlen l[i]]; exact (List.getElem?_eq_some_iff.1 hk).1
  rw [← List.getElem?_drop, drop_flat enc sz hlen, List.drop_eq_getElem_cons hlt, List.flatMap_cons, List.getElem?_append_left (by rw [hlen]; exact hks)]
  exact hk
/-- An element is turned. -/
theorem flat_set {α : Type} (enc : α → List Value) (sz : Nat) (hlen : ∀ x, (enc x).length = sz) : ∀ (l : List α) (i k : Nat) (x y : α) (u : Value), l[i]? = some x → enc y = (enc x).set k u → k < sz → (l.flatMap enc).set (i * sz + k) u = (l.set i y).flatMap enc
  | [], i, k, x, y, u, hi, _, _ => by simp at hi
  | z :: l, 0, k, x, y, u, hi, hy, hk => by
    simp at hi
    subst hi
    rw [List.flatMap_cons, List.set_cons_zero, List.flatMap_cons, Nat.zero_mul, Nat.zero_add, List.set_append_left _ _ (by rw [hlen]; exact hk), hy]
  | z :: l, i + 1, k, x, y, u, hi, hy, hk => by
    simp at hi
    rw [List.flatMap_cons, List.set_cons_succ, List.flatMap_cons, List.set_append_right _ _ (by rw [hlen, Nat.add_mul]; omega), hlen, show (i + 1) * sz + k - sz = i * sz + k by rw [Nat.add_mul]; omega, flat_set enc sz hlen l i k x y u hi hy hk]
theorem reps_flat {α : Type} (enc : α → List Value) (sz : Nat) (hlen : ∀ x, (enc x).length = sz) {R : α → List Value → Prop} (h : ∀ x cs, R x cs → cs = enc x) : ∀ {xs : List α} {news : List Value}, Reps R sz xs news → news = xs.flatMap enc
  | [], news, hr => by
    have := hr.1
    simp at this
    simpa using this
  | x :: xs, news, hr => by
    have h0 := h x _ (hr.2 0 x rfl)
    rw [Nat.zero_mul, List.drop_zero] at h0
    have hr' : Reps R sz xs (news.drop sz) := by
      refine ⟨?_, fun j p hj => ?_⟩
      · have := hr.1
        rw [List.length_cons, Nat.add_mul, Nat.one_mul] at this
        rw [List.length_drop]
        omega
      · have := hr.2 (j + 1) p hj
        rwa [Nat.add_mul, Nat.one_mul, Nat.add_comm (j * sz), ← List.drop_drop] at this
    have ih := reps_flat enc sz hlen h hr'
    rw [List.flatMap_cons, ← h0, ← ih, List.take_append_drop]
theorem reps_of_flat {α : Type} (enc : α → List Value) (sz : Nat) (hlen : ∀ x, (enc x).length = sz) {R : α → List Value → Prop} (h : ∀ x, R x (enc x)) (xs : List α) : Reps R sz xs (xs.flatMap enc) := by
  refine ⟨flat_length enc sz hlen xs, fun j p hj => ?_⟩
  rw [drop_flat enc sz hlen]
  obtain ⟨hjl, rfl⟩ := List.getElem?_eq_some_iff.1 hj
  rw [List.drop_eq_getElem_cons hjl, List.flatMap_cons, ← hlen xs[j], List.take_left]
  exact h _
/-- A cell of a row of one's own. -/
theorem ownsRow_get {w : World} {base : Nat} {e : TypeId} {size n c g j : Nat} {xs : List Value} {u : Value} (h : w.ownsRow base e size (.slice (some ⟨g, 0, none⟩) n c) n xs) (hj : xs[j]? = some u) : w.cell? ⟨g, j, none⟩ = some u := by
  rcases h.2 with ⟨h1, _⟩ | ⟨g', cap, cur, hv, hb, hg, hn, hm, hs, ht⟩
  · cases h1
  · obtain ⟨rfl, rfl⟩ : g = g' ∧ c = cap := by simpa using hv
    rw [cell_of_row w g j _ _ _ hg, ← Array.getElem?_toList]
    rw [← ht, List.getElem?_take] at hj
    split at hj
    · exact hj
    · cases hj
theorem ownsRow_some {w : World} {base : Nat} {e : TypeId} {size : Nat} {v : Value} {n : Nat} {xs : List Value} (h : w.ownsRow base e size v n xs) (hn : 0 < n) : ∃ g c, v = .slice (some ⟨g, 0, none⟩) n c ∧ n ≤ c := by
  rcases h.2 with ⟨_, h1⟩ | ⟨g', cap, cur, hv, hb, hg, hn', hm, hs, ht⟩
  · omega
  · exact ⟨g', cap, hv, hn'⟩
theorem ownsRow_at {w : World} {base : Nat} {e : TypeId} {size n : Nat} {A : Option Addr} {c : Nat} {xs : List Value} (h : w.ownsRow base e size (.slice A n c) n xs) (hn : 0 < n) : ∃ ad, A = some ad ∧ CellsAt w ad xs := by
  obtain ⟨g, c', hv, _⟩ := ownsRow_some h hn
  obtain ⟨rfl, rfl⟩ : A = some ⟨g, 0, none⟩ ∧ c = c' := by simpa using hv
  refine ⟨_, rfl, fun j u hj => ?_⟩
  have := ownsRow_get h hj
  have e : (⟨g, 0, none⟩ : Addr).add j = ⟨g, j, none⟩ := by unfold Addr.add; split <;> simp_all
  rw [e]
  exact this
theorem ownsRow_len {w : World} {base : Nat} {e : TypeId} {size : Nat} {v : Value} {n : Nat} {xs : List Value} (h : w.ownsRow base e size v n xs) : ∃ A c, v = .slice A n c ∧ n ≤ c := by
  obtain ⟨A, c, rfl, h1, _⟩ := ownsRow_slice h
  exact ⟨A, c, rfl, h1⟩
end Go.Proofs.Ytgmcmhlomfeldaa
/-! ### SepW -/
namespace Go.Proofs.Ytgmcmhlomfeldaa
open Go.RowKit
set_option linter.unusedVariables false
theorem splice_set (xs : List Value) (i : Nat) (u : Value) (h : i < xs.length) : splice xs i [u] = xs.set i u := by
  unfold splice
  rw [List.set_eq_take_append_cons_drop, if_pos h]
  simp
theorem splice_length (xs ys : List Value) (off : Nat) (hk : off + ys.length ≤ xs.length) : (splice xs off ys).length = xs.length := by
  unfold splice
  simp only [List.length_append, List.length_take, List.length_drop]
  rw [Nat.min_eq_left (by omega)]
  omega
theorem splice_take (xs ys : List Value) (off m : Nat) (h : off + ys.length ≤ m) (hm : m ≤ xs.length) : (splice xs off ys).take m = splice (xs.take m) off ys := by
  have e : (List.take off xs ++ ys).length = off + ys.length := by rw [List.length_append, List.length_take]; omega
  have q : ∀ zs : List Value, splice zs off ys = (List.take off zs ++ ys) ++ zs.drop (off + ys.length) := fun zs => by unfold splice; simp
  rw [q, q, List.take_append, List.take_of_length_le (by omega), List.take_take, Nat.min_eq_left (by omega), List.drop_take, e]
section
variable {P : Program} {w0 w : World} {Ls : List Res}
theorem St.run_storeR (h : St w0 Ls w) (i : Nat) {g c e size n : Nat} {xs : List Value} (hi : Ls[i]? = some (.row (.slice (some ⟨g, 0, none⟩) n c) e size n xs)) (ty : TypeId) (off : Nat) (v : Value) (cs : List Value) (hv : v.cells.toList = cs) (hty : (P.info? ty).map (·.size) = some cs.length)
    (hfit : off + cs.length ≤ n * size) (h1 : ∀ u ∈ cs, u.oneCell' = true) : ∃ w', (storeVar ty ⟨g, off, none⟩ v).run P w = .ok () w' ∧ Only [g] w w' ∧ St w0 (Ls.set i (.row (.slice (some ⟨g, 0, none⟩) n c) e size n (splice xs off cs))) w' := by
  have hr := h.row i hi
  rcases hr.2 with ⟨h1, _⟩ | ⟨g', cap, cur, hv', hb, hg, hn, hm, hs, ht⟩
  · cases h1
  · obtain ⟨rfl, rfl⟩ : g = g' ∧ c = cap := by simpa using hv'
    have hlen : cur.toList.length = c * size := by simpa using hs
    have hle : n * size ≤ c * size := Nat.mul_le_mul_right _ hn
    obtain ⟨w', h2, h3, h4⟩ := run_storeVar_in (P := P) w ty g off e cur.toList cs v (by simpa using hg) hv hty (by omega) h1
    refine ⟨w', h2, h4, h.set i hi h4 (fun k hk => by simp at hk; simp [Res.block, Value.ownBlock, hk]) (r' := .row (.slice (some ⟨g, 0, none⟩) n c) e size n (splice xs off cs)) ?_ (fun k hk => .inl hk)⟩
    have hxl : xs.length = n * size := hr.1
    refine ⟨by rw [splice_length _ _ _ (by omega)]; exact hxl, .inr ⟨g, c, (splice cur.toList off cs).toArray, rfl, hb, h3, hn, hm, by simpa [splice_length cur.toList cs off (by omega)] using hs, ?_⟩⟩
    rw [← ht, ← splice_take _ _ _ _ hfit (by omega)]
theorem St.run_storeB (h : St w0 Ls w) (i : Nat) {g : Nat} {t : TypeId} {cur : List Value} (hi : Ls[i]? = some (.blk g t cur)) (ty : TypeId) (off : Nat) (v : Value) (cs : List Value) (hv : v.cells.toList = cs) (hty : (P.info? ty).map (·.size) = some cs.length)
    (hfit : off + cs.length ≤ cur.length) (h1 : ∀ u ∈ cs, u.oneCell' = true) : ∃ w', (storeVar ty ⟨g, off, none⟩ v).run P w = .ok () w' ∧ Only [g] w w' ∧ St w0 (Ls.set i (.blk g t (splice cur off cs))) w' := by
  obtain ⟨w', h2, h3, h4⟩ := run_storeVar_in (P := P) w ty g off t cur cs v (h.heap i hi) hv hty hfit h1
  exact ⟨w', h2, h4, h.store i hi h4 h3⟩
section
variable {ops : Array Oper} {rest : List Oper} {o : Oper} {a : Act} {Q : Exit → Act → World → Prop}
theorem wpList_storeR (hgd : o.guard = none) (ty : TypeId) (x y : Operand) (ho : o.op = .store ty x y) (h : St w0 Ls w) (i : Nat) {g c e size n : Nat} {xs : List Value} (hi : Ls[i]? = some (.row (.slice (some ⟨g, 0, none⟩) n c) e size n xs))
    (off : Nat) (v : Value) (hx : a.eval x = .pointer (some ⟨g, off, none⟩)) (hy : a.eval y = v) (cs : List Value) (hv : v.cells.toList = cs) (hty : (P.info? ty).map (·.size) = some cs.length) (hfit : off + cs.length ≤ n * size) (h1 : ∀ u ∈ cs, u.oneCell' = true)
    (k : ∀ w', Hid (St w0 (Ls.set i (.row (.slice (some ⟨g, 0, none⟩) n c) e size n (splice xs off cs))) w') → wpList P ops Q rest (a.put o.dst undef) w') : wpList P ops Q (o :: rest) a w := by
  refine wpList_plain hgd fun K hK => ?_
  obtain ⟨w', hr, _, h3⟩ := h.run_storeR (P := P) i hi ty off v cs hv hty hfit h1
  unfold Oper.wp execOp
  simp only [ho, hx, hy, Instr.storeAt, Instr.sureAddr, Sem.run_bind, Sem.run_pure, Result.andThen_ok, hr]
  exact hK _ _ (k w' h3)
theorem wpList_storeB (hgd : o.guard = none) (ty : TypeId) (x y : Operand) (ho : o.op = .store ty x y) (h : St w0 Ls w) (i : Nat) {g : Nat} {t : TypeId} {cur : List Value} (hi : Ls[i]? = some (.blk g t cur))
    (off : Nat) (v : Value) (hx : a.eval x = .pointer (some ⟨g, off, none⟩)) (hy : a.eval y = v) (cs : List Value) (hv : v.cells.toList = cs) (hty : (P.info? ty).map (·.size) = some cs.length) (hfit : off + cs.length ≤ cur.length) (h1 : ∀ u ∈ cs, u.oneCell' = true)
    (k : ∀ w', Hid (St w0 (Ls.set i (.blk g t (splice cur off cs))) w') → wpList P ops Q rest (a.put o.dst undef) w') : wpList P ops Q (o :: rest) a w := by
  refine wpList_plain hgd fun K hK => ?_
  obtain ⟨w', hr, _, h3⟩ := h.run_storeB (P := P) i hi ty off v cs hv hty hfit h1
  unfold Oper.wp execOp
  simp only [ho, hx, hy, Instr.storeAt, Instr.sureAddr, Sem.run_bind, Sem.run_pure, Result.andThen_ok, hr]
  exact hK _ _ (k w' h3)
theorem wpList_appendR (hgd : o.guard = none) (s x : Operand) (t : TypeId) (ho : o.op = .call { callee := .builtin .append, args := #[s, x], argTypes := #[t, t] }) (h : St w0 Ls w) (i : Nat) {v : Value} {e size n : Nat} {xs : List Value} (hi : Ls[i]? = some (.row v e size n xs))
    (bytes : Nat) (z : Value) (ht : P.underlying t = some (.slice e)) (hinfo : (P.info? e).map (fun i => (i.zero, i.size, i.bytes)) = some (some z, size, bytes)) (hzs : z.cells.size = size) (hsz : 0 < size) (hs : a.eval s = v)
    (A : Option Addr) (m c : Nat) (news : List Value) (hx : a.eval x = .slice A m c) (hl : news.length = m * size) (hA : 0 < m → ∃ ad, A = some ad ∧ CellsAt w ad news) (h1 : ∀ u ∈ news, u.oneCell' = true) (h63 : n + m ≤ maxLen) (hbytes : (n + m) * bytes ≤ 140737488355328)
    (k : ∀ A' c' w', Hid (St w0 (Ls.set i (.row (.slice A' (n + m) c') e size (n + m) (xs ++ news))) w') → wpList P ops Q rest (a.put o.dst (.slice A' (n + m) c')) w') : wpList P ops Q (o :: rest) a w :=
  wpList_append_row hgd s x t ho w0.heap.size e size bytes z ht hinfo hzs hsz v n xs hs (h.row i hi) A m c news hx hl hA h1 h63 hbytes h.le (fun A' c' w' h2 h3 h4 => k A' c' w' (h.grow i hi h3 h2 h4))
end
section
variable {ops : Array Oper} {a : Act} {Q : Exit → Act → World → Prop} {S : List Nat} {z9 : Nat} {i : Nat} {f : Bool} {oi : Oper} {d : Nat} {T : List (Nat × Bool × Bool)} {N : Nat} {env : List (Nat × Value)}
theorem ge_lastR {z : Nat} (hio : ops[z]? = some oi) (hdst : oi.dst = none) (hw : L.wantE ops env oi = some true) (ty : TypeId) (x y : Operand) (ho : oi.op = .store ty x y) (h : St w0 Ls w) (j : Nat) {g c e size n : Nat} {xs : List Value} (hi : Ls[j]? = some (.row (.slice (some ⟨g, 0, none⟩) n c) e size n xs))
    (off : Nat) (v : Value) (hx : L.evE a env x = .pointer (some ⟨g, off, none⟩)) (hy : L.evE a env y = v) (cs : List Value) (hv : v.cells.toList = cs) (hty : (P.info? ty).map (·.size) = some cs.length) (hfit : off + cs.length ≤ n * size) (h1 : ∀ u ∈ cs, u.oneCell' = true)
    (k : ∀ w', Hid (St w0 (Ls.set j (.row (.slice (some ⟨g, 0, none⟩) n c) e size n (splice xs off cs))) w') → Q .normal (L.puts a env) w') : L.GrowE P ops Q S z ((z, f, true) :: []) a N env w := by
  obtain ⟨w', hr, h2, h3⟩ := h.run_storeR (P := P) j hi ty off v cs hv hty hfit h1
  refine L.ge_last (w' := w') hio hdst hw ?_ (k w' h3)
  unfold execOp
  simp only [ho, hx, hy, Instr.storeAt, Instr.sureAddr, Sem.run_bind, Sem.run_pure, Result.andThen_ok, hr]
theorem ge_appendR (hio : ops[i]? = some oi) (hdst : oi.dst = some d) (hd : decide (d < N) = true) (hw : L.wantE ops env oi = some true) (s x : Operand) (t : TypeId) (ho : oi.op = .call { callee := .builtin .append, args := #[s, x], argTypes := #[t, t] }) (h : St w0 Ls w) (j : Nat) {v : Value} {e size n : Nat} {xs : List Value} (hi : Ls[j]? = some (.row v e size n xs))
    (bytes : Nat) (z : Value) (ht : P.underlying t = some (.slice e)) (hinfo : (P.info? e).map (fun i => (i.zero, i.size, i.bytes)) = some (some z, size, bytes)) (hzs : z.cells.size = size) (hsz : 0 < size) (hs : L.evE a env s = v)
    (A : Option Addr) (m c : Nat) (news : List Value) (hx : L.evE a env x = .slice A m c) (hl : news.length = m * size) (hA : 0 < m → ∃ ad, A = some ad ∧ CellsAt w ad news) (h1 : ∀ u ∈ news, u.oneCell' = true) (h63 : n + m ≤ maxLen) (hbytes : (n + m) * bytes ≤ 140737488355328)
    (hS : ∀ k, v.ownBlock = some k → k ∈ S)
    (k : ∀ A' c' w', Hid (St w0 (Ls.set j (.row (.slice A' (n + m) c') e size (n + m) (xs ++ news))) w') → L.GrowE P ops Q S z9 T a N ((d, .slice A' (n + m) c') :: env) w') : L.GrowE P ops Q S z9 ((i, f, true) :: T) a N env w :=
  ge_append_row hio hdst hd hw s x t ho w0.heap.size e size bytes z ht hinfo hzs hsz v n xs hs (h.row j hi) A m c news hx hl hA h1 h63 hbytes h.le (fun A' c' w' h2 h3 h4 => ⟨h3.mono (fun q hq => hS q (by simpa using hq)), k A' c' w' (h.grow j hi h3 h2 h4)⟩)
end
end
end Go.Proofs.Ytgmcmhlomfeldaa
/-! ### ArOwn -/
namespace Go.Proofs.Ytgmcmhlomfeldaa.Print
open Go.RowKit Go.Proofs.YtgmcmhlomfeldaaW.PrintWords Go.Proofs.YtgmcmhlomfeldaaW.PrintLast Go.Proofs.YtgmcmhlomfeldaaW.PrintMore
set_option linter.unusedSimpArgs false
set_option linter.unusedVariables false
theorem below_only_new {w w' : World} {o : Obj} (h : Only [w.heap.size] (w.alloc o) w') : Only [] w w' := ((Only.refl [w.heap.size] w).alloc _ |>.then h (by intro i hi; simp at hi; left; simp [hi])).pop (Nat.le_refl _)
def intCells (x : Int) : List Value := [.int .i64 x]
def intRow (l : List Int) : List Value := l.flatMap intCells
theorem intRow_length (l : List Int) : (intRow l).length = l.length * 1 := flat_length intCells 1 (fun _ => rfl) l
theorem flat_ints {w : World} {A : Option Addr} {l : List Int} (h : Kd.C (Kd.int .i64) w A l.length l) : 0 < l.length → ∃ ad, A = some ad ∧ CellsAt w ad (intRow l) := by
  obtain ⟨news, hr, ha, _⟩ := Kd.C_flat h
  have e := reps_flat intCells 1 (fun _ => rfl) (fun x cs h => h) hr
  rw [e] at ha
  exact ha
theorem R_ints {w : World} {base : Nat} {ok : Nat → Prop} {v : Value} {l : List Int} (h : w.ownsRow base 3 1 v l.length (intRow l)) (hok : ∀ k, v.ownBlock = some k → ok k) : Kd.R (Kd.int .i64) 3 w base ok v l :=
  ⟨hok, _, h, reps_of_flat (R := (Kd.int .i64).M w base (fun k => ok k ∧ some k ≠ v.ownBlock)) intCells 1 (fun _ => rfl) (fun x => rfl) l⟩
/-- The cells of vessels, each with the slice of its lots. -/
def wisCells (p : S37 × Value) : List Value := [.int .i64 p.1.f0, .int .i64 p.1.f1, p.2, .int .i64 p.1.f3]
def vCells (vs : List S37) (us : List Value) : List Value := (vs.zip us).flatMap wisCells
theorem vCells_length (vs : List S37) (us : List Value) (h : us.length = vs.length) : (vCells vs us).length = vs.length * 4 := by
  unfold vCells
  rw [flat_length wisCells 4 (fun _ => rfl), List.length_zip, h, Nat.min_self]
theorem zip_get {α β : Type} {a : List α} {b : List β} {i : Nat} {x : α} {y : β} (hx : a[i]? = some x) (hy : b[i]? = some y) : (a.zip b)[i]? = some (x, y) := by
  rw [List.getElem?_zip_eq_some]
  exact ⟨hx, hy⟩
theorem vCells_get {vs : List S37} {us : List Value} {i : Nat} {x : S37} {u : Value} (hx : vs[i]? = some x) (hu : us[i]? = some u) : (vCells vs us)[i * 4]? = some (.int .i64 x.f0) ∧ (vCells vs us)[i * 4 + 1]? = some (.int .i64 x.f1) ∧ (vCells vs us)[i * 4 + 2]? = some u :=
  ⟨flat_get wisCells 4 (fun _ => rfl) (k := 0) (zip_get hx hu) rfl, flat_get wisCells 4 (fun _ => rfl) (k := 1) (zip_get hx hu) rfl, flat_get wisCells 4 (fun _ => rfl) (k := 2) (zip_get hx hu) rfl⟩
theorem vCells_set {vs : List S37} {us : List Value} {i : Nat} {x : S37} {u u' : Value} (hx : vs[i]? = some x) (hu : us[i]? = some u) : (vCells vs us).set (i * 4 + 2) u' = vCells vs (us.set i u') := by
  unfold vCells
  rw [flat_set wisCells 4 (fun _ => rfl) _ i 2 (x, u) (x, u') u' (zip_get hx hu) rfl (by omega)]
  congr 1
  refine List.ext_getElem? (fun j => ?_)
  by_cases hj : i = j
  · subst hj
    rw [List.getElem?_set_self (List.getElem?_eq_some_iff.1 (zip_get hx hu)).1]
    exact (zip_get hx (List.getElem?_set_self (List.getElem?_eq_some_iff.1 hu).1)).symm
  · rw [List.getElem?_set_ne hj]
    simp only [List.zip, List.getElem?_zipWith, List.getElem?_set_ne hj]
theorem vCells_one (vs : List S37) (us : List Value) (h : ∀ u ∈ us, u.oneCell' = true) : ∀ u ∈ vCells vs us, u.oneCell' = true := by
  intro u hu
  obtain ⟨⟨x, y⟩, hx, hm⟩ := List.mem_flatMap.1 hu
  simp [wisCells] at hm
  rcases hm with rfl | rfl | rfl | rfl
  · rfl
  · rfl
  · exact h _ (List.of_mem_zip hx).2
  · rfl
/-- What vessels that came in look like: each one's slice. -/
theorem reps_v {w : World} : ∀ {l : List S37} {news : List Value}, Reps (k37.K w) 4 l news → ∃ hs : List Value, hs.length = l.length ∧ news = vCells l hs ∧ ∀ (j : Nat) (x : S37) (u : Value), l[j]? = some x → hs[j]? = some u → ∃ A c, u = .slice A x.f2.length c ∧ x.f2.length ≤ c ∧ Kd.C (Kd.int .i64) w A x.f2.length x.f2
  | [], news, hr => by
    have := hr.1
    simp at this
    exact ⟨[], rfl, by simpa [vCells] using this, by simp⟩
  | x :: xs, news, hr => by
    have h0 := hr.2 0 x rfl
    rw [Nat.zero_mul, List.drop_zero] at h0
    obtain ⟨A, c, e0, h1, h2⟩ := k37_open h0
    have hr' : Reps (k37.K w) 4 xs (news.drop 4) := by
      refine ⟨?_, fun j p hj => ?_⟩
      · have := hr.1
        rw [List.length_cons, Nat.add_mul, Nat.one_mul] at this
        rw [List.length_drop]
        omega
      · have := hr.2 (j + 1) p hj
        rwa [Nat.add_mul, Nat.one_mul, Nat.add_comm (j * 4), ← List.drop_drop] at this
    obtain ⟨hs, h3, h4, h5⟩ := reps_v hr'
    refine ⟨.slice A x.f2.length c :: hs, by simp [h3], ?_, fun j y u hy hu => ?_⟩
    · unfold vCells
      rw [List.zip_cons_cons, List.flatMap_cons, ← List.take_append_drop 4 news, e0, h4]
      rfl
    · cases j with
      | zero =>
        simp at hy hu
        subst hy hu
        exact ⟨A, c, rfl, h1, h2⟩
      | succ j => exact h5 j y u (by simpa using hy) (by simpa using hu)
theorem flat_v {w : World} {A : Option Addr} {l : List S37} (h : Kd.C k37 w A l.length l) : ∃ hs : List Value, hs.length = l.length ∧ (0 < l.length → ∃ ad, A = some ad ∧ CellsAt w ad (vCells l hs)) ∧ ∀ (j : Nat) (x : S37) (u : Value), l[j]? = some x → hs[j]? = some u → ∃ A c, u = .slice A x.f2.length c ∧ x.f2.length ≤ c ∧ Kd.C (Kd.int .i64) w A x.f2.length x.f2 := by
  obtain ⟨news, hr, ha, _⟩ := Kd.C_flat h
  obtain ⟨hs, h1, rfl, h3⟩ := reps_v hr
  exact ⟨hs, h1, ha, h3⟩
/-- The rows of the vessels' lots. -/
def intRes (us : List Value) (vs : List S37) : List Res := List.zipWith (fun u x => Res.row u 3 1 x.f2.length (intRow x.f2)) us vs
theorem intRes_get {us : List Value} {vs : List S37} {i : Nat} {x : S37} {u : Value} (hx : vs[i]? = some x) (hu : us[i]? = some u) : (intRes us vs)[i]? = some (.row u 3 1 x.f2.length (intRow x.f2)) := by
  unfold intRes
  rw [List.getElem?_zipWith, hx, hu]
/-- Vessels of one's own. -/
def vRes (v : Value) (us : List Value) (vs : List S37) : List Res := .row v 37 4 vs.length (vCells vs us) :: intRes us vs
set_option maxHeartbeats 8000000 in
set_option maxRecDepth 100000 in
theorem clone_w (A : Option Addr) (c n : Nat) (news : List Value) (w : World) (hl : news.length = n * 4) (ha : 0 < n → ∃ ad, A = some ad ∧ CellsAt w ad news) (h1 : ∀ u ∈ news, u.oneCell' = true) (hn : n ≤ 1000000000) :
    Calls Try.prog 52 #[.slice A n c] w fun e w' => ∃ v, e = .returned v ∧ w'.ownsRow w.heap.size 37 4 v n news ∧ Only [] w w' := by
  have q : ∀ (w : World) (a : Option Addr) (n c n' c' : Nat), (binOp .eql 24 (.slice a n c) (.slice none n' c')).run Try.prog w = .ok (.bool a.isNone) w := fun w a n c n' c' => Lib.run_eql_slice_nil w _ _ a n c n' c' Try.underlying24
  cases A with
  | none =>
    have h0 : n = 0 := by
      rcases Nat.eq_zero_or_pos n with h | h
      · exact h
      · obtain ⟨ad, h1, _⟩ := ha h
        cases h1
    subst h0
    obtain rfl : news = [] := List.eq_nil_of_length_eq_zero (by omega)
    clear ha h1
    go_enter Try.func52, Try.ntmps52
    go_wp2
    go_ret
    exact ⟨_, rfl, ownsRow_nil _ _ _ _, Only.refl _ _⟩
  | some ad =>
    have HL := Lib.hid hl
    have HA := Lib.hid ha
    have HO := Lib.hid h1
    clear hl ha h1
    go_enter Try.func52, Try.ntmps52
    go_wp2_with (at_builtin; refine wpList_append_row rfl _ _ 24 rfl w.heap.size 37 4 48 (.agg #[.int .i64 0, .int .i64 0, .slice none 0 0, .int .i64 0]) Try.underlying24 (by kernel_rfl) rfl (by omega) (.slice (some ⟨w.heap.size, 0, none⟩) 0 0) 0 [] rfl (World.ownsRow_made w #[] 0 (Nat.le_refl _) (Nat.zero_le _) (by simp)) (some ad) n c news rfl HL.out (fun hp => by obtain ⟨a2, h1, h2⟩ := HA.out hp; exact ⟨a2, h1, h2.below ((Below.refl _ _).alloc (Nat.le_refl _) _)⟩) HO.out (by unfold maxLen; omega) (by omega) (by simp) ?_; intro A' c' w' h2 h3 h4; have H2 := Lib.hid h2; have H3 := Lib.hid h3; clear h2 h3 h4)
    go_ret
    have h2 := H2.out
    rw [Nat.zero_add, List.nil_append] at h2
    refine ⟨_, rfl, h2, below_only_new (o := .cells #[] 37) ?_⟩
    have := H3.out
    simpa [Value.ownBlock] using this
/-- Vessels of one's own, as the print's callers want them. -/
theorem S_of_St {w0 w : World} {M : List Res} {A : Option Addr} {c : Nat} {us : List Value} {vs : List S37} {ok : Nat → Prop} (h : St w0 (vRes (.slice A vs.length c) us vs ++ M) w) (hul : us.length = vs.length) (hok : ∀ (i : Nat) (r : Res) (k : Nat), (vRes (.slice A vs.length c) us vs)[i]? = some r → r.block = some k → ok k) :
    Kd.S k37 37 w w0.heap.size ok (.slice A vs.length c) vs := by
  have hs := h.front
  have hown : ∀ (j : Nat) (x : S37) (u : Value), vs[j]? = some x → us[j]? = some u → w.ownsRow w0.heap.size 3 1 u x.f2.length (intRow x.f2) := fun j x u hx hu => hs.row (j + 1) (intRes_get hx hu)
  refine ⟨fun k => us.findIdx (fun u => u.ownBlock == some k), fun k hk => hok 0 _ k rfl hk, vCells vs us, ?_, ?_, ?_⟩
  · rw [List.length_zipIdx]
    exact hs.row 0 rfl
  · rw [List.length_zipIdx]
    exact vCells_length _ _ hul
  · rintro j ⟨x, j'⟩ hj
    rw [List.getElem?_zipIdx] at hj
    obtain ⟨x1, hx, e1⟩ := Option.map_eq_some_iff.1 hj
    obtain ⟨rfl, rfl⟩ := Prod.mk.inj e1
    rw [Nat.zero_add]
    have hjl : j < vs.length := (List.getElem?_eq_some_iff.1 hx).1
    have hu : us[j]? = some us[j] := List.getElem?_eq_getElem (by omega)
    have hz := zip_get hx hu
    have e2 : ((vCells vs us).drop (j * 4)).take 4 = [.int .i64 x1.f0, .int .i64 x1.f1, us[j], .int .i64 x1.f3] := by
      unfold vCells
      rw [drop_flat wisCells 4 (fun _ => rfl), List.drop_eq_getElem_cons (List.getElem?_eq_some_iff.1 hz).1, List.flatMap_cons, (List.getElem?_eq_some_iff.1 hz).2]
      rfl
    show k37.M w w0.heap.size _ x1 (((vCells vs us).drop (j * 4)).take 4)
    rw [e2]
    refine k37_mkM w w0.heap.size _ x1 (R_ints (hown j x1 us[j] hx hu) (fun k hk => ⟨⟨hok (j + 1) _ k (intRes_get hx hu) hk, fun e => ?_⟩, ?_⟩))
    · have := hs.apart (j + 1) 0 _ _ k (intRes_get hx hu) rfl hk e.symm
      omega
    · show us.findIdx (fun u => u.ownBlock == some k) = j
      rw [List.findIdx_eq (by omega)]
      refine ⟨by simp [hk], fun j2 hj2 => ?_⟩
      rw [beq_eq_false_iff_ne]
      intro e
      have := hs.apart (j2 + 1) (j + 1) _ _ k (intRes_get (List.getElem?_eq_getElem (show j2 < vs.length by omega)) (List.getElem?_eq_getElem (show j2 < us.length by omega))) (intRes_get hx hu) e hk
      omega
end Go.Proofs.Ytgmcmhlomfeldaa.Print
/-! ### ECloneI -/
namespace Go.Proofs.Ytgmcmhlomfeldaa.Print
open Go.RowKit Go.Proofs.YtgmcmhlomfeldaaW.PrintWords Go.Proofs.YtgmcmhlomfeldaaW.PrintLast Go.Proofs.YtgmcmhlomfeldaaW.PrintMore
set_option linter.unusedSimpArgs false
set_option linter.unusedVariables false
set_option maxHeartbeats 8000000 in
set_option maxRecDepth 100000 in
theorem clone_ints (A : Option Addr) (c : Nat) (l : List Int) (w : World) (hr : Kd.C (Kd.int .i64) w A l.length l) (hl : l.length ≤ 1000000000) :
    Calls Try.prog 37 #[.slice A l.length c] w fun e w' => ∃ v, e = .returned v ∧ Kd.R (Kd.int .i64) 3 w' w.heap.size (fun _ => True) v l ∧ Below w.heap.size w w' := by
  have q : ∀ (w : World) (a : Option Addr) (n c n' c' : Nat), (binOp .eql 23 (.slice a n c) (.slice none n' c')).run Try.prog w = .ok (.bool a.isNone) w := fun w a n c n' c' => Lib.run_eql_slice_nil w _ _ a n c n' c' Try.underlying23
  obtain ⟨news, hn, ha, ho⟩ := Kd.C_flat hr
  cases A with
  | none =>
    have h0 : l = [] := by
      rcases Nat.eq_zero_or_pos l.length with h | h
      · exact List.eq_nil_of_length_eq_zero h
      · obtain ⟨ad, h1, _⟩ := ha h
        cases h1
    subst h0
    clear hn ha ho hr
    go_enter Try.func37, Try.ntmps37
    go_wp2
    go_ret
    exact ⟨_, rfl, Kd.R_nil _ _ _ _ _, Below.refl _ _⟩
  | some ad =>
    have HL := Lib.hid (show news.length = l.length * 1 from hn.1)
    have HN := Lib.hid hn
    have HA := Lib.hid ha
    have HO := Lib.hid ho
    clear hr hn ha ho
    generalize hm : l.length = m at *
    have HM := Lib.hid hm
    clear hm
    go_enter Try.func37, Try.ntmps37
    go_wp2_with (at_builtin; refine wpList_append_row rfl _ _ 23 rfl w.heap.size 3 1 8 (.int .i64 0) Try.underlying23 info3 rfl (by omega) (.slice (some ⟨w.heap.size, 0, none⟩) 0 0) 0 [] rfl (World.ownsRow_made w #[] 0 (Nat.le_refl _) (Nat.zero_le _) (by simp)) (some ad) m c news rfl HL.out (fun hp => by obtain ⟨a2, h1, h2⟩ := HA.out hp; exact ⟨a2, h1, h2.below ((Below.refl _ _).alloc (Nat.le_refl _) _)⟩) HO.out (by unfold maxLen; omega) (by omega) (by simp) ?_; intro A' c' w' h2 h3 h4; have H2 := Lib.hid h2; have H3 := Lib.hid h3; clear h2 h3 h4)
    go_ret
    have h2 := H2.out
    rw [Nat.zero_add, List.nil_append] at h2
    refine ⟨_, rfl, Kd.R_of_own (news := news) (fun x cs h => h) HN.out (by rw [HM.out]; exact h2), ?_⟩
    exact ((Only.refl [w.heap.size] w).alloc _ |>.then H3.out (by intro i hi; simp [Value.ownBlock] at hi; left; simp [hi])).pop (Nat.le_refl _) |>.nil_below
def slices_Clone_int_int.f (l0 : List Int) : Option (List Int) := if l0.length ≤ 1000000000 then some l0 else none
theorem slices_Clone_int_int.calls (A0 : Option Addr) (c0 : Nat) (l0 : List Int) (r : List Int) (w : World) (hr0 : Kd.C (Kd.int .i64) w A0 l0.length l0) (hc0 : l0.length ≤ c0) (h : slices_Clone_int_int.f l0 = some r) :
    Calls Try.prog 37 #[.slice A0 l0.length c0] w fun e w' => ∃ v0_ : Value, e = .returned v0_ ∧ Kd.R (Kd.int .i64) 3 w' w.heap.size (fun _ => True) v0_ r ∧ Below w.heap.size w w' := by
  unfold slices_Clone_int_int.f at h
  split at h
  · obtain rfl := Option.some.inj h
    exact clone_ints A0 c0 l0 w hr0 (by assumption)
  · cases h
end Go.Proofs.Ytgmcmhlomfeldaa.Print
/-! ### ECopied -/
namespace Go.Proofs.Ytgmcmhlomfeldaa.Print
open Go.RowKit Go.Proofs.YtgmcmhlomfeldaaW.PrintWords Go.Proofs.YtgmcmhlomfeldaaW.PrintLast Go.Proofs.YtgmcmhlomfeldaaW.PrintMore
set_option linter.unusedSimpArgs false
set_option linter.unusedVariables false
theorem results_row1 {P : Program} {fn : Func} {p : Tmp} {ty : TypeId} (h : fn.results = #[.cell p ty]) (tmps : Array Value) (w : World) (g : Nat) (t : TypeId) (cs : Array Value) (fr : Nat × Nat) (d : TypeDesc)
    (hp : tmps.getD p undef = .pointer (some ⟨g, 0, none⟩)) (hg : w.heap[g]? = some (.cells cs t fr))
    (hu : P.underlying ty = some d) (hd : (match d with | .struct _ | .array _ _ => true | _ => false) = true) (hi : (P.info? ty).map (·.size) = some cs.size) :
    (results fn tmps).run P w = .ok (.agg cs) w := by
  unfold results
  rw [h]
  rw [Array.getD_eq_getD_getElem?] at hp
  simp [hp, asAddr, run_loadVar_row w g t ty cs fr d hg hu hd hi]
theorem ints_own {w : World} {base : Nat} {ok : Nat → Prop} {v : Value} {l : List Int} (h : Kd.R (Kd.int .i64) 3 w base ok v l) : w.ownsRow base 3 1 v l.length (intRow l) := by
  obtain ⟨_, inner, ho, hr⟩ := h
  have e : inner = intRow l := reps_flat intCells 1 (fun _ => rfl) (fun x cs h => h) hr
  rw [← e]
  exact ho
set_option maxHeartbeats 8000000 in
set_option maxRecDepth 100000 in
theorem copied_st (A0 : Option Addr) (c0 : Nat) (o : List Int) (A1 : Option Addr) (c1 : Nat) (ws : List S37) (nx : Int) (w : World) (hr0 : Kd.C (Kd.int .i64) w A0 o.length o) (hr1 : Kd.C k37 w A1 ws.length ws) (ho : o.length ≤ 1000000) (hl : ws.length ≤ 1000000) (hll : ∀ x ∈ ws, x.f2.length ≤ 1000000) :
    Calls Try.prog 36 #[.agg #[.slice A0 o.length c0, .slice A1 ws.length c1, .int .i64 nx]] w fun e w' => ∃ (A2 : Option Addr) (c2 : Nat) (A3 : Option Addr) (c3 : Nat) (us : List Value), e = .returned (.agg #[.slice A2 o.length c2, .slice A3 ws.length c3, .int .i64 nx]) ∧ us.length = ws.length ∧ St w (.row (.slice A2 o.length c2) 3 1 o.length (intRow o) :: .row (.slice A3 ws.length c3) 37 4 ws.length (vCells ws us) :: intRes us ws) w' := by
  obtain ⟨hs, hsl, hfl, hin⟩ := flat_v hr1
  have HIN := Lib.hid hin
  have HR0 := Lib.hid hr0
  have HFL := Lib.hid hfl
  have HLL := Lib.hid hll
  have HSL := Lib.hid hsl
  have HONE := Lib.hid (vCells_one ws hs (fun u hu => by
    obtain ⟨j, hj, rfl⟩ := List.getElem_of_mem hu
    obtain ⟨A1, c1, e1, _⟩ := hin j _ _ (List.getElem?_eq_getElem (by omega)) (List.getElem?_eq_getElem hj)
    rw [e1]
    rfl))
  have HS := Lib.hid (((St.nil w).alloc [.slice A0 o.length c0, .slice A1 ws.length c1, .int .i64 nx] 26).alloc [.slice none 0 0, .slice none 0 0, .int .i64 0] 26)
  simp only [World.size_alloc, List.append_assoc, List.cons_append, List.nil_append] at HS
  have q0 := HS.out.cell 0 0 rfl rfl
  clear hr0 hr1 hfl hin hll
  go_enter Try.func36, Try.ntmps36
  go_wp2_with (go_at_call 37; refine (fun (h : Hid _) => h.out) ?_)
  refine Lib.hid ?_
  generalize hW : (w.alloc (.cells #[.slice A0 o.length c0, .slice A1 ws.length c1, .int .i64 nx] 26)).alloc (.cells #[.slice none 0 0, .slice none 0 0, .int .i64 0] 26) = W0 at *
  clear hW q0
  refine (clone_ints A0 c0 o W0 (Kd.C_below HR0.out HS.out.only.nil_below) (by omega)).mono ?_
  rintro e W1 ⟨v0, rfl, hR, hb⟩
  have hown := ints_own hR
  obtain ⟨A2, c2, rfl, hc2⟩ := ownsRow_len hown
  replace HS := Lib.hid (HS.out.made (Only.of_below hb) hown)
  simp only [List.cons_append, List.nil_append] at HS
  clear hR hb hown
  simp only []
  go_wp2_with (first
    | (with_reducible refine wpList_storeB rfl 23 (.tmp 7) (.tmp 6) rfl HS.out 0 rfl 0 _ rfl rfl [.slice A2 o.length c2] rfl (by kernel_rfl) (by simp) (by simp [Value.oneCell']) ?_; intro W2 HS2; refine (fun (h : Hid _) => h.out) ?_))
  refine Lib.hid ?_
  replace HS := Lib.hid (show St w [.blk w.heap.size 26 [.slice A2 o.length c2, .slice A1 ws.length c1, .int .i64 nx], .blk (w.heap.size + 1) 26 [.slice none 0 0, .slice none 0 0, .int .i64 0], .row (.slice A2 o.length c2) 3 1 o.length (intRow o)] W2 from HS2.out)
  clear HS2
  have q1 := HS.out.cell 0 1 rfl rfl
  have HCV := Lib.hid (clone_w A1 c1 ws.length (vCells ws hs) W2 (vCells_length _ _ HSL.out) (fun h => by obtain ⟨ad, e, hc⟩ := HFL.out h; exact ⟨ad, e, hc.only HS.out.only (by simp)⟩) HONE.out (by omega))
  go_wp2_with (first
    | (go_at_call 52; refine HCV.out.mono ?_; rintro e W3 ⟨v1, rfl, hown, ho⟩; obtain ⟨A3, c3, rfl, hc3⟩ := ownsRow_len hown; have HS3 := Lib.hid (HS.out.made ho hown); simp only [List.cons_append, List.nil_append] at HS3; clear hown ho)
    | (with_reducible refine wpList_storeB rfl 24 (.tmp 11) (.tmp 10) rfl HS3.out 0 rfl 1 _ rfl rfl [.slice A3 ws.length c3] rfl (by kernel_rfl) (by simp) (by simp [Value.oneCell']) ?_; intro W4 HS4; refine (fun (h : Hid _) => h.out) ?_))
  refine Lib.hid ?_
  clear q1 HCV HS HS3
  have HS := Lib.hid (show St w [.blk w.heap.size 26 [.slice A2 o.length c2, .slice A3 ws.length c3, .int .i64 nx], .blk (w.heap.size + 1) 26 [.slice none 0 0, .slice none 0 0, .int .i64 0], .row (.slice A2 o.length c2) 3 1 o.length (intRow o), .row (.slice A3 ws.length c3) 37 4 ws.length (vCells ws hs)] W4 from HS4.out)
  clear HS4
  have q1 := HS.out.cell 0 1 rfl rfl
  go_wp2
  clear q1
  go_loopw [3, 15] (fun _ si wr => ∃ (i : Nat) (us : List Value), si = .int .i64 i ∧ i ≤ ws.length ∧ us.length = i ∧ Hid (St w (.blk w.heap.size 26 [.slice A2 o.length c2, .slice A3 ws.length c3, .int .i64 nx] :: .blk (w.heap.size + 1) 26 [.slice none 0 0, .slice none 0 0, .int .i64 0] :: .row (.slice A2 o.length c2) 3 1 o.length (intRow o) :: .row (.slice A3 ws.length c3) 37 4 ws.length (vCells ws (us ++ hs.drop i)) :: intRes us (ws.take i)) wr)) (fun _ si _ => ws.length - (intOf si).toNat)
  case atStart => exact ⟨0, [], rfl, by omega, rfl, by simpa [intRes] using HS⟩
  case round =>
    clear HS
    obtain ⟨i, us, rfl, hil, hul, HS⟩ := hrel
    by_cases hlt : i < ws.length
    · have hlt' : (i : Int) < ws.length := by omega
      have hi0 : (0 : Int) ≤ i := by omega
      obtain ⟨g, c4, hv, _⟩ := ownsRow_some (HS.out.row 3 rfl) (by omega)
      obtain ⟨rfl, rfl⟩ : A3 = some ⟨g, 0, none⟩ ∧ c3 = c4 := by simpa using hv
      clear hv
      obtain ⟨A5, c5, e5, hc5, hr5⟩ := HIN.out i _ _ (List.getElem?_eq_getElem hlt) (List.getElem?_eq_getElem (by rw [HSL.out]; exact hlt))
      have hu0 : (us ++ hs.drop i)[i]? = some (.slice A5 ws[i].f2.length c5) := by rw [List.getElem?_append_right (by omega), hul, Nat.sub_self, List.getElem?_drop, Nat.add_zero, List.getElem?_eq_getElem (by rw [HSL.out]; exact hlt), e5]
      have HU0 := Lib.hid hu0
      have HCI := Lib.hid (fun (W : World) (h : Only [] wr W) => clone_ints A5 c5 ws[i].f2 W (Kd.C_below hr5 (HS.out.only.trans h).nil_below) (by have := HLL.out ws[i] (List.getElem_mem hlt); omega))
      have HY := Lib.hid (ownsRow_get (HS.out.row 3 rfl) (vCells_get (List.getElem?_eq_getElem hlt) hu0).2.2)
      clear hr5 e5 hu0
      go_wp2
      refine L.grow_start [] 12 ((0, true, false) :: (1, true, false) :: (2, true, false) :: (3, true, false) :: (4, true, false) :: (5, true, true) :: (6, true, true) :: (7, true, true) :: (8, true, true) :: (9, false, true) :: (10, true, true) :: (11, true, true) :: (12, false, true) :: []) (by kernel_rfl) (([], [1], some 18) :: ([0], [18], some 19) :: ([], [3], some 20) :: ([], [1], some 21) :: ([3], [21], some 22) :: ([], [3], some 23) :: ([4, 5], [22, 23], some 24) :: ([6], [24], some 25) :: ([7], [25], some 26) :: ([8], [26], some 27) :: ([1, 2, 0, 1, 2, 3, 4, 5, 6, 7, 8, 9], [19, 20], some 28) :: ([10, 0, 1, 2, 3, 4, 5, 6, 7, 8, 9], [28], some 29) :: ([11, 9, 9, 0, 1, 2, 3, 4, 5, 6, 7, 8, 9], [29, 27], none) :: []) (by kernel_rfl) (by kernel_rfl) (n := 13) rfl (by kernel_rfl) (fun _ _ _ _ _ h => h) (fun wg hog => ?_)
      refine L.growe_start (N := 32) (by rfl) ?_
      have z1 : ∀ w', Only [] wg w' → w'.cell? ⟨w.heap.size, 1, none⟩ = some (.slice (some ⟨g, 0, none⟩) ws.length c3) := fun w' h => (HS.out.keep (hog.trans h)).cell 0 1 rfl rfl
      have z2 : ∀ w', Only [] wg w' → w'.cell? ⟨g, i * 4 + 2, none⟩ = some (.slice A5 ws[i].f2.length c5) := fun w' h => (hog.trans h).cell HY.out (by simp)
      have HG := Lib.hid hog
      clear hog
      iterate 9 (first | (refine L.ge_off rfl rfl rfl (by rfl) ?_) | (refine L.ge_move rfl rfl rfl (by rfl) rfl (by simp [L.evE, L.lk, Act.eval]; rfl) ?_) | (refine L.ge_pick rfl rfl rfl (by rfl) rfl (by simp [L.evE, L.lk, Act.eval]; rfl) (by simp [L.evE, L.lk, Act.eval]; rfl) ?_) | (refine L.ge_val rfl rfl rfl (by rfl) (by intro w' hw'; simp [execOp, L.evE, L.lk, Act.eval]; go_simp; rfl) ?_))
      refine L.ge_call rfl rfl rfl (by rfl) rfl (by simp [L.evE, L.lk, Act.eval]; rfl) (by go_simp) ?_
      refine (HCI.out wg HG.out).mono ?_
      rintro e wc ⟨u, rfl, hR, hb⟩
      refine ⟨_, rfl, Only.of_below hb, ?_⟩
      have hown := ints_own hR
      obtain ⟨A6, c6, rfl, hc6⟩ := ownsRow_len hown
      have HS5 := Lib.hid ((HS.out.keep HG.out).made (Only.of_below hb) hown)
      simp only [List.cons_append] at HS5
      clear hR hb hown z1 z2 HG
      iterate 2 (first | (refine L.ge_off rfl rfl rfl (by rfl) ?_) | (refine L.ge_move rfl rfl rfl (by rfl) rfl (by simp [L.evE, L.lk, Act.eval]; rfl) ?_) | (refine L.ge_pick rfl rfl rfl (by rfl) rfl (by simp [L.evE, L.lk, Act.eval]; rfl) (by simp [L.evE, L.lk, Act.eval]; rfl) ?_) | (refine L.ge_val rfl rfl rfl (by rfl) (by intro w' hw'; simp [execOp, L.evE, L.lk, Act.eval]; go_simp; rfl) ?_))
      refine ge_lastR rfl rfl (by rfl) 23 (.tmp 29) (.tmp 27) rfl HS5.out 3 rfl (i * 4 + 2) (.slice A6 ws[i].f2.length c6) (by simp [L.evE, L.lk, Act.eval]) (by simp [L.evE, L.lk, Act.eval]) [.slice A6 ws[i].f2.length c6] rfl (by kernel_rfl) (by simp; omega) (by simp [Value.oneCell']) ?_
      intro w3 HS6
      simp only [L.puts, Act.put, goInt, List.setIfInBounds_toArray, List.set_cons_zero, List.set_cons_succ]
      have h3 := HS6.out
      simp only [List.set_cons_succ, List.set_cons_zero] at h3
      rw [splice_set _ _ _ (by rw [vCells_length _ _ (by simp; omega)]; omega), vCells_set (List.getElem?_eq_getElem hlt) HU0.out] at h3
      have e1 : (us ++ hs.drop i).set i (.slice A6 ws[i].f2.length c6) = (us ++ [.slice A6 ws[i].f2.length c6]) ++ hs.drop (i + 1) := by
        rw [List.set_append_right _ _ (by omega), hul, Nat.sub_self, List.drop_eq_getElem_cons (by omega), List.set_cons_zero]
        simp
      have e2 : intRes (us ++ [.slice A6 ws[i].f2.length c6]) (ws.take (i + 1)) = intRes us (ws.take i) ++ [Res.row (.slice A6 ws[i].f2.length c6) 3 1 ws[i].f2.length (intRow ws[i].f2)] := by
        rw [List.take_succ_eq_append_getElem hlt]
        unfold intRes
        rw [List.zipWith_append (by rw [List.length_take]; omega)]
        rfl
      rw [e1, ← e2] at h3
      have HN := Lib.hid h3
      clear h3 e1 e2 HS5 HS6 HS HY HCI HU0
      go_wp2
      go_roundw
      case rel => exact ⟨i + 1, us ++ [.slice A6 ws[i].f2.length c6], by go_num, by omega, by simp [hul], HN⟩
      case measure => simp [intOf]; omega
    · obtain rfl : i = ws.length := by omega
      have hlt' : ¬ (ws.length : Int) < ws.length := by omega
      have HC0 := Lib.hid (HS.out.cells 0 rfl)
      go_wp2_with (first
        | (with_reducible refine wpList_load_at rfl 26 (.tmp 1) rfl ⟨w.heap.size, 0, none⟩ rfl _ _ HC0.out Try.underlying26 rfl (by kernel_rfl) ?_)
        | (with_reducible refine wpList_storeB rfl 26 (.tmp 2) (.tmp 31) rfl HS.out 1 rfl 0 _ rfl rfl [.slice A2 o.length c2, .slice A3 ws.length c3, .int .i64 nx] rfl (by kernel_rfl) (by simp) (by simp [Value.oneCell']) ?_; intro W5 HS5))
      have h := HS5.out
      refine bodyPost_ret (results_row1 rfl _ _ (w.heap.size + 1) _ _ _ _ rfl (h.heap 1 rfl) Try.underlying26 rfl (by kernel_rfl)) rfl ?_
      have h2 := h
      rw [List.drop_eq_nil_of_le (by omega), List.append_nil, List.take_length] at h2
      exact ⟨_, _, _, _, rfl, us, hul, St.back (A := [_, _]) h2⟩
theorem copied_calls (A0 : Option Addr) (c0 : Nat) (o : List Int) (A1 : Option Addr) (c1 : Nat) (ws : List S37) (nx : Int) (w : World) (hr0 : Kd.C (Kd.int .i64) w A0 o.length o) (hr1 : Kd.C k37 w A1 ws.length ws) (ho : o.length ≤ 1000000) (hl : ws.length ≤ 1000000) (hll : ∀ x ∈ ws, x.f2.length ≤ 1000000) :
    Calls Try.prog 36 #[.agg #[.slice A0 o.length c0, .slice A1 ws.length c1, .int .i64 nx]] w fun e w' => ∃ v0_ v1_ : Value, e = .returned (.agg #[v0_, v1_, .int .i64 nx]) ∧ Kd.R (Kd.int .i64) 3 w' w.heap.size (fun _ => True) v0_ o ∧ Kd.S k37 37 w' w.heap.size (fun k_ => some k_ ≠ (v0_ : Value).ownBlock) v1_ ws ∧ Below w.heap.size w w' := by
  refine (copied_st A0 c0 o A1 c1 ws nx w hr0 hr1 ho hl hll).mono ?_
  rintro e w' ⟨A2, c2, A3, c3, us, rfl, hul, h⟩
  have hx : St w (vRes (.slice A3 ws.length c3) us ws ++ []) w' := by
    rw [List.append_nil]
    exact St.back (A := [_]) h
  refine ⟨_, _, rfl, R_ints (h.row 0 rfl) (fun _ _ => trivial), S_of_St hx hul (fun j r k hj hr e => ?_), h.only.nil_below⟩
  have := h.apart (j + 1) 0 r _ k hj rfl hr e.symm
  omega
def arb_copied.f (l0_0 : List Int) (l0_1 : List S37) (a0_2 : Int) : Option (List Int × List S37 × Int) := if l0_0.length ≤ 1000000 ∧ l0_1.length ≤ 1000000 ∧ (l0_1.all fun x => decide (x.f2.length ≤ 1000000)) = true then some (l0_0, l0_1, a0_2) else none
theorem arb_copied.calls (A0_0 : Option Addr) (c0_0 : Nat) (l0_0 : List Int) (A0_1 : Option Addr) (c0_1 : Nat) (l0_1 : List S37) (a0_2 : Int) (r1 : List Int) (r2 : List S37) (r3 : Int) (w : World) (hr0_0 : Kd.C (Kd.int .i64) w A0_0 l0_0.length l0_0) (hc0_0 : l0_0.length ≤ c0_0) (hr0_1 : Kd.C k37 w A0_1 l0_1.length l0_1) (hc0_1 : l0_1.length ≤ c0_1) (h : arb_copied.f l0_0 l0_1 a0_2 = some (r1, r2, r3)) :
    Calls Try.prog 36 #[.agg #[.slice A0_0 l0_0.length c0_0, .slice A0_1 l0_1.length c0_1, .int .i64 a0_2]] w fun e w' => ∃ v0_ v1_ : Value, e = .returned (.agg #[v0_, v1_, .int .i64 r3]) ∧ Kd.R (Kd.int .i64) 3 w' w.heap.size (fun _ => True) v0_ r1 ∧ Kd.S k37 37 w' w.heap.size (fun k_ => some k_ ≠ (v0_ : Value).ownBlock) v1_ r2 ∧ Below w.heap.size w w' := by
  unfold arb_copied.f at h
  split at h
  case isFalse => cases h
  rename_i hb
  obtain ⟨h1, h2, h3⟩ := hb
  simp only [Option.some.injEq, Prod.mk.injEq] at h
  obtain ⟨rfl, rfl, rfl⟩ := h
  exact copied_calls A0_0 c0_0 _ A0_1 c0_1 _ _ w hr0_0 hr0_1 h1 h2 (fun x hx => of_decide_eq_true (List.all_eq_true.1 h3 x hx))
end Go.Proofs.Ytgmcmhlomfeldaa.Print
/-! ### ArArr -/
namespace Go.Proofs.Ytgmcmhlomfeldaa.Print
open Go.RowKit Go.Proofs.YtgmcmhlomfeldaaW.PrintWords Go.Proofs.YtgmcmhlomfeldaaW.PrintLast Go.Proofs.YtgmcmhlomfeldaaW.PrintMore
set_option linter.unusedSimpArgs false
set_option linter.unusedVariables false
theorem eq5 (a b c d e a' b' c' d' e' : Bool) (w : World) : (Op.equalIn 10000 60 (.agg #[.bool a, .bool b, .bool c, .bool d, .bool e]) (.agg #[.bool a', .bool b', .bool c', .bool d', .bool e'])).run Try.prog w = .ok (a == a' && b == b' && c == c' && d == d' && e == e') w := by
  have u3 := Try.underlying4
  have a3 := Try.isAgg4
  have z3 := Try.sizeOf4
  rw [show (10000 : Nat) = 9999 + 1 from rfl, Op.equalIn]
  simp only [Sem.run_bind, run_underlying Try.underlying60, Result.andThen_ok]
  simp only [Std.Legacy.Range.forIn_eq_forIn_range', Std.Legacy.Range.size, Nat.sub_zero, Nat.add_sub_cancel, Nat.div_one, List.range'_succ, List.range'_zero, List.forIn_cons, List.forIn_nil]
  go_simp
  by_cases h1 : a = a' <;> by_cases h2 : b = b' <;> by_cases h3 : c = c' <;> by_cases h4 : d = d' <;> by_cases h5 : e = e' <;> simp [h1, h2, h3, h4, h5]
/-- The cells of an array that a function tells. -/
def bcells5 (f : Nat → Bool) : List Value := [.bool (f 0), .bool (f 1), .bool (f 2), .bool (f 3), .bool (f 4)]
def setF (f : Nat → Bool) (i : Nat) (b : Bool) : Nat → Bool := fun u => if u = i then b else f u
theorem bcells5_set (f : Nat → Bool) (i : Nat) (h : i < 5) (b : Bool) : (bcells5 f).set i (.bool b) = bcells5 (setF f i b) := by
  match i, h with
  | 0, _ => rfl
  | 1, _ => rfl
  | 2, _ => rfl
  | 3, _ => rfl
  | 4, _ => rfl
/-- Which units are free. -/
def frF (o : List Int) : Nat → Bool := fun u => decide (o[u]? = some 0)
/-- The array while it is laid. -/
def frK (o : List Int) (i : Nat) : Nat → Bool := fun u => decide (u < i) && frF o u
theorem frK_zero (o : List Int) : bcells5 (frK o 0) = [.bool false, .bool false, .bool false, .bool false, .bool false] := rfl
theorem frK_next (o : List Int) (i : Nat) (h : i < o.length) : setF (frK o i) i (o[i] == 0) = frK o (i + 1) := by
  funext u
  unfold setF frK frF
  by_cases hu : u = i
  · subst hu
    rw [if_pos rfl, List.getElem?_eq_getElem h]
    by_cases h0 : o[u] = 0 <;> simp [h0]
  · rw [if_neg hu]
    by_cases h1 : u < i
    · have h2 : u < i + 1 := by omega
      simp [h1, h2]
    · have h2 : ¬ u < i + 1 := by omega
      simp [h1, h2]
theorem frK_all (o : List Int) (i : Nat) (h : o.length ≤ i) : frK o i = frF o := by
  funext u
  unfold frK
  by_cases h1 : u < i
  · simp [h1]
  · have : frF o u = false := by
      unfold frF
      rw [List.getElem?_eq_none (by omega)]
      rfl
    simp [this]
/-- Are all these units free? -/
def freeB (o : List Int) (u : List Int) : Bool := u.all fun x => frF o x.toNat
def giveM (o : List Int) (u : List Int) (b : Int) : List Int := u.foldl (fun o x => o.set x.toNat b) o
def grantM : List Int → List S37 → List Int × List S37 × List S37
  | o, [] => (o, [], [])
  | o, w :: ws => if freeB o w.f2 = true then ((grantM (giveM o w.f2 w.f0) ws).1, (grantM (giveM o w.f2 w.f0) ws).2.1, w :: (grantM (giveM o w.f2 w.f0) ws).2.2) else ((grantM o ws).1, w :: (grantM o ws).2.1, (grantM o ws).2.2)
/-- The array with the units of a wish. -/
def thenF (f : Nat → Bool) (u : List Int) : Nat → Bool := fun v => f v || u.any (fun x => x.toNat == v)
theorem thenF_nil (f : Nat → Bool) : thenF f [] = f := by funext v; simp [thenF]
theorem thenF_next (f : Nat → Bool) (u : List Int) (k : Nat) (x : Int) (hx : u[k]? = some x) : setF (thenF f (u.take k)) x.toNat true = thenF f (u.take (k + 1)) := by
  obtain ⟨hk, rfl⟩ := List.getElem?_eq_some_iff.1 hx
  funext v
  unfold setF thenF
  rw [List.take_succ_eq_append_getElem hk, List.any_append]
  by_cases hv : v = u[k].toNat
  · subst hv
    rw [if_pos rfl]
    simp
  · rw [if_neg hv]
    have : (u[k].toNat == v) = false := by rw [beq_eq_false_iff_ne]; exact fun h => hv h.symm
    simp [this]
theorem five (p : Nat → Bool) : (p 0 && p 1 && p 2 && p 3 && p 4) = true ↔ ∀ v, v < 5 → p v = true := by
  simp only [Bool.and_eq_true]
  constructor
  · rintro ⟨⟨⟨⟨h0, h1⟩, h2⟩, h3⟩, h4⟩ v hv
    match v, hv with
    | 0, _ => exact h0
    | 1, _ => exact h1
    | 2, _ => exact h2
    | 3, _ => exact h3
    | 4, _ => exact h4
  · intro h
    exact ⟨⟨⟨⟨h 0 (by omega), h 1 (by omega)⟩, h 2 (by omega)⟩, h 3 (by omega)⟩, h 4 (by omega)⟩
/-- The two arrays are the same just if all units of the wish are free. -/
theorem then_same (o u : List Int) (hu : ∀ x ∈ u, 0 ≤ x ∧ x < 5) : (thenF (frF o) u 0 == frF o 0 && thenF (frF o) u 1 == frF o 1 && thenF (frF o) u 2 == frF o 2 && thenF (frF o) u 3 == frF o 3 && thenF (frF o) u 4 == frF o 4) = freeB o u := by
  rw [Bool.eq_iff_iff, five (fun v => thenF (frF o) u v == frF o v)]
  unfold freeB
  rw [List.all_eq_true]
  constructor
  · intro h x hx
    have h1 := h x.toNat (by have := hu x hx; omega)
    have h2 : thenF (frF o) u x.toNat = true := by
      unfold thenF
      rw [Bool.or_eq_true]
      exact .inr (List.any_eq_true.2 ⟨x, hx, by simp⟩)
    rw [h2] at h1
    simpa using h1
  · intro h v hv
    unfold thenF
    by_cases hf : frF o v = true
    · simp [hf]
    · have hf' : frF o v = false := by simpa using hf
      rw [hf', Bool.false_or, beq_iff_eq, List.any_eq_false]
      intro x hx he
      have h1 := h x hx
      have : x.toNat = v := by simpa using he
      rw [this, hf'] at h1
      cases h1
/-- Owners while units are given. -/
theorem give_len (o : List Int) : ∀ (u : List Int) (b : Int), (giveM o u b).length = o.length := by
  intro u
  induction u generalizing o with
  | nil => intro b; rfl
  | cons x u ih =>
    intro b
    show (giveM (o.set x.toNat b) u b).length = _
    rw [ih, List.length_set]
theorem give_next (o u : List Int) (b : Int) (k : Nat) (x : Int) (hx : u[k]? = some x) : (giveM o (u.take k) b).set x.toNat b = giveM o (u.take (k + 1)) b := by
  obtain ⟨hk, rfl⟩ := List.getElem?_eq_some_iff.1 hx
  unfold giveM
  rw [List.take_succ_eq_append_getElem hk, List.foldl_append]
  rfl
theorem frF_set (o : List Int) (i : Nat) (b : Int) (hb : b ≠ 0) (hi : i < o.length) : setF (frF o) i false = frF (o.set i b) := by
  funext u
  unfold setF frF
  by_cases hu : u = i
  · subst hu
    rw [if_pos rfl, List.getElem?_set_self hi]
    simp [hb]
  · rw [if_neg hu, List.getElem?_set_ne (fun h => hu h.symm)]
end Go.Proofs.Ytgmcmhlomfeldaa.Print
/-! ### Print1 -/
namespace Go.Proofs.Ytgmcmhlomfeldaa.Print
open Go.RowKit Go.Proofs.YtgmcmhlomfeldaaW.PrintWords Go.Proofs.YtgmcmhlomfeldaaW.PrintLast Go.Proofs.YtgmcmhlomfeldaaW.PrintMore
set_option linter.unusedVariables false
set_option linter.unusedSimpArgs false
def arb_New.f (a0 : Int) : Option (List Int × (List (S37)) × Int × Int) := if a0 < 1 then (some (([] : List Int), ([] : List (S37)), 0, 1)) else (if a0 > 5 then (some (([] : List Int), ([] : List (S37)), 0, 1)) else (if 0 ≤ a0 then (if (a0 : Int).toNat ≤ 35184372088832 then (some ((List.replicate (a0 : Int).toNat 0), ([] : List (S37)), 1, 0)) else (none)) else (none)))
set_option maxHeartbeats 8000000 in
set_option maxRecDepth 100000 in
theorem arb_New.calls (a0 : Int) (r1 : List Int) (r2 : List (S37)) (r3 : Int) (r4 : Int) (w : World) (h : arb_New.f a0 = some (r1, r2, r3, r4)) :
    Calls Try.prog 10 #[.int .i64 a0] w fun e w' => ∃ v0_ v1_ : Value, e = .returned (.tuple #[.agg #[v0_, v1_, .int .i64 r3], .int .i64 r4]) ∧ Kd.R (Kd.int .i64) 3 w' w.heap.size (fun _ => True) v0_ r1 ∧ Kd.S k37 37 w' w.heap.size (fun k_ => some k_ ≠ (v0_ : Value).ownBlock) v1_ r2 ∧ Below w.heap.size w w' := by
  have hu26 := Try.underlying26
  have HB := Aside0.mk (Below.refl w.heap.size w)
  have H : (if a0 < 1 then (some (([] : List Int), ([] : List (S37)), 0, 1)) else (if a0 > 5 then (some (([] : List Int), ([] : List (S37)), 0, 1)) else (if 0 ≤ a0 then (if (a0 : Int).toNat ≤ 35184372088832 then (some ((List.replicate (a0 : Int).toNat 0), ([] : List (S37)), 1, 0)) else (none)) else (none)))) = some (r1, r2, r3, r4) := h
  clear h
  by_cases c2 : a0 < 1
  · rw [if_pos c2] at H
    have c2b0 : decide (a0 < 1) = true := decide_eq_true c2
    clear c2
    simp only [Option.some.injEq, Prod.mk.injEq] at H
    obtain ⟨rfl, rfl, rfl, rfl⟩ := H
    go_enter Try.func10, Try.ntmps10
    go_wp2_with (first | ((with_reducible refine gate_dst (N := 2) rfl ?_); refine box_event ?hg (N := 2) ?hd (cs := #[.slice none 0 0, .slice none 0 0, .int .i64 0]) (t := 26) ?hr ?_; (case hd => rfl); (case hg => rfl); (case hr => first | (go_simp; done) | (go_simp; rfl)); intro gb101 hg w3 hbox hb; have n0_ := Aside0.mk (below_step (by repeat (first | (with_reducible first | exact HB.out | apply below_alloc | apply pw_below_drewN | apply below_drew1) | exact HB.out)) hb); have n1_ := Aside0.mk (hbox); have n2_ := Aside0.mk ((by rw [hg]; exact (below_size (by repeat (first | (with_reducible first | exact HB.out | apply below_alloc | apply pw_below_drewN | apply below_drew1) | exact HB.out))) : w.heap.size ≤ gb101)); have n3_ := Aside0.mk ((by rw [hg]; exact (below_size (by repeat (first | (with_reducible first | exact HB.out | apply below_alloc | apply pw_below_drewN | apply below_drew1) | exact HB.out))) : w.heap.size ≤ gb101)); clear HB; have HB := n0_; have BK101 := n1_; have GW101 := n2_; have GE101 := n3_; clear n0_ n1_ n2_ n3_; clear hb hbox hg; have hcz4_0 : w3.cell? ⟨gb101, 0, none⟩ = some (.slice none 0 0) := (blk_cell BK101.out 0).trans rfl; have hcz4_1 : w3.cell? ⟨gb101, 1, none⟩ = some (.slice none 0 0) := (blk_cell BK101.out 1).trans rfl; have hcz4_2 : w3.cell? ⟨gb101, 2, none⟩ = some (.int .i64 0) := (blk_cell BK101.out 2).trans rfl; have hfz4_0 := blk_frozen BK101.out 0; have hfz4_1 := blk_frozen BK101.out 1; have hfz4_2 := blk_frozen BK101.out 2))
    refine bodyPost_ret (results_ct rfl _ _ gb101 26 #[.slice none 0 0, .slice none 0 0, .int .i64 0] (0, 0) _ rfl (by (with_reducible repeat (first | refine blk_drewN ?_ _ | refine blk_drew ?_ | refine blk_alloc ?_ _)); refine blk_put (cs := #[.slice none 0 0, .slice none 0 0, .int .i64 0]) ?_ 2 _ rfl; (with_reducible repeat (first | refine blk_drewN ?_ _ | refine blk_drew ?_ | refine blk_alloc ?_ _)); refine blk_put (cs := #[.slice none 0 0, .slice none 0 0, .int .i64 0]) ?_ 1 _ rfl; (with_reducible repeat (first | refine blk_drewN ?_ _ | refine blk_drew ?_ | refine blk_alloc ?_ _)); refine blk_put (cs := #[.slice none 0 0, .slice none 0 0, .int .i64 0]) ?_ 0 _ rfl; (with_reducible repeat (first | refine blk_drewN ?_ _ | refine blk_drew ?_ | refine blk_alloc ?_ _)); exact BK101.out) Try.underlying26 rfl (by kernel_rfl)) rfl ?_
    exact ⟨_, _, by first | rfl | (simp [errW_none, errW_some] <;> rfl) | (simp [*, errW_none, errW_some] <;> rfl), by first | exact Kd.R_nil _ _ _ _ _ | exact Kd.N_nil _ _ _ _ _ | exact Kd.V_nil _ _ _ _ _ | exact Kd.Q_nil _ _ _ _ _ | exact Kd.S_nil _ _ _ _ _, by first | exact Kd.S_nil _ _ _ _ _ | exact Kd.N_nil _ _ _ _ _ | exact Kd.V_nil _ _ _ _ _ | exact Kd.Q_nil _ _ _ _ _ | exact Kd.R_nil _ _ _ _ _, by repeat (first | (with_reducible first | exact HB.out | apply below_alloc | apply pw_below_drewN | apply below_drew1 | refine below_set ?_ GE101.out) | exact HB.out)⟩
  · rw [if_neg c2] at H
    have c2b0 : decide (a0 < 1) = false := decide_eq_false c2
    clear c2
    by_cases c5 : a0 > 5
    · rw [if_pos c5] at H
      have c5b0 : decide (5 < a0) = true := decide_eq_true c5
      clear c5
      simp only [Option.some.injEq, Prod.mk.injEq] at H
      obtain ⟨rfl, rfl, rfl, rfl⟩ := H
      go_enter Try.func10, Try.ntmps10
      go_wp2_with (first | ((with_reducible refine gate_dst (N := 2) rfl ?_); refine box_event ?hg (N := 2) ?hd (cs := #[.slice none 0 0, .slice none 0 0, .int .i64 0]) (t := 26) ?hr ?_; (case hd => rfl); (case hg => rfl); (case hr => first | (go_simp; done) | (go_simp; rfl)); intro gb101 hg w6 hbox hb; have n0_ := Aside0.mk (below_step (by repeat (first | (with_reducible first | exact HB.out | apply below_alloc | apply pw_below_drewN | apply below_drew1) | exact HB.out)) hb); have n1_ := Aside0.mk (hbox); have n2_ := Aside0.mk ((by rw [hg]; exact (below_size (by repeat (first | (with_reducible first | exact HB.out | apply below_alloc | apply pw_below_drewN | apply below_drew1) | exact HB.out))) : w.heap.size ≤ gb101)); have n3_ := Aside0.mk ((by rw [hg]; exact (below_size (by repeat (first | (with_reducible first | exact HB.out | apply below_alloc | apply pw_below_drewN | apply below_drew1) | exact HB.out))) : w.heap.size ≤ gb101)); clear HB; have HB := n0_; have BK101 := n1_; have GW101 := n2_; have GE101 := n3_; clear n0_ n1_ n2_ n3_; clear hb hbox hg; have hcz7_0 : w6.cell? ⟨gb101, 0, none⟩ = some (.slice none 0 0) := (blk_cell BK101.out 0).trans rfl; have hcz7_1 : w6.cell? ⟨gb101, 1, none⟩ = some (.slice none 0 0) := (blk_cell BK101.out 1).trans rfl; have hcz7_2 : w6.cell? ⟨gb101, 2, none⟩ = some (.int .i64 0) := (blk_cell BK101.out 2).trans rfl; have hfz7_0 := blk_frozen BK101.out 0; have hfz7_1 := blk_frozen BK101.out 1; have hfz7_2 := blk_frozen BK101.out 2))
      refine bodyPost_ret (results_ct rfl _ _ gb101 26 #[.slice none 0 0, .slice none 0 0, .int .i64 0] (0, 0) _ rfl (by (with_reducible repeat (first | refine blk_drewN ?_ _ | refine blk_drew ?_ | refine blk_alloc ?_ _)); refine blk_put (cs := #[.slice none 0 0, .slice none 0 0, .int .i64 0]) ?_ 2 _ rfl; (with_reducible repeat (first | refine blk_drewN ?_ _ | refine blk_drew ?_ | refine blk_alloc ?_ _)); refine blk_put (cs := #[.slice none 0 0, .slice none 0 0, .int .i64 0]) ?_ 1 _ rfl; (with_reducible repeat (first | refine blk_drewN ?_ _ | refine blk_drew ?_ | refine blk_alloc ?_ _)); refine blk_put (cs := #[.slice none 0 0, .slice none 0 0, .int .i64 0]) ?_ 0 _ rfl; (with_reducible repeat (first | refine blk_drewN ?_ _ | refine blk_drew ?_ | refine blk_alloc ?_ _)); exact BK101.out) Try.underlying26 rfl (by kernel_rfl)) rfl ?_
      exact ⟨_, _, by first | rfl | (simp [errW_none, errW_some] <;> rfl) | (simp [*, errW_none, errW_some] <;> rfl), by first | exact Kd.R_nil _ _ _ _ _ | exact Kd.N_nil _ _ _ _ _ | exact Kd.V_nil _ _ _ _ _ | exact Kd.Q_nil _ _ _ _ _ | exact Kd.S_nil _ _ _ _ _, by first | exact Kd.S_nil _ _ _ _ _ | exact Kd.N_nil _ _ _ _ _ | exact Kd.V_nil _ _ _ _ _ | exact Kd.Q_nil _ _ _ _ _ | exact Kd.R_nil _ _ _ _ _, by repeat (first | (with_reducible first | exact HB.out | apply below_alloc | apply pw_below_drewN | apply below_drew1 | refine below_set ?_ GE101.out) | exact HB.out)⟩
    · rw [if_neg c5] at H
      have c5b0 : decide (5 < a0) = false := decide_eq_false c5
      clear c5
      by_cases c8 : 0 ≤ a0
      · rw [if_pos c8] at H
        have c8b0 := eq_true c8
        have c8b1 : decide (0 ≤ a0) = true := decide_eq_true c8
        clear c8
        by_cases c9 : (a0 : Int).toNat ≤ 35184372088832
        · rw [if_pos c9] at H
          have c9b0 := eq_true c9
          have c9b1 : decide ((a0 : Int).toNat ≤ 35184372088832) = true := decide_eq_true c9
          clear c9
          obtain ⟨y102, hy102⟩ : ∃ y_ : List Int, y_ = (List.replicate (a0 : Int).toNat 0) := ⟨_, rfl⟩
          replace H : (some (y102, ([] : List (S37)), 1, 0)) = some (r1, r2, r3, r4) := by first | (rw [hy102]; with_reducible exact H) | (have H2_ := (Option.bind_some _ _).symm.trans H; rw [hy102]; with_reducible exact H2_) | (have H2_ := (Option.bind_some _ _).symm.trans H; with_reducible exact H2_) | with_reducible exact H | (rw [hy102]; exact H) | exact H
          have Ny102 := Aside0.mk hy102
          clear hy102
          simp only [Option.some.injEq, Prod.mk.injEq] at H
          obtain ⟨rfl, rfl, rfl, rfl⟩ := H
          go_enter Try.func10, Try.ntmps10
          go_wp2_with (first | ((with_reducible refine gate_dst (N := 2) rfl ?_); refine box_event ?hg (N := 2) ?hd (cs := #[.slice none 0 0, .slice none 0 0, .int .i64 0]) (t := 26) ?hr ?_; (case hd => rfl); (case hg => rfl); (case hr => first | (go_simp; done) | (go_simp; rfl)); intro gb101 hg w10 hbox hb; have n0_ := Aside0.mk (below_step (by repeat (first | (with_reducible first | exact HB.out | apply below_alloc | apply pw_below_drewN | apply below_drew1) | exact HB.out)) hb); have n1_ := Aside0.mk (hbox); have n2_ := Aside0.mk ((by rw [hg]; exact (below_size (by repeat (first | (with_reducible first | exact HB.out | apply below_alloc | apply pw_below_drewN | apply below_drew1) | exact HB.out))) : w.heap.size ≤ gb101)); have n3_ := Aside0.mk ((by rw [hg]; exact (below_size (by repeat (first | (with_reducible first | exact HB.out | apply below_alloc | apply pw_below_drewN | apply below_drew1) | exact HB.out))) : w.heap.size ≤ gb101)); clear HB; have HB := n0_; have BK101 := n1_; have GW101 := n2_; have GE101 := n3_; clear n0_ n1_ n2_ n3_; clear hb hbox hg) | ((with_reducible refine gate_dst (N := 12) rfl ?_); refine Kd.R_make (Kd.int .i64) _ 3 rfl (N := 12) rfl 23 _ _ rfl a0 rfl rfl Try.underlying23 (.int .i64 0) 8 info3 rfl (by decide) (by omega) 0 (ok := fun _ => True) (okp := fun _ => True) rfl (fun _ hk => hk) trivial (of_decide_eq_true (by first | (with_reducible assumption) | assumption)) (Nat.le_trans (Nat.mul_le_mul_right _ (of_decide_eq_true (by first | (with_reducible assumption) | assumption) : a0.toNat ≤ 35184372088832)) (by omega)) (Below.refl _ _) (Nat.le_refl _) ?_; intro v103 w11 ho12 hb hg_ hnew_; clear hg_ hnew_; (first | rw [← Ny102.out] at ho12 | (simp only [Int.reduceToNat] at ho12; rw [← Ny102.out] at ho12)); have n0_ := Aside0.mk (Kd.R_lower ho12 (below_size (by repeat (first | (with_reducible first | exact HB.out | apply below_alloc | apply pw_below_drewN | apply below_drew1 | refine below_set ?_ GE101.out) | exact HB.out)))); have n1_ := Aside0.mk (blk_below (g := gb101) (o := .cells #[.slice none 0 0, .slice none 0 0, .int .i64 0] 26 (0, 0)) (by (with_reducible repeat (first | refine blk_drewN ?_ _ | refine blk_drew ?_ | refine blk_alloc ?_ _)); exact BK101.out) hb); have n2_ := Aside0.mk (below_step (by repeat (first | (with_reducible first | exact HB.out | apply below_alloc | apply pw_below_drewN | apply below_drew1 | refine below_set ?_ GE101.out) | exact HB.out)) hb); clear BK101; clear HB; have HO104 := n0_; have BK101 := n1_; have HB := n2_; clear n0_ n1_ n2_; clear hb ho12; obtain ⟨Ao13, co13, eo13⟩ := Kd.R_slice HO104.out; subst eo13; have hcz14_0 : w11.cell? ⟨gb101, 0, none⟩ = some (.slice none 0 0) := (blk_cell BK101.out 0).trans rfl; have hcz14_1 : w11.cell? ⟨gb101, 1, none⟩ = some (.slice none 0 0) := (blk_cell BK101.out 1).trans rfl; have hcz14_2 : w11.cell? ⟨gb101, 2, none⟩ = some (.int .i64 0) := (blk_cell BK101.out 2).trans rfl; have hfz14_0 := blk_frozen BK101.out 0; have hfz14_1 := blk_frozen BK101.out 1; have hfz14_2 := blk_frozen BK101.out 2))
          refine bodyPost_ret (results_ct rfl _ _ gb101 26 #[.slice Ao13 y102.length co13, .slice none 0 0, .int .i64 1] (0, 0) _ rfl (by (with_reducible repeat (first | refine blk_drewN ?_ _ | refine blk_drew ?_ | refine blk_alloc ?_ _)); refine blk_put (cs := #[.slice Ao13 y102.length co13, .slice none 0 0, .int .i64 0]) ?_ 2 _ rfl; (with_reducible repeat (first | refine blk_drewN ?_ _ | refine blk_drew ?_ | refine blk_alloc ?_ _)); refine blk_put (cs := #[.slice Ao13 y102.length co13, .slice none 0 0, .int .i64 0]) ?_ 1 _ rfl; (with_reducible repeat (first | refine blk_drewN ?_ _ | refine blk_drew ?_ | refine blk_alloc ?_ _)); refine blk_put (cs := #[.slice none 0 0, .slice none 0 0, .int .i64 0]) ?_ 0 _ rfl; (with_reducible repeat (first | refine blk_drewN ?_ _ | refine blk_drew ?_ | refine blk_alloc ?_ _)); exact BK101.out) Try.underlying26 rfl (by kernel_rfl)) rfl ?_
          exact ⟨_, _, by first | rfl | (simp [errW_none, errW_some] <;> rfl) | (simp [*, errW_none, errW_some] <;> rfl), by (with_reducible repeat (first | apply Kd.R_alloc | apply Kd.R_drewN | apply Kd.R_drew)); exact Kd.R_mono (Kd.R_far (p := ⟨gb101, 2, none⟩) (Kd.R_far (p := ⟨gb101, 1, none⟩) (Kd.R_far (p := ⟨gb101, 0, none⟩) (Kd.R_types HO104.out BK101.out (by decide)) (fun _ hk => hk.2) (.slice Ao13 y102.length co13)) (fun _ hk => hk.2) (.slice none 0 0)) (fun _ hk => hk.2) (.int .i64 1)) (fun _ hk => trivial), by first | exact Kd.S_nil _ _ _ _ _ | exact Kd.N_nil _ _ _ _ _ | exact Kd.V_nil _ _ _ _ _ | exact Kd.Q_nil _ _ _ _ _ | exact Kd.R_nil _ _ _ _ _, by repeat (first | (with_reducible first | exact HB.out | apply below_alloc | apply pw_below_drewN | apply below_drew1 | refine below_set ?_ GE101.out) | exact HB.out)⟩
        · rw [if_neg c9] at H
          exact absurd H (by simp)
      · rw [if_neg c8] at H
        exact absurd H (by simp)
def malthouseref14_New.f (a0 : Int) : Option (List Int × (List (S37)) × Int × Int) := if a0 < 1 then (some (([] : List Int), ([] : List (S37)), 0, 1)) else (if a0 > 5 then (some (([] : List Int), ([] : List (S37)), 0, 1)) else (if 0 ≤ a0 then (if (a0 : Int).toNat ≤ 35184372088832 then (some ((List.replicate (a0 : Int).toNat 0), ([] : List (S37)), 1, 0)) else (none)) else (none)))
set_option maxHeartbeats 8000000 in
set_option maxRecDepth 100000 in
theorem malthouseref14_New.calls (a0 : Int) (r1 : List Int) (r2 : List (S37)) (r3 : Int) (r4 : Int) (w : World) (h : malthouseref14_New.f a0 = some (r1, r2, r3, r4)) :
    Calls Try.prog 11 #[.int .i64 a0] w fun e w' => ∃ v0_ v1_ : Value, e = .returned (.tuple #[.agg #[v0_, v1_, .int .i64 r3], .int .i64 r4]) ∧ Kd.R (Kd.int .i64) 3 w' w.heap.size (fun _ => True) v0_ r1 ∧ Kd.S k37 37 w' w.heap.size (fun k_ => some k_ ≠ (v0_ : Value).ownBlock) v1_ r2 ∧ Below w.heap.size w w' := by
  have hu26 := Try.underlying26
  have HB := Aside0.mk (Below.refl w.heap.size w)
  have H : (if a0 < 1 then (some (([] : List Int), ([] : List (S37)), 0, 1)) else (if a0 > 5 then (some (([] : List Int), ([] : List (S37)), 0, 1)) else (if 0 ≤ a0 then (if (a0 : Int).toNat ≤ 35184372088832 then (some ((List.replicate (a0 : Int).toNat 0), ([] : List (S37)), 1, 0)) else (none)) else (none)))) = some (r1, r2, r3, r4) := h
  clear h
  by_cases c2 : a0 < 1
  · rw [if_pos c2] at H
    have c2b0 : decide (a0 < 1) = true := decide_eq_true c2
    clear c2
    simp only [Option.some.injEq, Prod.mk.injEq] at H
    obtain ⟨rfl, rfl, rfl, rfl⟩ := H
    go_enter Try.func11, Try.ntmps11
    go_wp2_with (first | ((with_reducible refine gate_dst (N := 2) rfl ?_); refine box_event ?hg (N := 2) ?hd (cs := #[.slice none 0 0, .slice none 0 0, .int .i64 0]) (t := 26) ?hr ?_; (case hd => rfl); (case hg => rfl); (case hr => first | (go_simp; done) | (go_simp; rfl)); intro gb105 hg w3 hbox hb; have n0_ := Aside0.mk (below_step (by repeat (first | (with_reducible first | exact HB.out | apply below_alloc | apply pw_below_drewN | apply below_drew1) | exact HB.out)) hb); have n1_ := Aside0.mk (hbox); have n2_ := Aside0.mk ((by rw [hg]; exact (below_size (by repeat (first | (with_reducible first | exact HB.out | apply below_alloc | apply pw_below_drewN | apply below_drew1) | exact HB.out))) : w.heap.size ≤ gb105)); have n3_ := Aside0.mk ((by rw [hg]; exact (below_size (by repeat (first | (with_reducible first | exact HB.out | apply below_alloc | apply pw_below_drewN | apply below_drew1) | exact HB.out))) : w.heap.size ≤ gb105)); clear HB; have HB := n0_; have BK105 := n1_; have GW105 := n2_; have GE105 := n3_; clear n0_ n1_ n2_ n3_; clear hb hbox hg; have hcz4_0 : w3.cell? ⟨gb105, 0, none⟩ = some (.slice none 0 0) := (blk_cell BK105.out 0).trans rfl; have hcz4_1 : w3.cell? ⟨gb105, 1, none⟩ = some (.slice none 0 0) := (blk_cell BK105.out 1).trans rfl; have hcz4_2 : w3.cell? ⟨gb105, 2, none⟩ = some (.int .i64 0) := (blk_cell BK105.out 2).trans rfl; have hfz4_0 := blk_frozen BK105.out 0; have hfz4_1 := blk_frozen BK105.out 1; have hfz4_2 := blk_frozen BK105.out 2))
    refine bodyPost_ret (results_ct rfl _ _ gb105 26 #[.slice none 0 0, .slice none 0 0, .int .i64 0] (0, 0) _ rfl (by (with_reducible repeat (first | refine blk_drewN ?_ _ | refine blk_drew ?_ | refine blk_alloc ?_ _)); refine blk_put (cs := #[.slice none 0 0, .slice none 0 0, .int .i64 0]) ?_ 2 _ rfl; (with_reducible repeat (first | refine blk_drewN ?_ _ | refine blk_drew ?_ | refine blk_alloc ?_ _)); refine blk_put (cs := #[.slice none 0 0, .slice none 0 0, .int .i64 0]) ?_ 1 _ rfl; (with_reducible repeat (first | refine blk_drewN ?_ _ | refine blk_drew ?_ | refine blk_alloc ?_ _)); refine blk_put (cs := #[.slice none 0 0, .slice none 0 0, .int .i64 0]) ?_ 0 _ rfl; (with_reducible repeat (first | refine blk_drewN ?_ _ | refine blk_drew ?_ | refine blk_alloc ?_ _)); exact BK105.out) Try.underlying26 rfl (by kernel_rfl)) rfl ?_
    exact ⟨_, _, by first | rfl | (simp [errW_none, errW_some] <;> rfl) | (simp [*, errW_none, errW_some] <;> rfl), by first | exact Kd.R_nil _ _ _ _ _ | exact Kd.N_nil _ _ _ _ _ | exact Kd.V_nil _ _ _ _ _ | exact Kd.Q_nil _ _ _ _ _ | exact Kd.S_nil _ _ _ _ _, by first | exact Kd.S_nil _ _ _ _ _ | exact Kd.N_nil _ _ _ _ _ | exact Kd.V_nil _ _ _ _ _ | exact Kd.Q_nil _ _ _ _ _ | exact Kd.R_nil _ _ _ _ _, by repeat (first | (with_reducible first | exact HB.out | apply below_alloc | apply pw_below_drewN | apply below_drew1 | refine below_set ?_ GE105.out) | exact HB.out)⟩
  · rw [if_neg c2] at H
    have c2b0 : decide (a0 < 1) = false := decide_eq_false c2
    clear c2
    by_cases c5 : a0 > 5
    · rw [if_pos c5] at H
      have c5b0 : decide (5 < a0) = true := decide_eq_true c5
      clear c5
      simp only [Option.some.injEq, Prod.mk.injEq] at H
      obtain ⟨rfl, rfl, rfl, rfl⟩ := H
      go_enter Try.func11, Try.ntmps11
      go_wp2_with (first | ((with_reducible refine gate_dst (N := 2) rfl ?_); refine box_event ?hg (N := 2) ?hd (cs := #[.slice none 0 0, .slice none 0 0, .int .i64 0]) (t := 26) ?hr ?_; (case hd => rfl); (case hg => rfl); (case hr => first | (go_simp; done) | (go_simp; rfl)); intro gb105 hg w6 hbox hb; have n0_ := Aside0.mk (below_step (by repeat (first | (with_reducible first | exact HB.out | apply below_alloc | apply pw_below_drewN | apply below_drew1) | exact HB.out)) hb); have n1_ := Aside0.mk (hbox); have n2_ := Aside0.mk ((by rw [hg]; exact (below_size (by repeat (first | (with_reducible first | exact HB.out | apply below_alloc | apply pw_below_drewN | apply below_drew1) | exact HB.out))) : w.heap.size ≤ gb105)); have n3_ := Aside0.mk ((by rw [hg]; exact (below_size (by repeat (first | (with_reducible first | exact HB.out | apply below_alloc | apply pw_below_drewN | apply below_drew1) | exact HB.out))) : w.heap.size ≤ gb105)); clear HB; have HB := n0_; have BK105 := n1_; have GW105 := n2_; have GE105 := n3_; clear n0_ n1_ n2_ n3_; clear hb hbox hg; have hcz7_0 : w6.cell? ⟨gb105, 0, none⟩ = some (.slice none 0 0) := (blk_cell BK105.out 0).trans rfl; have hcz7_1 : w6.cell? ⟨gb105, 1, none⟩ = some (.slice none 0 0) := (blk_cell BK105.out 1).trans rfl; have hcz7_2 : w6.cell? ⟨gb105, 2, none⟩ = some (.int .i64 0) := (blk_cell BK105.out 2).trans rfl; have hfz7_0 := blk_frozen BK105.out 0; have hfz7_1 := blk_frozen BK105.out 1; have hfz7_2 := blk_frozen BK105.out 2))
      refine bodyPost_ret (results_ct rfl _ _ gb105 26 #[.slice none 0 0, .slice none 0 0, .int .i64 0] (0, 0) _ rfl (by (with_reducible repeat (first | refine blk_drewN ?_ _ | refine blk_drew ?_ | refine blk_alloc ?_ _)); refine blk_put (cs := #[.slice none 0 0, .slice none 0 0, .int .i64 0]) ?_ 2 _ rfl; (with_reducible repeat (first | refine blk_drewN ?_ _ | refine blk_drew ?_ | refine blk_alloc ?_ _)); refine blk_put (cs := #[.slice none 0 0, .slice none 0 0, .int .i64 0]) ?_ 1 _ rfl; (with_reducible repeat (first | refine blk_drewN ?_ _ | refine blk_drew ?_ | refine blk_alloc ?_ _)); refine blk_put (cs := #[.slice none 0 0, .slice none 0 0, .int .i64 0]) ?_ 0 _ rfl; (with_reducible repeat (first | refine blk_drewN ?_ _ | refine blk_drew ?_ | refine blk_alloc ?_ _)); exact BK105.out) Try.underlying26 rfl (by kernel_rfl)) rfl ?_
      exact ⟨_, _, by first | rfl | (simp [errW_none, errW_some] <;> rfl) | (simp [*, errW_none, errW_some] <;> rfl), by first | exact Kd.R_nil _ _ _ _ _ | exact Kd.N_nil _ _ _ _ _ | exact Kd.V_nil _ _ _ _ _ | exact Kd.Q_nil _ _ _ _ _ | exact Kd.S_nil _ _ _ _ _, by first | exact Kd.S_nil _ _ _ _ _ | exact Kd.N_nil _ _ _ _ _ | exact Kd.V_nil _ _ _ _ _ | exact Kd.Q_nil _ _ _ _ _ | exact Kd.R_nil _ _ _ _ _, by repeat (first | (with_reducible first | exact HB.out | apply below_alloc | apply pw_below_drewN | apply below_drew1 | refine below_set ?_ GE105.out) | exact HB.out)⟩
    · rw [if_neg c5] at H
      have c5b0 : decide (5 < a0) = false := decide_eq_false c5
      clear c5
      by_cases c8 : 0 ≤ a0
      · rw [if_pos c8] at H
        have c8b0 := eq_true c8
        have c8b1 : decide (0 ≤ a0) = true := decide_eq_true c8
        clear c8
        by_cases c9 : (a0 : Int).toNat ≤ 35184372088832
        · rw [if_pos c9] at H
          have c9b0 := eq_true c9
          have c9b1 : decide ((a0 : Int).toNat ≤ 35184372088832) = true := decide_eq_true c9
          clear c9
          obtain ⟨y106, hy106⟩ : ∃ y_ : List Int, y_ = (List.replicate (a0 : Int).toNat 0) := ⟨_, rfl⟩
          replace H : (some (y106, ([] : List (S37)), 1, 0)) = some (r1, r2, r3, r4) := by first | (rw [hy106]; with_reducible exact H) | (have H2_ := (Option.bind_some _ _).symm.trans H; rw [hy106]; with_reducible exact H2_) | (have H2_ := (Option.bind_some _ _).symm.trans H; with_reducible exact H2_) | with_reducible exact H | (rw [hy106]; exact H) | exact H
          have Ny106 := Aside0.mk hy106
          clear hy106
          simp only [Option.some.injEq, Prod.mk.injEq] at H
          obtain ⟨rfl, rfl, rfl, rfl⟩ := H
          go_enter Try.func11, Try.ntmps11
          go_wp2_with (first | ((with_reducible refine gate_dst (N := 2) rfl ?_); refine box_event ?hg (N := 2) ?hd (cs := #[.slice none 0 0, .slice none 0 0, .int .i64 0]) (t := 26) ?hr ?_; (case hd => rfl); (case hg => rfl); (case hr => first | (go_simp; done) | (go_simp; rfl)); intro gb105 hg w10 hbox hb; have n0_ := Aside0.mk (below_step (by repeat (first | (with_reducible first | exact HB.out | apply below_alloc | apply pw_below_drewN | apply below_drew1) | exact HB.out)) hb); have n1_ := Aside0.mk (hbox); have n2_ := Aside0.mk ((by rw [hg]; exact (below_size (by repeat (first | (with_reducible first | exact HB.out | apply below_alloc | apply pw_below_drewN | apply below_drew1) | exact HB.out))) : w.heap.size ≤ gb105)); have n3_ := Aside0.mk ((by rw [hg]; exact (below_size (by repeat (first | (with_reducible first | exact HB.out | apply below_alloc | apply pw_below_drewN | apply below_drew1) | exact HB.out))) : w.heap.size ≤ gb105)); clear HB; have HB := n0_; have BK105 := n1_; have GW105 := n2_; have GE105 := n3_; clear n0_ n1_ n2_ n3_; clear hb hbox hg) | ((with_reducible refine gate_dst (N := 12) rfl ?_); refine Kd.R_make (Kd.int .i64) _ 3 rfl (N := 12) rfl 23 _ _ rfl a0 rfl rfl Try.underlying23 (.int .i64 0) 8 info3 rfl (by decide) (by omega) 0 (ok := fun _ => True) (okp := fun _ => True) rfl (fun _ hk => hk) trivial (of_decide_eq_true (by first | (with_reducible assumption) | assumption)) (Nat.le_trans (Nat.mul_le_mul_right _ (of_decide_eq_true (by first | (with_reducible assumption) | assumption) : a0.toNat ≤ 35184372088832)) (by omega)) (Below.refl _ _) (Nat.le_refl _) ?_; intro v107 w11 ho12 hb hg_ hnew_; clear hg_ hnew_; (first | rw [← Ny106.out] at ho12 | (simp only [Int.reduceToNat] at ho12; rw [← Ny106.out] at ho12)); have n0_ := Aside0.mk (Kd.R_lower ho12 (below_size (by repeat (first | (with_reducible first | exact HB.out | apply below_alloc | apply pw_below_drewN | apply below_drew1 | refine below_set ?_ GE105.out) | exact HB.out)))); have n1_ := Aside0.mk (blk_below (g := gb105) (o := .cells #[.slice none 0 0, .slice none 0 0, .int .i64 0] 26 (0, 0)) (by (with_reducible repeat (first | refine blk_drewN ?_ _ | refine blk_drew ?_ | refine blk_alloc ?_ _)); exact BK105.out) hb); have n2_ := Aside0.mk (below_step (by repeat (first | (with_reducible first | exact HB.out | apply below_alloc | apply pw_below_drewN | apply below_drew1 | refine below_set ?_ GE105.out) | exact HB.out)) hb); clear BK105; clear HB; have HO108 := n0_; have BK105 := n1_; have HB := n2_; clear n0_ n1_ n2_; clear hb ho12; obtain ⟨Ao13, co13, eo13⟩ := Kd.R_slice HO108.out; subst eo13; have hcz14_0 : w11.cell? ⟨gb105, 0, none⟩ = some (.slice none 0 0) := (blk_cell BK105.out 0).trans rfl; have hcz14_1 : w11.cell? ⟨gb105, 1, none⟩ = some (.slice none 0 0) := (blk_cell BK105.out 1).trans rfl; have hcz14_2 : w11.cell? ⟨gb105, 2, none⟩ = some (.int .i64 0) := (blk_cell BK105.out 2).trans rfl; have hfz14_0 := blk_frozen BK105.out 0; have hfz14_1 := blk_frozen BK105.out 1; have hfz14_2 := blk_frozen BK105.out 2))
          refine bodyPost_ret (results_ct rfl _ _ gb105 26 #[.slice Ao13 y106.length co13, .slice none 0 0, .int .i64 1] (0, 0) _ rfl (by (with_reducible repeat (first | refine blk_drewN ?_ _ | refine blk_drew ?_ | refine blk_alloc ?_ _)); refine blk_put (cs := #[.slice Ao13 y106.length co13, .slice none 0 0, .int .i64 0]) ?_ 2 _ rfl; (with_reducible repeat (first | refine blk_drewN ?_ _ | refine blk_drew ?_ | refine blk_alloc ?_ _)); refine blk_put (cs := #[.slice Ao13 y106.length co13, .slice none 0 0, .int .i64 0]) ?_ 1 _ rfl; (with_reducible repeat (first | refine blk_drewN ?_ _ | refine blk_drew ?_ | refine blk_alloc ?_ _)); refine blk_put (cs := #[.slice none 0 0, .slice none 0 0, .int .i64 0]) ?_ 0 _ rfl; (with_reducible repeat (first | refine blk_drewN ?_ _ | refine blk_drew ?_ | refine blk_alloc ?_ _)); exact BK105.out) Try.underlying26 rfl (by kernel_rfl)) rfl ?_
          exact ⟨_, _, by first | rfl | (simp [errW_none, errW_some] <;> rfl) | (simp [*, errW_none, errW_some] <;> rfl), by (with_reducible repeat (first | apply Kd.R_alloc | apply Kd.R_drewN | apply Kd.R_drew)); exact Kd.R_mono (Kd.R_far (p := ⟨gb105, 2, none⟩) (Kd.R_far (p := ⟨gb105, 1, none⟩) (Kd.R_far (p := ⟨gb105, 0, none⟩) (Kd.R_types HO108.out BK105.out (by decide)) (fun _ hk => hk.2) (.slice Ao13 y106.length co13)) (fun _ hk => hk.2) (.slice none 0 0)) (fun _ hk => hk.2) (.int .i64 1)) (fun _ hk => trivial), by first | exact Kd.S_nil _ _ _ _ _ | exact Kd.N_nil _ _ _ _ _ | exact Kd.V_nil _ _ _ _ _ | exact Kd.Q_nil _ _ _ _ _ | exact Kd.R_nil _ _ _ _ _, by repeat (first | (with_reducible first | exact HB.out | apply below_alloc | apply pw_below_drewN | apply below_drew1 | refine below_set ?_ GE105.out) | exact HB.out)⟩
        · rw [if_neg c9] at H
          exact absurd H (by simp)
      · rw [if_neg c8] at H
        exact absurd H (by simp)
def malthouseref14_Ints.l0 : Nat → List Int → List Int → Int → Option (Bool)
  | 0, _, _, _ => none
  | k + 1, x0, x1, x5 => if x5 < (x0.length : Int) then (if 0 ≤ x5 then (if x5 < (x1.length : Int) then (if (rd x0 x5) = (rd x1 x5) then (malthouseref14_Ints.l0 k x0 x1 (wrap64 (x5 + 1))) else (some false)) else (none)) else (none)) else (some true)
def malthouseref14_Ints.f (k : Nat) (l0 : List Int) (l1 : List Int) : Option (Bool) := if (l0.length : Int) = (l1.length : Int) then (malthouseref14_Ints.l0 k l0 l1 0) else (some false)
set_option maxHeartbeats 8000000 in
set_option maxRecDepth 100000 in
theorem malthouseref14_Ints.calls (k : Nat) (A0 : Option Addr) (c0 : Nat) (l0 : List Int) (A1 : Option Addr) (c1 : Nat) (l1 : List Int) (r : Bool) (w : World) (hr0 : Kd.C (Kd.int .i64) w A0 l0.length l0) (hc0 : l0.length ≤ c0) (hr1 : Kd.C (Kd.int .i64) w A1 l1.length l1) (hc1 : l1.length ≤ c1) (h : malthouseref14_Ints.f k l0 l1 = some r) :
    Calls Try.prog 27 #[.slice A0 l0.length c0, .slice A1 l1.length c1] w fun e w' => e = .returned (.bool r) ∧ Drawn0 w w' := by
  have HR0 := Aside0.mk hr0
  have HC0 := Aside0.mk hc0
  clear hr0 hc0
  have HR1 := Aside0.mk hr1
  have HC1 := Aside0.mk hc1
  clear hr1 hc1
  have H : (if (l0.length : Int) = (l1.length : Int) then (malthouseref14_Ints.l0 k l0 l1 0) else (some false)) = some r := h
  clear h
  by_cases c3 : (l0.length : Int) = (l1.length : Int)
  · rw [if_pos c3] at H
    have c3b0 : ((l0.length : Int) == (l1.length : Int)) = true := beq_iff_eq.mpr c3
    have c3b1 : ((l0.length : Int) != (l1.length : Int)) = false := bne_eq_false_iff_eq.mpr c3
    have c3b2 : (l0.length == l1.length) = true := by first | simpa using c3 | (simp at c3 ⊢; omega)
    clear c3
    have H' := Aside0.mk H
    clear H
    go_enter Try.func27, Try.ntmps27
    go_wp2
    repeat (go_quiet (fail); try go_wp2)
    go_loopg [5] k (fun kq v5 w' => ∃ (x5_1 : Int), v5 = .int .i64 x5_1 ∧ Aside0 (malthouseref14_Ints.l0 kq l0 l1 x5_1 = some r) ∧ Aside0 (kq ≤ k) ∧ Drawn0 w w')
    case atStart => exact ⟨(0), (by first | rfl | (simp; done) | (simp [*]; done)), H', ⟨Nat.le_refl _⟩, by repeat (first | exact Drawn0.refl _ | apply Drawn0.step)⟩
    case round =>
      clear H'
      try clear c1
      try clear c2
      try clear p2
      try clear c3
      try clear c3b0
      try clear c3b1
      try clear c3b2
      obtain ⟨x5_1, rfl, HA, HK1, ⟨m1, rfl⟩⟩ := hrel
      cases gk with
      | zero => exact absurd HA.out (by simp [malthouseref14_Ints.l0])
      | succ k1 =>
        have H := HA.out
        clear HA
        simp only [malthouseref14_Ints.l0] at H
        by_cases c4 : x5_1 < (l0.length : Int)
        · rw [if_pos c4] at H
          have c4b0 : decide (x5_1 < (l0.length : Int)) = true := decide_eq_true c4
          clear c4
          by_cases c5 : 0 ≤ x5_1
          · rw [if_pos c5] at H
            have c5b0 : decide (0 ≤ x5_1) = true := decide_eq_true c5
            clear c5
            by_cases c6 : x5_1 < (l1.length : Int)
            · rw [if_pos c6] at H
              have c6b0 : decide (x5_1 < (l1.length : Int)) = true := decide_eq_true c6
              clear c6
              by_cases c7 : (rd l0 x5_1) = (rd l1 x5_1)
              · rw [if_pos c7] at H
                have c7b0 : ((rd l0 x5_1) == (rd l1 x5_1)) = true := beq_iff_eq.mpr c7
                have c7b1 : ((rd l0 x5_1) != (rd l1 x5_1)) = false := bne_eq_false_iff_eq.mpr c7
                clear c7
                have H' := Aside0.mk H
                clear H
                have p109 : 0 ≤ (x5_1 : Int) := of_decide_eq_true (by first | (with_reducible assumption) | assumption)
                have q109 : x5_1 < (l0.length : Int) := of_decide_eq_true (by first | (with_reducible assumption) | assumption)
                obtain ⟨ad109, e109, hx109_0⟩ := Kd.at_int HR0.out x5_1 p109 q109
                cases e109
                replace p109 := eq_true p109
                replace q109 := eq_true q109
                have p110 : 0 ≤ (x5_1 : Int) := of_decide_eq_true (by first | (with_reducible assumption) | assumption)
                have q110 : x5_1 < (l1.length : Int) := of_decide_eq_true (by first | (with_reducible assumption) | assumption)
                obtain ⟨ad110, e110, hx110_0⟩ := Kd.at_int HR1.out x5_1 p110 q110
                cases e110
                replace p110 := eq_true p110
                replace q110 := eq_true q110
                go_wp2
                repeat (go_quiet (fail); try go_wp2)
                go_roundg k1
                case measure => have := HK1.out; omega
                case rel => exact ⟨(wrap64 (x5_1 + 1)), (by first | rfl | (simp; done) | (simp [*]; done)), H', ⟨by have := HK1.out; omega⟩, by repeat (first | exact Drawn0.refl _ | apply Drawn0.step)⟩
              · rw [if_neg c7] at H
                have c7b0 : ((rd l0 x5_1) == (rd l1 x5_1)) = false := beq_eq_false_iff_ne.mpr c7
                have c7b1 : ((rd l0 x5_1) != (rd l1 x5_1)) = true := bne_iff_ne.mpr c7
                obtain rfl := Option.some.inj H
                have p109 : 0 ≤ (x5_1 : Int) := of_decide_eq_true (by first | (with_reducible assumption) | assumption)
                have q109 : x5_1 < (l0.length : Int) := of_decide_eq_true (by first | (with_reducible assumption) | assumption)
                obtain ⟨ad109, e109, hx109_0⟩ := Kd.at_int HR0.out x5_1 p109 q109
                cases e109
                replace p109 := eq_true p109
                replace q109 := eq_true q109
                have p110 : 0 ≤ (x5_1 : Int) := of_decide_eq_true (by first | (with_reducible assumption) | assumption)
                have q110 : x5_1 < (l1.length : Int) := of_decide_eq_true (by first | (with_reducible assumption) | assumption)
                obtain ⟨ad110, e110, hx110_0⟩ := Kd.at_int HR1.out x5_1 p110 q110
                cases e110
                replace p110 := eq_true p110
                replace q110 := eq_true q110
                go_wp2
                repeat (go_quiet (fail); try go_wp2)
                go_ret
                exact ⟨by first | rfl | (simp; done) | (simp [*]; done), by repeat (first | exact Drawn0.refl _ | apply Drawn0.step)⟩
            · rw [if_neg c6] at H
              exact absurd H (by simp)
          · rw [if_neg c5] at H
            exact absurd H (by simp)
        · rw [if_neg c4] at H
          have c4b0 : decide (x5_1 < (l0.length : Int)) = false := decide_eq_false c4
          clear c4
          obtain rfl := Option.some.inj H
          go_wp2
          repeat (go_quiet (fail); try go_wp2)
          go_ret
          exact ⟨by first | rfl | (simp; done) | (simp [*]; done), by repeat (first | exact Drawn0.refl _ | apply Drawn0.step)⟩
  · rw [if_neg c3] at H
    have c3b0 : ((l0.length : Int) == (l1.length : Int)) = false := beq_eq_false_iff_ne.mpr c3
    have c3b1 : ((l0.length : Int) != (l1.length : Int)) = true := bne_iff_ne.mpr c3
    have c3b2 : (l0.length == l1.length) = false := by first | simpa using c3 | (simp at c3 ⊢; omega)
    obtain rfl := Option.some.inj H
    go_enter Try.func27, Try.ntmps27
    go_wp2
    repeat (go_quiet (fail); try go_wp2)
    go_ret
    exact ⟨by first | rfl | (simp; done) | (simp [*]; done), by repeat (first | exact Drawn0.refl _ | apply Drawn0.step)⟩
def malthouseref14_Wishes.l0 : Nat → List (S37) → List (S37) → Int → Option (Bool)
  | 0, _, _, _ => none
  | k + 1, x0, x1, x5 => if x5 < (x0.length : Int) then (if 0 ≤ x5 then (if x5 < (x1.length : Int) then ((malthouseref14_Ints.f k ((rd_T37 x0 x5).f2) ((rd_T37 x1 x5).f2)).bind fun t113 => (if t113 = true then (if ((rd_T37 x0 x5).f0) = ((rd_T37 x1 x5).f0) then (if ((rd_T37 x0 x5).f1) = ((rd_T37 x1 x5).f1) then (if ((rd_T37 x0 x5).f3) = ((rd_T37 x1 x5).f3) then (malthouseref14_Wishes.l0 k x0 x1 (wrap64 (x5 + 1))) else (some false)) else (some false)) else (some false)) else (some false))) else (none)) else (none)) else (some true)
def malthouseref14_Wishes.f (k : Nat) (l0 : List (S37)) (l1 : List (S37)) : Option (Bool) := if (l0.length : Int) = (l1.length : Int) then (malthouseref14_Wishes.l0 k l0 l1 0) else (some false)
set_option maxHeartbeats 8000000 in
set_option maxRecDepth 100000 in
theorem malthouseref14_Wishes.calls (k : Nat) (A0 : Option Addr) (c0 : Nat) (l0 : List (S37)) (A1 : Option Addr) (c1 : Nat) (l1 : List (S37)) (r : Bool) (w : World) (hr0 : Kd.C k37 w A0 l0.length l0) (hc0 : l0.length ≤ c0) (hr1 : Kd.C k37 w A1 l1.length l1) (hc1 : l1.length ≤ c1) (h : malthouseref14_Wishes.f k l0 l1 = some r) :
    Calls Try.prog 19 #[.slice A0 l0.length c0, .slice A1 l1.length c1] w fun e w' => e = .returned (.bool r) ∧ Drawn0 w w' := by
  have HR0 := Aside0.mk hr0
  have HC0 := Aside0.mk hc0
  clear hr0 hc0
  have HR1 := Aside0.mk hr1
  have HC1 := Aside0.mk hc1
  clear hr1 hc1
  have H : (if (l0.length : Int) = (l1.length : Int) then (malthouseref14_Wishes.l0 k l0 l1 0) else (some false)) = some r := h
  clear h
  by_cases c3 : (l0.length : Int) = (l1.length : Int)
  · rw [if_pos c3] at H
    have c3b0 : ((l0.length : Int) == (l1.length : Int)) = true := beq_iff_eq.mpr c3
    have c3b1 : ((l0.length : Int) != (l1.length : Int)) = false := bne_eq_false_iff_eq.mpr c3
    have c3b2 : (l0.length == l1.length) = true := by first | simpa using c3 | (simp at c3 ⊢; omega)
    clear c3
    have H' := Aside0.mk H
    clear H
    go_enter Try.func19, Try.ntmps19
    go_wp2
    repeat (go_quiet (fail); try go_wp2)
    go_loopg [5] k (fun kq v5 w' => ∃ (x5_1 : Int), v5 = .int .i64 x5_1 ∧ Aside0 (malthouseref14_Wishes.l0 kq l0 l1 x5_1 = some r) ∧ Aside0 (kq ≤ k) ∧ Drawn0 w w')
    case atStart => exact ⟨(0), (by first | rfl | (simp; done) | (simp [*]; done)), H', ⟨Nat.le_refl _⟩, by repeat (first | exact Drawn0.refl _ | apply Drawn0.step)⟩
    case round =>
      clear H'
      try clear c1
      try clear p2
      try clear c3
      try clear c3b0
      try clear c3b1
      try clear c3b2
      obtain ⟨x5_1, rfl, HA, HK1, ⟨m1, rfl⟩⟩ := hrel
      cases gk with
      | zero => exact absurd HA.out (by simp [malthouseref14_Wishes.l0])
      | succ k1 =>
        have H := HA.out
        clear HA
        simp only [malthouseref14_Wishes.l0] at H
        by_cases c4 : x5_1 < (l0.length : Int)
        · rw [if_pos c4] at H
          have c4b0 : decide (x5_1 < (l0.length : Int)) = true := decide_eq_true c4
          clear c4
          by_cases c5 : 0 ≤ x5_1
          · rw [if_pos c5] at H
            have c5b0 : decide (0 ≤ x5_1) = true := decide_eq_true c5
            clear c5
            by_cases c6 : x5_1 < (l1.length : Int)
            · rw [if_pos c6] at H
              have c6b0 : decide (x5_1 < (l1.length : Int)) = true := decide_eq_true c6
              clear c6
              replace H := Option.bind_eq_some_iff.mp H
              obtain ⟨t113, A70, H⟩ := H
              replace H : (if t113 = true then (if ((rd_T37 l0 x5_1).f0) = ((rd_T37 l1 x5_1).f0) then (if ((rd_T37 l0 x5_1).f1) = ((rd_T37 l1 x5_1).f1) then (if ((rd_T37 l0 x5_1).f3) = ((rd_T37 l1 x5_1).f3) then (malthouseref14_Wishes.l0 k1 l0 l1 (wrap64 (x5_1 + 1))) else (some false)) else (some false)) else (some false)) else (some false)) = some r := H
              have A7 := Aside0.mk A70
              clear A70
              by_cases c8 : t113 = true
              · subst c8
                have H1 : (if ((rd_T37 l0 x5_1).f0) = ((rd_T37 l1 x5_1).f0) then (if ((rd_T37 l0 x5_1).f1) = ((rd_T37 l1 x5_1).f1) then (if ((rd_T37 l0 x5_1).f3) = ((rd_T37 l1 x5_1).f3) then (malthouseref14_Wishes.l0 k1 l0 l1 (wrap64 (x5_1 + 1))) else (some false)) else (some false)) else (some false)) = some r := by rw [if_pos rfl] at H; exact H
                clear H
                have H := H1
                clear H1
                by_cases c9 : ((rd_T37 l0 x5_1).f0) = ((rd_T37 l1 x5_1).f0)
                · rw [if_pos c9] at H
                  have c9b0 : (((rd_T37 l0 x5_1).f0) == ((rd_T37 l1 x5_1).f0)) = true := beq_iff_eq.mpr c9
                  have c9b1 : (((rd_T37 l0 x5_1).f0) != ((rd_T37 l1 x5_1).f0)) = false := bne_eq_false_iff_eq.mpr c9
                  clear c9
                  by_cases c10 : ((rd_T37 l0 x5_1).f1) = ((rd_T37 l1 x5_1).f1)
                  · rw [if_pos c10] at H
                    have c10b0 : (((rd_T37 l0 x5_1).f1) == ((rd_T37 l1 x5_1).f1)) = true := beq_iff_eq.mpr c10
                    have c10b1 : (((rd_T37 l0 x5_1).f1) != ((rd_T37 l1 x5_1).f1)) = false := bne_eq_false_iff_eq.mpr c10
                    clear c10
                    by_cases c11 : ((rd_T37 l0 x5_1).f3) = ((rd_T37 l1 x5_1).f3)
                    · rw [if_pos c11] at H
                      have c11b0 : (((rd_T37 l0 x5_1).f3) == ((rd_T37 l1 x5_1).f3)) = true := beq_iff_eq.mpr c11
                      have c11b1 : (((rd_T37 l0 x5_1).f3) != ((rd_T37 l1 x5_1).f3)) = false := bne_eq_false_iff_eq.mpr c11
                      clear c11
                      have H' := Aside0.mk H
                      clear H
                      have p111 : 0 ≤ (x5_1 : Int) := of_decide_eq_true (by first | (with_reducible assumption) | assumption)
                      have q111 : x5_1 < (l0.length : Int) := of_decide_eq_true (by first | (with_reducible assumption) | assumption)
                      obtain ⟨ad111, A111_2, c111_2, e111, hx111_0, hx111_1, hx111_2, hx111_3, hl111_2, hi111_2⟩ := at_T37 HR0.out x5_1 p111 q111
                      cases e111
                      have HR111_2 := Aside0.mk hi111_2
                      have HC111_2 := Aside0.mk hl111_2
                      clear hi111_2 hl111_2
                      replace p111 := eq_true p111
                      replace q111 := eq_true q111
                      have p112 : 0 ≤ (x5_1 : Int) := of_decide_eq_true (by first | (with_reducible assumption) | assumption)
                      have q112 : x5_1 < (l1.length : Int) := of_decide_eq_true (by first | (with_reducible assumption) | assumption)
                      obtain ⟨ad112, A112_2, c112_2, e112, hx112_0, hx112_1, hx112_2, hx112_3, hl112_2, hi112_2⟩ := at_T37 HR1.out x5_1 p112 q112
                      cases e112
                      have HR112_2 := Aside0.mk hi112_2
                      have HC112_2 := Aside0.mk hl112_2
                      clear hi112_2 hl112_2
                      replace p112 := eq_true p112
                      replace q112 := eq_true q112
                      go_wp2_with (first | (go_at_call 27; (with_reducible refine (malthouseref14_Ints.calls k1 _ _ ((rd_T37 l0 x5_1).f2) _ _ ((rd_T37 l1 x5_1).f2) true _ ?side1 ?side2 ?side3 ?side4 A7.out).mono ?_); (case side1 => repeat (first | exact HR111_2.out | (with_reducible refine Kd.C_alloc ?_ _) | (with_reducible refine Kd.C_drewN ?_ _) | (with_reducible refine Kd.C_drew ?_))); (case side2 => exact HC111_2.out); (case side3 => repeat (first | exact HR112_2.out | (with_reducible refine Kd.C_alloc ?_ _) | (with_reducible refine Kd.C_drewN ?_ _) | (with_reducible refine Kd.C_drew ?_))); (case side4 => exact HC112_2.out); rintro e w' ⟨rfl, ⟨nd, rfl⟩⟩; (try first | exact ⟨rfl, _, World.drewN_drewN _ _ _⟩ | exact ⟨rfl, _, Eq.trans (World.drewN_drewN _ _ _) (congrArg (World.drewN _) (Nat.add_assoc _ _ _))⟩); have p114 : 0 ≤ (x5_1 : Int) := of_decide_eq_true (by first | (with_reducible assumption) | assumption); have q114 : x5_1 < (l0.length : Int) := of_decide_eq_true (by first | (with_reducible assumption) | assumption); obtain ⟨ad114, A114_2, c114_2, e114, hx114_0, hx114_1, hx114_2, hx114_3, hl114_2, hi114_2⟩ := at_T37 HR0.out x5_1 p114 q114; obtain rfl : ad111 = ad114 := (by injection e114); have HR114_2 := Aside0.mk hi114_2; have HC114_2 := Aside0.mk hl114_2; clear hi114_2 hl114_2; replace p114 := eq_true p114; replace q114 := eq_true q114; have ea_ := Option.some.inj (hx111_2.symm.trans hx114_2); injection ea_ with ea_ en_ ec_; subst ea_; subst ec_; clear en_; have p115 : 0 ≤ (x5_1 : Int) := of_decide_eq_true (by first | (with_reducible assumption) | assumption); have q115 : x5_1 < (l1.length : Int) := of_decide_eq_true (by first | (with_reducible assumption) | assumption); obtain ⟨ad115, A115_2, c115_2, e115, hx115_0, hx115_1, hx115_2, hx115_3, hl115_2, hi115_2⟩ := at_T37 HR1.out x5_1 p115 q115; obtain rfl : ad112 = ad115 := (by injection e115); have HR115_2 := Aside0.mk hi115_2; have HC115_2 := Aside0.mk hl115_2; clear hi115_2 hl115_2; replace p115 := eq_true p115; replace q115 := eq_true q115; have ea_ := Option.some.inj (hx112_2.symm.trans hx115_2); injection ea_ with ea_ en_ ec_; subst ea_; subst ec_; clear en_; have p116 : 0 ≤ (x5_1 : Int) := of_decide_eq_true (by first | (with_reducible assumption) | assumption); have q116 : x5_1 < (l0.length : Int) := of_decide_eq_true (by first | (with_reducible assumption) | assumption); obtain ⟨ad116, A116_2, c116_2, e116, hx116_0, hx116_1, hx116_2, hx116_3, hl116_2, hi116_2⟩ := at_T37 HR0.out x5_1 p116 q116; obtain rfl : ad111 = ad116 := (by injection e116); have HR116_2 := Aside0.mk hi116_2; have HC116_2 := Aside0.mk hl116_2; clear hi116_2 hl116_2; replace p116 := eq_true p116; replace q116 := eq_true q116; have ea_ := Option.some.inj (hx111_2.symm.trans hx116_2); injection ea_ with ea_ en_ ec_; subst ea_; subst ec_; clear en_; have p117 : 0 ≤ (x5_1 : Int) := of_decide_eq_true (by first | (with_reducible assumption) | assumption); have q117 : x5_1 < (l1.length : Int) := of_decide_eq_true (by first | (with_reducible assumption) | assumption); obtain ⟨ad117, A117_2, c117_2, e117, hx117_0, hx117_1, hx117_2, hx117_3, hl117_2, hi117_2⟩ := at_T37 HR1.out x5_1 p117 q117; obtain rfl : ad112 = ad117 := (by injection e117); have HR117_2 := Aside0.mk hi117_2; have HC117_2 := Aside0.mk hl117_2; clear hi117_2 hl117_2; replace p117 := eq_true p117; replace q117 := eq_true q117; have ea_ := Option.some.inj (hx112_2.symm.trans hx117_2); injection ea_ with ea_ en_ ec_; subst ea_; subst ec_; clear en_; have p118 : 0 ≤ (x5_1 : Int) := of_decide_eq_true (by first | (with_reducible assumption) | assumption); have q118 : x5_1 < (l0.length : Int) := of_decide_eq_true (by first | (with_reducible assumption) | assumption); obtain ⟨ad118, A118_2, c118_2, e118, hx118_0, hx118_1, hx118_2, hx118_3, hl118_2, hi118_2⟩ := at_T37 HR0.out x5_1 p118 q118; obtain rfl : ad111 = ad118 := (by injection e118); have HR118_2 := Aside0.mk hi118_2; have HC118_2 := Aside0.mk hl118_2; clear hi118_2 hl118_2; replace p118 := eq_true p118; replace q118 := eq_true q118; have ea_ := Option.some.inj (hx111_2.symm.trans hx118_2); injection ea_ with ea_ en_ ec_; subst ea_; subst ec_; clear en_; have p119 : 0 ≤ (x5_1 : Int) := of_decide_eq_true (by first | (with_reducible assumption) | assumption); have q119 : x5_1 < (l1.length : Int) := of_decide_eq_true (by first | (with_reducible assumption) | assumption); obtain ⟨ad119, A119_2, c119_2, e119, hx119_0, hx119_1, hx119_2, hx119_3, hl119_2, hi119_2⟩ := at_T37 HR1.out x5_1 p119 q119; obtain rfl : ad112 = ad119 := (by injection e119); have HR119_2 := Aside0.mk hi119_2; have HC119_2 := Aside0.mk hl119_2; clear hi119_2 hl119_2; replace p119 := eq_true p119; replace q119 := eq_true q119; have ea_ := Option.some.inj (hx112_2.symm.trans hx119_2); injection ea_ with ea_ en_ ec_; subst ea_; subst ec_; clear en_))
                      repeat (go_quiet (first | (go_at_call 27; (with_reducible refine (malthouseref14_Ints.calls k1 _ _ ((rd_T37 l0 x5_1).f2) _ _ ((rd_T37 l1 x5_1).f2) true _ ?side1 ?side2 ?side3 ?side4 A7.out).mono ?_); (case side1 => repeat (first | exact HR111_2.out | (with_reducible refine Kd.C_alloc ?_ _) | (with_reducible refine Kd.C_drewN ?_ _) | (with_reducible refine Kd.C_drew ?_))); (case side2 => exact HC111_2.out); (case side3 => repeat (first | exact HR112_2.out | (with_reducible refine Kd.C_alloc ?_ _) | (with_reducible refine Kd.C_drewN ?_ _) | (with_reducible refine Kd.C_drew ?_))); (case side4 => exact HC112_2.out); rintro e w' ⟨rfl, ⟨nd, rfl⟩⟩; (try first | exact ⟨rfl, _, World.drewN_drewN _ _ _⟩ | exact ⟨rfl, _, Eq.trans (World.drewN_drewN _ _ _) (congrArg (World.drewN _) (Nat.add_assoc _ _ _))⟩); have p114 : 0 ≤ (x5_1 : Int) := of_decide_eq_true (by first | (with_reducible assumption) | assumption); have q114 : x5_1 < (l0.length : Int) := of_decide_eq_true (by first | (with_reducible assumption) | assumption); obtain ⟨ad114, A114_2, c114_2, e114, hx114_0, hx114_1, hx114_2, hx114_3, hl114_2, hi114_2⟩ := at_T37 HR0.out x5_1 p114 q114; obtain rfl : ad111 = ad114 := (by injection e114); have HR114_2 := Aside0.mk hi114_2; have HC114_2 := Aside0.mk hl114_2; clear hi114_2 hl114_2; replace p114 := eq_true p114; replace q114 := eq_true q114; have ea_ := Option.some.inj (hx111_2.symm.trans hx114_2); injection ea_ with ea_ en_ ec_; subst ea_; subst ec_; clear en_; have p115 : 0 ≤ (x5_1 : Int) := of_decide_eq_true (by first | (with_reducible assumption) | assumption); have q115 : x5_1 < (l1.length : Int) := of_decide_eq_true (by first | (with_reducible assumption) | assumption); obtain ⟨ad115, A115_2, c115_2, e115, hx115_0, hx115_1, hx115_2, hx115_3, hl115_2, hi115_2⟩ := at_T37 HR1.out x5_1 p115 q115; obtain rfl : ad112 = ad115 := (by injection e115); have HR115_2 := Aside0.mk hi115_2; have HC115_2 := Aside0.mk hl115_2; clear hi115_2 hl115_2; replace p115 := eq_true p115; replace q115 := eq_true q115; have ea_ := Option.some.inj (hx112_2.symm.trans hx115_2); injection ea_ with ea_ en_ ec_; subst ea_; subst ec_; clear en_; have p116 : 0 ≤ (x5_1 : Int) := of_decide_eq_true (by first | (with_reducible assumption) | assumption); have q116 : x5_1 < (l0.length : Int) := of_decide_eq_true (by first | (with_reducible assumption) | assumption); obtain ⟨ad116, A116_2, c116_2, e116, hx116_0, hx116_1, hx116_2, hx116_3, hl116_2, hi116_2⟩ := at_T37 HR0.out x5_1 p116 q116; obtain rfl : ad111 = ad116 := (by injection e116); have HR116_2 := Aside0.mk hi116_2; have HC116_2 := Aside0.mk hl116_2; clear hi116_2 hl116_2; replace p116 := eq_true p116; replace q116 := eq_true q116; have ea_ := Option.some.inj (hx111_2.symm.trans hx116_2); injection ea_ with ea_ en_ ec_; subst ea_; subst ec_; clear en_; have p117 : 0 ≤ (x5_1 : Int) := of_decide_eq_true (by first | (with_reducible assumption) | assumption); have q117 : x5_1 < (l1.length : Int) := of_decide_eq_true (by first | (with_reducible assumption) | assumption); obtain ⟨ad117, A117_2, c117_2, e117, hx117_0, hx117_1, hx117_2, hx117_3, hl117_2, hi117_2⟩ := at_T37 HR1.out x5_1 p117 q117; obtain rfl : ad112 = ad117 := (by injection e117); have HR117_2 := Aside0.mk hi117_2; have HC117_2 := Aside0.mk hl117_2; clear hi117_2 hl117_2; replace p117 := eq_true p117; replace q117 := eq_true q117; have ea_ := Option.some.inj (hx112_2.symm.trans hx117_2); injection ea_ with ea_ en_ ec_; subst ea_; subst ec_; clear en_; have p118 : 0 ≤ (x5_1 : Int) := of_decide_eq_true (by first | (with_reducible assumption) | assumption); have q118 : x5_1 < (l0.length : Int) := of_decide_eq_true (by first | (with_reducible assumption) | assumption); obtain ⟨ad118, A118_2, c118_2, e118, hx118_0, hx118_1, hx118_2, hx118_3, hl118_2, hi118_2⟩ := at_T37 HR0.out x5_1 p118 q118; obtain rfl : ad111 = ad118 := (by injection e118); have HR118_2 := Aside0.mk hi118_2; have HC118_2 := Aside0.mk hl118_2; clear hi118_2 hl118_2; replace p118 := eq_true p118; replace q118 := eq_true q118; have ea_ := Option.some.inj (hx111_2.symm.trans hx118_2); injection ea_ with ea_ en_ ec_; subst ea_; subst ec_; clear en_; have p119 : 0 ≤ (x5_1 : Int) := of_decide_eq_true (by first | (with_reducible assumption) | assumption); have q119 : x5_1 < (l1.length : Int) := of_decide_eq_true (by first | (with_reducible assumption) | assumption); obtain ⟨ad119, A119_2, c119_2, e119, hx119_0, hx119_1, hx119_2, hx119_3, hl119_2, hi119_2⟩ := at_T37 HR1.out x5_1 p119 q119; obtain rfl : ad112 = ad119 := (by injection e119); have HR119_2 := Aside0.mk hi119_2; have HC119_2 := Aside0.mk hl119_2; clear hi119_2 hl119_2; replace p119 := eq_true p119; replace q119 := eq_true q119; have ea_ := Option.some.inj (hx112_2.symm.trans hx119_2); injection ea_ with ea_ en_ ec_; subst ea_; subst ec_; clear en_)); try go_wp2_with (first | (go_at_call 27; (with_reducible refine (malthouseref14_Ints.calls k1 _ _ ((rd_T37 l0 x5_1).f2) _ _ ((rd_T37 l1 x5_1).f2) true _ ?side1 ?side2 ?side3 ?side4 A7.out).mono ?_); (case side1 => repeat (first | exact HR111_2.out | (with_reducible refine Kd.C_alloc ?_ _) | (with_reducible refine Kd.C_drewN ?_ _) | (with_reducible refine Kd.C_drew ?_))); (case side2 => exact HC111_2.out); (case side3 => repeat (first | exact HR112_2.out | (with_reducible refine Kd.C_alloc ?_ _) | (with_reducible refine Kd.C_drewN ?_ _) | (with_reducible refine Kd.C_drew ?_))); (case side4 => exact HC112_2.out); rintro e w' ⟨rfl, ⟨nd, rfl⟩⟩; (try first | exact ⟨rfl, _, World.drewN_drewN _ _ _⟩ | exact ⟨rfl, _, Eq.trans (World.drewN_drewN _ _ _) (congrArg (World.drewN _) (Nat.add_assoc _ _ _))⟩); have p114 : 0 ≤ (x5_1 : Int) := of_decide_eq_true (by first | (with_reducible assumption) | assumption); have q114 : x5_1 < (l0.length : Int) := of_decide_eq_true (by first | (with_reducible assumption) | assumption); obtain ⟨ad114, A114_2, c114_2, e114, hx114_0, hx114_1, hx114_2, hx114_3, hl114_2, hi114_2⟩ := at_T37 HR0.out x5_1 p114 q114; obtain rfl : ad111 = ad114 := (by injection e114); have HR114_2 := Aside0.mk hi114_2; have HC114_2 := Aside0.mk hl114_2; clear hi114_2 hl114_2; replace p114 := eq_true p114; replace q114 := eq_true q114; have ea_ := Option.some.inj (hx111_2.symm.trans hx114_2); injection ea_ with ea_ en_ ec_; subst ea_; subst ec_; clear en_; have p115 : 0 ≤ (x5_1 : Int) := of_decide_eq_true (by first | (with_reducible assumption) | assumption); have q115 : x5_1 < (l1.length : Int) := of_decide_eq_true (by first | (with_reducible assumption) | assumption); obtain ⟨ad115, A115_2, c115_2, e115, hx115_0, hx115_1, hx115_2, hx115_3, hl115_2, hi115_2⟩ := at_T37 HR1.out x5_1 p115 q115; obtain rfl : ad112 = ad115 := (by injection e115); have HR115_2 := Aside0.mk hi115_2; have HC115_2 := Aside0.mk hl115_2; clear hi115_2 hl115_2; replace p115 := eq_true p115; replace q115 := eq_true q115; have ea_ := Option.some.inj (hx112_2.symm.trans hx115_2); injection ea_ with ea_ en_ ec_; subst ea_; subst ec_; clear en_; have p116 : 0 ≤ (x5_1 : Int) := of_decide_eq_true (by first | (with_reducible assumption) | assumption); have q116 : x5_1 < (l0.length : Int) := of_decide_eq_true (by first | (with_reducible assumption) | assumption); obtain ⟨ad116, A116_2, c116_2, e116, hx116_0, hx116_1, hx116_2, hx116_3, hl116_2, hi116_2⟩ := at_T37 HR0.out x5_1 p116 q116; obtain rfl : ad111 = ad116 := (by injection e116); have HR116_2 := Aside0.mk hi116_2; have HC116_2 := Aside0.mk hl116_2; clear hi116_2 hl116_2; replace p116 := eq_true p116; replace q116 := eq_true q116; have ea_ := Option.some.inj (hx111_2.symm.trans hx116_2); injection ea_ with ea_ en_ ec_; subst ea_; subst ec_; clear en_; have p117 : 0 ≤ (x5_1 : Int) := of_decide_eq_true (by first | (with_reducible assumption) | assumption); have q117 : x5_1 < (l1.length : Int) := of_decide_eq_true (by first | (with_reducible assumption) | assumption); obtain ⟨ad117, A117_2, c117_2, e117, hx117_0, hx117_1, hx117_2, hx117_3, hl117_2, hi117_2⟩ := at_T37 HR1.out x5_1 p117 q117; obtain rfl : ad112 = ad117 := (by injection e117); have HR117_2 := Aside0.mk hi117_2; have HC117_2 := Aside0.mk hl117_2; clear hi117_2 hl117_2; replace p117 := eq_true p117; replace q117 := eq_true q117; have ea_ := Option.some.inj (hx112_2.symm.trans hx117_2); injection ea_ with ea_ en_ ec_; subst ea_; subst ec_; clear en_; have p118 : 0 ≤ (x5_1 : Int) := of_decide_eq_true (by first | (with_reducible assumption) | assumption); have q118 : x5_1 < (l0.length : Int) := of_decide_eq_true (by first | (with_reducible assumption) | assumption); obtain ⟨ad118, A118_2, c118_2, e118, hx118_0, hx118_1, hx118_2, hx118_3, hl118_2, hi118_2⟩ := at_T37 HR0.out x5_1 p118 q118; obtain rfl : ad111 = ad118 := (by injection e118); have HR118_2 := Aside0.mk hi118_2; have HC118_2 := Aside0.mk hl118_2; clear hi118_2 hl118_2; replace p118 := eq_true p118; replace q118 := eq_true q118; have ea_ := Option.some.inj (hx111_2.symm.trans hx118_2); injection ea_ with ea_ en_ ec_; subst ea_; subst ec_; clear en_; have p119 : 0 ≤ (x5_1 : Int) := of_decide_eq_true (by first | (with_reducible assumption) | assumption); have q119 : x5_1 < (l1.length : Int) := of_decide_eq_true (by first | (with_reducible assumption) | assumption); obtain ⟨ad119, A119_2, c119_2, e119, hx119_0, hx119_1, hx119_2, hx119_3, hl119_2, hi119_2⟩ := at_T37 HR1.out x5_1 p119 q119; obtain rfl : ad112 = ad119 := (by injection e119); have HR119_2 := Aside0.mk hi119_2; have HC119_2 := Aside0.mk hl119_2; clear hi119_2 hl119_2; replace p119 := eq_true p119; replace q119 := eq_true q119; have ea_ := Option.some.inj (hx112_2.symm.trans hx119_2); injection ea_ with ea_ en_ ec_; subst ea_; subst ec_; clear en_)))
                      go_roundg k1
                      case measure => have := HK1.out; omega
                      case rel => exact ⟨(wrap64 (x5_1 + 1)), (by first | rfl | (simp; done) | (simp [*]; done)), H', ⟨by have := HK1.out; omega⟩, by repeat (first | exact Drawn0.refl _ | apply Drawn0.step)⟩
                    · rw [if_neg c11] at H
                      have c11b0 : (((rd_T37 l0 x5_1).f3) == ((rd_T37 l1 x5_1).f3)) = false := beq_eq_false_iff_ne.mpr c11
                      have c11b1 : (((rd_T37 l0 x5_1).f3) != ((rd_T37 l1 x5_1).f3)) = true := bne_iff_ne.mpr c11
                      obtain rfl := Option.some.inj H
                      have p111 : 0 ≤ (x5_1 : Int) := of_decide_eq_true (by first | (with_reducible assumption) | assumption)
                      have q111 : x5_1 < (l0.length : Int) := of_decide_eq_true (by first | (with_reducible assumption) | assumption)
                      obtain ⟨ad111, A111_2, c111_2, e111, hx111_0, hx111_1, hx111_2, hx111_3, hl111_2, hi111_2⟩ := at_T37 HR0.out x5_1 p111 q111
                      cases e111
                      have HR111_2 := Aside0.mk hi111_2
                      have HC111_2 := Aside0.mk hl111_2
                      clear hi111_2 hl111_2
                      replace p111 := eq_true p111
                      replace q111 := eq_true q111
                      have p112 : 0 ≤ (x5_1 : Int) := of_decide_eq_true (by first | (with_reducible assumption) | assumption)
                      have q112 : x5_1 < (l1.length : Int) := of_decide_eq_true (by first | (with_reducible assumption) | assumption)
                      obtain ⟨ad112, A112_2, c112_2, e112, hx112_0, hx112_1, hx112_2, hx112_3, hl112_2, hi112_2⟩ := at_T37 HR1.out x5_1 p112 q112
                      cases e112
                      have HR112_2 := Aside0.mk hi112_2
                      have HC112_2 := Aside0.mk hl112_2
                      clear hi112_2 hl112_2
                      replace p112 := eq_true p112
                      replace q112 := eq_true q112
                      go_wp2_with (first | (go_at_call 27; (with_reducible refine (malthouseref14_Ints.calls k1 _ _ ((rd_T37 l0 x5_1).f2) _ _ ((rd_T37 l1 x5_1).f2) true _ ?side1 ?side2 ?side3 ?side4 A7.out).mono ?_); (case side1 => repeat (first | exact HR111_2.out | (with_reducible refine Kd.C_alloc ?_ _) | (with_reducible refine Kd.C_drewN ?_ _) | (with_reducible refine Kd.C_drew ?_))); (case side2 => exact HC111_2.out); (case side3 => repeat (first | exact HR112_2.out | (with_reducible refine Kd.C_alloc ?_ _) | (with_reducible refine Kd.C_drewN ?_ _) | (with_reducible refine Kd.C_drew ?_))); (case side4 => exact HC112_2.out); rintro e w' ⟨rfl, ⟨nd, rfl⟩⟩; (try first | exact ⟨rfl, _, World.drewN_drewN _ _ _⟩ | exact ⟨rfl, _, Eq.trans (World.drewN_drewN _ _ _) (congrArg (World.drewN _) (Nat.add_assoc _ _ _))⟩); have p114 : 0 ≤ (x5_1 : Int) := of_decide_eq_true (by first | (with_reducible assumption) | assumption); have q114 : x5_1 < (l0.length : Int) := of_decide_eq_true (by first | (with_reducible assumption) | assumption); obtain ⟨ad114, A114_2, c114_2, e114, hx114_0, hx114_1, hx114_2, hx114_3, hl114_2, hi114_2⟩ := at_T37 HR0.out x5_1 p114 q114; obtain rfl : ad111 = ad114 := (by injection e114); have HR114_2 := Aside0.mk hi114_2; have HC114_2 := Aside0.mk hl114_2; clear hi114_2 hl114_2; replace p114 := eq_true p114; replace q114 := eq_true q114; have ea_ := Option.some.inj (hx111_2.symm.trans hx114_2); injection ea_ with ea_ en_ ec_; subst ea_; subst ec_; clear en_; have p115 : 0 ≤ (x5_1 : Int) := of_decide_eq_true (by first | (with_reducible assumption) | assumption); have q115 : x5_1 < (l1.length : Int) := of_decide_eq_true (by first | (with_reducible assumption) | assumption); obtain ⟨ad115, A115_2, c115_2, e115, hx115_0, hx115_1, hx115_2, hx115_3, hl115_2, hi115_2⟩ := at_T37 HR1.out x5_1 p115 q115; obtain rfl : ad112 = ad115 := (by injection e115); have HR115_2 := Aside0.mk hi115_2; have HC115_2 := Aside0.mk hl115_2; clear hi115_2 hl115_2; replace p115 := eq_true p115; replace q115 := eq_true q115; have ea_ := Option.some.inj (hx112_2.symm.trans hx115_2); injection ea_ with ea_ en_ ec_; subst ea_; subst ec_; clear en_; have p116 : 0 ≤ (x5_1 : Int) := of_decide_eq_true (by first | (with_reducible assumption) | assumption); have q116 : x5_1 < (l0.length : Int) := of_decide_eq_true (by first | (with_reducible assumption) | assumption); obtain ⟨ad116, A116_2, c116_2, e116, hx116_0, hx116_1, hx116_2, hx116_3, hl116_2, hi116_2⟩ := at_T37 HR0.out x5_1 p116 q116; obtain rfl : ad111 = ad116 := (by injection e116); have HR116_2 := Aside0.mk hi116_2; have HC116_2 := Aside0.mk hl116_2; clear hi116_2 hl116_2; replace p116 := eq_true p116; replace q116 := eq_true q116; have ea_ := Option.some.inj (hx111_2.symm.trans hx116_2); injection ea_ with ea_ en_ ec_; subst ea_; subst ec_; clear en_; have p117 : 0 ≤ (x5_1 : Int) := of_decide_eq_true (by first | (with_reducible assumption) | assumption); have q117 : x5_1 < (l1.length : Int) := of_decide_eq_true (by first | (with_reducible assumption) | assumption); obtain ⟨ad117, A117_2, c117_2, e117, hx117_0, hx117_1, hx117_2, hx117_3, hl117_2, hi117_2⟩ := at_T37 HR1.out x5_1 p117 q117; obtain rfl : ad112 = ad117 := (by injection e117); have HR117_2 := Aside0.mk hi117_2; have HC117_2 := Aside0.mk hl117_2; clear hi117_2 hl117_2; replace p117 := eq_true p117; replace q117 := eq_true q117; have ea_ := Option.some.inj (hx112_2.symm.trans hx117_2); injection ea_ with ea_ en_ ec_; subst ea_; subst ec_; clear en_; have p118 : 0 ≤ (x5_1 : Int) := of_decide_eq_true (by first | (with_reducible assumption) | assumption); have q118 : x5_1 < (l0.length : Int) := of_decide_eq_true (by first | (with_reducible assumption) | assumption); obtain ⟨ad118, A118_2, c118_2, e118, hx118_0, hx118_1, hx118_2, hx118_3, hl118_2, hi118_2⟩ := at_T37 HR0.out x5_1 p118 q118; obtain rfl : ad111 = ad118 := (by injection e118); have HR118_2 := Aside0.mk hi118_2; have HC118_2 := Aside0.mk hl118_2; clear hi118_2 hl118_2; replace p118 := eq_true p118; replace q118 := eq_true q118; have ea_ := Option.some.inj (hx111_2.symm.trans hx118_2); injection ea_ with ea_ en_ ec_; subst ea_; subst ec_; clear en_; have p119 : 0 ≤ (x5_1 : Int) := of_decide_eq_true (by first | (with_reducible assumption) | assumption); have q119 : x5_1 < (l1.length : Int) := of_decide_eq_true (by first | (with_reducible assumption) | assumption); obtain ⟨ad119, A119_2, c119_2, e119, hx119_0, hx119_1, hx119_2, hx119_3, hl119_2, hi119_2⟩ := at_T37 HR1.out x5_1 p119 q119; obtain rfl : ad112 = ad119 := (by injection e119); have HR119_2 := Aside0.mk hi119_2; have HC119_2 := Aside0.mk hl119_2; clear hi119_2 hl119_2; replace p119 := eq_true p119; replace q119 := eq_true q119; have ea_ := Option.some.inj (hx112_2.symm.trans hx119_2); injection ea_ with ea_ en_ ec_; subst ea_; subst ec_; clear en_))
                      repeat (go_quiet (first | (go_at_call 27; (with_reducible refine (malthouseref14_Ints.calls k1 _ _ ((rd_T37 l0 x5_1).f2) _ _ ((rd_T37 l1 x5_1).f2) true _ ?side1 ?side2 ?side3 ?side4 A7.out).mono ?_); (case side1 => repeat (first | exact HR111_2.out | (with_reducible refine Kd.C_alloc ?_ _) | (with_reducible refine Kd.C_drewN ?_ _) | (with_reducible refine Kd.C_drew ?_))); (case side2 => exact HC111_2.out); (case side3 => repeat (first | exact HR112_2.out | (with_reducible refine Kd.C_alloc ?_ _) | (with_reducible refine Kd.C_drewN ?_ _) | (with_reducible refine Kd.C_drew ?_))); (case side4 => exact HC112_2.out); rintro e w' ⟨rfl, ⟨nd, rfl⟩⟩; (try first | exact ⟨rfl, _, World.drewN_drewN _ _ _⟩ | exact ⟨rfl, _, Eq.trans (World.drewN_drewN _ _ _) (congrArg (World.drewN _) (Nat.add_assoc _ _ _))⟩); have p114 : 0 ≤ (x5_1 : Int) := of_decide_eq_true (by first | (with_reducible assumption) | assumption); have q114 : x5_1 < (l0.length : Int) := of_decide_eq_true (by first | (with_reducible assumption) | assumption); obtain ⟨ad114, A114_2, c114_2, e114, hx114_0, hx114_1, hx114_2, hx114_3, hl114_2, hi114_2⟩ := at_T37 HR0.out x5_1 p114 q114; obtain rfl : ad111 = ad114 := (by injection e114); have HR114_2 := Aside0.mk hi114_2; have HC114_2 := Aside0.mk hl114_2; clear hi114_2 hl114_2; replace p114 := eq_true p114; replace q114 := eq_true q114; have ea_ := Option.some.inj (hx111_2.symm.trans hx114_2); injection ea_ with ea_ en_ ec_; subst ea_; subst ec_; clear en_; have p115 : 0 ≤ (x5_1 : Int) := of_decide_eq_true (by first | (with_reducible assumption) | assumption); have q115 : x5_1 < (l1.length : Int) := of_decide_eq_true (by first | (with_reducible assumption) | assumption); obtain ⟨ad115, A115_2, c115_2, e115, hx115_0, hx115_1, hx115_2, hx115_3, hl115_2, hi115_2⟩ := at_T37 HR1.out x5_1 p115 q115; obtain rfl : ad112 = ad115 := (by injection e115); have HR115_2 := Aside0.mk hi115_2; have HC115_2 := Aside0.mk hl115_2; clear hi115_2 hl115_2; replace p115 := eq_true p115; replace q115 := eq_true q115; have ea_ := Option.some.inj (hx112_2.symm.trans hx115_2); injection ea_ with ea_ en_ ec_; subst ea_; subst ec_; clear en_; have p116 : 0 ≤ (x5_1 : Int) := of_decide_eq_true (by first | (with_reducible assumption) | assumption); have q116 : x5_1 < (l0.length : Int) := of_decide_eq_true (by first | (with_reducible assumption) | assumption); obtain ⟨ad116, A116_2, c116_2, e116, hx116_0, hx116_1, hx116_2, hx116_3, hl116_2, hi116_2⟩ := at_T37 HR0.out x5_1 p116 q116; obtain rfl : ad111 = ad116 := (by injection e116); have HR116_2 := Aside0.mk hi116_2; have HC116_2 := Aside0.mk hl116_2; clear hi116_2 hl116_2; replace p116 := eq_true p116; replace q116 := eq_true q116; have ea_ := Option.some.inj (hx111_2.symm.trans hx116_2); injection ea_ with ea_ en_ ec_; subst ea_; subst ec_; clear en_; have p117 : 0 ≤ (x5_1 : Int) := of_decide_eq_true (by first | (with_reducible assumption) | assumption); have q117 : x5_1 < (l1.length : Int) := of_decide_eq_true (by first | (with_reducible assumption) | assumption); obtain ⟨ad117, A117_2, c117_2, e117, hx117_0, hx117_1, hx117_2, hx117_3, hl117_2, hi117_2⟩ := at_T37 HR1.out x5_1 p117 q117; obtain rfl : ad112 = ad117 := (by injection e117); have HR117_2 := Aside0.mk hi117_2; have HC117_2 := Aside0.mk hl117_2; clear hi117_2 hl117_2; replace p117 := eq_true p117; replace q117 := eq_true q117; have ea_ := Option.some.inj (hx112_2.symm.trans hx117_2); injection ea_ with ea_ en_ ec_; subst ea_; subst ec_; clear en_; have p118 : 0 ≤ (x5_1 : Int) := of_decide_eq_true (by first | (with_reducible assumption) | assumption); have q118 : x5_1 < (l0.length : Int) := of_decide_eq_true (by first | (with_reducible assumption) | assumption); obtain ⟨ad118, A118_2, c118_2, e118, hx118_0, hx118_1, hx118_2, hx118_3, hl118_2, hi118_2⟩ := at_T37 HR0.out x5_1 p118 q118; obtain rfl : ad111 = ad118 := (by injection e118); have HR118_2 := Aside0.mk hi118_2; have HC118_2 := Aside0.mk hl118_2; clear hi118_2 hl118_2; replace p118 := eq_true p118; replace q118 := eq_true q118; have ea_ := Option.some.inj (hx111_2.symm.trans hx118_2); injection ea_ with ea_ en_ ec_; subst ea_; subst ec_; clear en_; have p119 : 0 ≤ (x5_1 : Int) := of_decide_eq_true (by first | (with_reducible assumption) | assumption); have q119 : x5_1 < (l1.length : Int) := of_decide_eq_true (by first | (with_reducible assumption) | assumption); obtain ⟨ad119, A119_2, c119_2, e119, hx119_0, hx119_1, hx119_2, hx119_3, hl119_2, hi119_2⟩ := at_T37 HR1.out x5_1 p119 q119; obtain rfl : ad112 = ad119 := (by injection e119); have HR119_2 := Aside0.mk hi119_2; have HC119_2 := Aside0.mk hl119_2; clear hi119_2 hl119_2; replace p119 := eq_true p119; replace q119 := eq_true q119; have ea_ := Option.some.inj (hx112_2.symm.trans hx119_2); injection ea_ with ea_ en_ ec_; subst ea_; subst ec_; clear en_)); try go_wp2_with (first | (go_at_call 27; (with_reducible refine (malthouseref14_Ints.calls k1 _ _ ((rd_T37 l0 x5_1).f2) _ _ ((rd_T37 l1 x5_1).f2) true _ ?side1 ?side2 ?side3 ?side4 A7.out).mono ?_); (case side1 => repeat (first | exact HR111_2.out | (with_reducible refine Kd.C_alloc ?_ _) | (with_reducible refine Kd.C_drewN ?_ _) | (with_reducible refine Kd.C_drew ?_))); (case side2 => exact HC111_2.out); (case side3 => repeat (first | exact HR112_2.out | (with_reducible refine Kd.C_alloc ?_ _) | (with_reducible refine Kd.C_drewN ?_ _) | (with_reducible refine Kd.C_drew ?_))); (case side4 => exact HC112_2.out); rintro e w' ⟨rfl, ⟨nd, rfl⟩⟩; (try first | exact ⟨rfl, _, World.drewN_drewN _ _ _⟩ | exact ⟨rfl, _, Eq.trans (World.drewN_drewN _ _ _) (congrArg (World.drewN _) (Nat.add_assoc _ _ _))⟩); have p114 : 0 ≤ (x5_1 : Int) := of_decide_eq_true (by first | (with_reducible assumption) | assumption); have q114 : x5_1 < (l0.length : Int) := of_decide_eq_true (by first | (with_reducible assumption) | assumption); obtain ⟨ad114, A114_2, c114_2, e114, hx114_0, hx114_1, hx114_2, hx114_3, hl114_2, hi114_2⟩ := at_T37 HR0.out x5_1 p114 q114; obtain rfl : ad111 = ad114 := (by injection e114); have HR114_2 := Aside0.mk hi114_2; have HC114_2 := Aside0.mk hl114_2; clear hi114_2 hl114_2; replace p114 := eq_true p114; replace q114 := eq_true q114; have ea_ := Option.some.inj (hx111_2.symm.trans hx114_2); injection ea_ with ea_ en_ ec_; subst ea_; subst ec_; clear en_; have p115 : 0 ≤ (x5_1 : Int) := of_decide_eq_true (by first | (with_reducible assumption) | assumption); have q115 : x5_1 < (l1.length : Int) := of_decide_eq_true (by first | (with_reducible assumption) | assumption); obtain ⟨ad115, A115_2, c115_2, e115, hx115_0, hx115_1, hx115_2, hx115_3, hl115_2, hi115_2⟩ := at_T37 HR1.out x5_1 p115 q115; obtain rfl : ad112 = ad115 := (by injection e115); have HR115_2 := Aside0.mk hi115_2; have HC115_2 := Aside0.mk hl115_2; clear hi115_2 hl115_2; replace p115 := eq_true p115; replace q115 := eq_true q115; have ea_ := Option.some.inj (hx112_2.symm.trans hx115_2); injection ea_ with ea_ en_ ec_; subst ea_; subst ec_; clear en_; have p116 : 0 ≤ (x5_1 : Int) := of_decide_eq_true (by first | (with_reducible assumption) | assumption); have q116 : x5_1 < (l0.length : Int) := of_decide_eq_true (by first | (with_reducible assumption) | assumption); obtain ⟨ad116, A116_2, c116_2, e116, hx116_0, hx116_1, hx116_2, hx116_3, hl116_2, hi116_2⟩ := at_T37 HR0.out x5_1 p116 q116; obtain rfl : ad111 = ad116 := (by injection e116); have HR116_2 := Aside0.mk hi116_2; have HC116_2 := Aside0.mk hl116_2; clear hi116_2 hl116_2; replace p116 := eq_true p116; replace q116 := eq_true q116; have ea_ := Option.some.inj (hx111_2.symm.trans hx116_2); injection ea_ with ea_ en_ ec_; subst ea_; subst ec_; clear en_; have p117 : 0 ≤ (x5_1 : Int) := of_decide_eq_true (by first | (with_reducible assumption) | assumption); have q117 : x5_1 < (l1.length : Int) := of_decide_eq_true (by first | (with_reducible assumption) | assumption); obtain ⟨ad117, A117_2, c117_2, e117, hx117_0, hx117_1, hx117_2, hx117_3, hl117_2, hi117_2⟩ := at_T37 HR1.out x5_1 p117 q117; obtain rfl : ad112 = ad117 := (by injection e117); have HR117_2 := Aside0.mk hi117_2; have HC117_2 := Aside0.mk hl117_2; clear hi117_2 hl117_2; replace p117 := eq_true p117; replace q117 := eq_true q117; have ea_ := Option.some.inj (hx112_2.symm.trans hx117_2); injection ea_ with ea_ en_ ec_; subst ea_; subst ec_; clear en_; have p118 : 0 ≤ (x5_1 : Int) := of_decide_eq_true (by first | (with_reducible assumption) | assumption); have q118 : x5_1 < (l0.length : Int) := of_decide_eq_true (by first | (with_reducible assumption) | assumption); obtain ⟨ad118, A118_2, c118_2, e118, hx118_0, hx118_1, hx118_2, hx118_3, hl118_2, hi118_2⟩ := at_T37 HR0.out x5_1 p118 q118; obtain rfl : ad111 = ad118 := (by injection e118); have HR118_2 := Aside0.mk hi118_2; have HC118_2 := Aside0.mk hl118_2; clear hi118_2 hl118_2; replace p118 := eq_true p118; replace q118 := eq_true q118; have ea_ := Option.some.inj (hx111_2.symm.trans hx118_2); injection ea_ with ea_ en_ ec_; subst ea_; subst ec_; clear en_; have p119 : 0 ≤ (x5_1 : Int) := of_decide_eq_true (by first | (with_reducible assumption) | assumption); have q119 : x5_1 < (l1.length : Int) := of_decide_eq_true (by first | (with_reducible assumption) | assumption); obtain ⟨ad119, A119_2, c119_2, e119, hx119_0, hx119_1, hx119_2, hx119_3, hl119_2, hi119_2⟩ := at_T37 HR1.out x5_1 p119 q119; obtain rfl : ad112 = ad119 := (by injection e119); have HR119_2 := Aside0.mk hi119_2; have HC119_2 := Aside0.mk hl119_2; clear hi119_2 hl119_2; replace p119 := eq_true p119; replace q119 := eq_true q119; have ea_ := Option.some.inj (hx112_2.symm.trans hx119_2); injection ea_ with ea_ en_ ec_; subst ea_; subst ec_; clear en_)))
                      go_ret
                      exact ⟨by first | rfl | (simp; done) | (simp [*]; done), by repeat (first | exact Drawn0.refl _ | apply Drawn0.step)⟩
                  · rw [if_neg c10] at H
                    have c10b0 : (((rd_T37 l0 x5_1).f1) == ((rd_T37 l1 x5_1).f1)) = false := beq_eq_false_iff_ne.mpr c10
                    have c10b1 : (((rd_T37 l0 x5_1).f1) != ((rd_T37 l1 x5_1).f1)) = true := bne_iff_ne.mpr c10
                    obtain rfl := Option.some.inj H
                    have p111 : 0 ≤ (x5_1 : Int) := of_decide_eq_true (by first | (with_reducible assumption) | assumption)
                    have q111 : x5_1 < (l0.length : Int) := of_decide_eq_true (by first | (with_reducible assumption) | assumption)
                    obtain ⟨ad111, A111_2, c111_2, e111, hx111_0, hx111_1, hx111_2, hx111_3, hl111_2, hi111_2⟩ := at_T37 HR0.out x5_1 p111 q111
                    cases e111
                    have HR111_2 := Aside0.mk hi111_2
                    have HC111_2 := Aside0.mk hl111_2
                    clear hi111_2 hl111_2
                    replace p111 := eq_true p111
                    replace q111 := eq_true q111
                    have p112 : 0 ≤ (x5_1 : Int) := of_decide_eq_true (by first | (with_reducible assumption) | assumption)
                    have q112 : x5_1 < (l1.length : Int) := of_decide_eq_true (by first | (with_reducible assumption) | assumption)
                    obtain ⟨ad112, A112_2, c112_2, e112, hx112_0, hx112_1, hx112_2, hx112_3, hl112_2, hi112_2⟩ := at_T37 HR1.out x5_1 p112 q112
                    cases e112
                    have HR112_2 := Aside0.mk hi112_2
                    have HC112_2 := Aside0.mk hl112_2
                    clear hi112_2 hl112_2
                    replace p112 := eq_true p112
                    replace q112 := eq_true q112
                    go_wp2_with (first | (go_at_call 27; (with_reducible refine (malthouseref14_Ints.calls k1 _ _ ((rd_T37 l0 x5_1).f2) _ _ ((rd_T37 l1 x5_1).f2) true _ ?side1 ?side2 ?side3 ?side4 A7.out).mono ?_); (case side1 => repeat (first | exact HR111_2.out | (with_reducible refine Kd.C_alloc ?_ _) | (with_reducible refine Kd.C_drewN ?_ _) | (with_reducible refine Kd.C_drew ?_))); (case side2 => exact HC111_2.out); (case side3 => repeat (first | exact HR112_2.out | (with_reducible refine Kd.C_alloc ?_ _) | (with_reducible refine Kd.C_drewN ?_ _) | (with_reducible refine Kd.C_drew ?_))); (case side4 => exact HC112_2.out); rintro e w' ⟨rfl, ⟨nd, rfl⟩⟩; (try first | exact ⟨rfl, _, World.drewN_drewN _ _ _⟩ | exact ⟨rfl, _, Eq.trans (World.drewN_drewN _ _ _) (congrArg (World.drewN _) (Nat.add_assoc _ _ _))⟩); have p114 : 0 ≤ (x5_1 : Int) := of_decide_eq_true (by first | (with_reducible assumption) | assumption); have q114 : x5_1 < (l0.length : Int) := of_decide_eq_true (by first | (with_reducible assumption) | assumption); obtain ⟨ad114, A114_2, c114_2, e114, hx114_0, hx114_1, hx114_2, hx114_3, hl114_2, hi114_2⟩ := at_T37 HR0.out x5_1 p114 q114; obtain rfl : ad111 = ad114 := (by injection e114); have HR114_2 := Aside0.mk hi114_2; have HC114_2 := Aside0.mk hl114_2; clear hi114_2 hl114_2; replace p114 := eq_true p114; replace q114 := eq_true q114; have ea_ := Option.some.inj (hx111_2.symm.trans hx114_2); injection ea_ with ea_ en_ ec_; subst ea_; subst ec_; clear en_; have p115 : 0 ≤ (x5_1 : Int) := of_decide_eq_true (by first | (with_reducible assumption) | assumption); have q115 : x5_1 < (l1.length : Int) := of_decide_eq_true (by first | (with_reducible assumption) | assumption); obtain ⟨ad115, A115_2, c115_2, e115, hx115_0, hx115_1, hx115_2, hx115_3, hl115_2, hi115_2⟩ := at_T37 HR1.out x5_1 p115 q115; obtain rfl : ad112 = ad115 := (by injection e115); have HR115_2 := Aside0.mk hi115_2; have HC115_2 := Aside0.mk hl115_2; clear hi115_2 hl115_2; replace p115 := eq_true p115; replace q115 := eq_true q115; have ea_ := Option.some.inj (hx112_2.symm.trans hx115_2); injection ea_ with ea_ en_ ec_; subst ea_; subst ec_; clear en_; have p116 : 0 ≤ (x5_1 : Int) := of_decide_eq_true (by first | (with_reducible assumption) | assumption); have q116 : x5_1 < (l0.length : Int) := of_decide_eq_true (by first | (with_reducible assumption) | assumption); obtain ⟨ad116, A116_2, c116_2, e116, hx116_0, hx116_1, hx116_2, hx116_3, hl116_2, hi116_2⟩ := at_T37 HR0.out x5_1 p116 q116; obtain rfl : ad111 = ad116 := (by injection e116); have HR116_2 := Aside0.mk hi116_2; have HC116_2 := Aside0.mk hl116_2; clear hi116_2 hl116_2; replace p116 := eq_true p116; replace q116 := eq_true q116; have ea_ := Option.some.inj (hx111_2.symm.trans hx116_2); injection ea_ with ea_ en_ ec_; subst ea_; subst ec_; clear en_; have p117 : 0 ≤ (x5_1 : Int) := of_decide_eq_true (by first | (with_reducible assumption) | assumption); have q117 : x5_1 < (l1.length : Int) := of_decide_eq_true (by first | (with_reducible assumption) | assumption); obtain ⟨ad117, A117_2, c117_2, e117, hx117_0, hx117_1, hx117_2, hx117_3, hl117_2, hi117_2⟩ := at_T37 HR1.out x5_1 p117 q117; obtain rfl : ad112 = ad117 := (by injection e117); have HR117_2 := Aside0.mk hi117_2; have HC117_2 := Aside0.mk hl117_2; clear hi117_2 hl117_2; replace p117 := eq_true p117; replace q117 := eq_true q117; have ea_ := Option.some.inj (hx112_2.symm.trans hx117_2); injection ea_ with ea_ en_ ec_; subst ea_; subst ec_; clear en_))
                    repeat (go_quiet (first | (go_at_call 27; (with_reducible refine (malthouseref14_Ints.calls k1 _ _ ((rd_T37 l0 x5_1).f2) _ _ ((rd_T37 l1 x5_1).f2) true _ ?side1 ?side2 ?side3 ?side4 A7.out).mono ?_); (case side1 => repeat (first | exact HR111_2.out | (with_reducible refine Kd.C_alloc ?_ _) | (with_reducible refine Kd.C_drewN ?_ _) | (with_reducible refine Kd.C_drew ?_))); (case side2 => exact HC111_2.out); (case side3 => repeat (first | exact HR112_2.out | (with_reducible refine Kd.C_alloc ?_ _) | (with_reducible refine Kd.C_drewN ?_ _) | (with_reducible refine Kd.C_drew ?_))); (case side4 => exact HC112_2.out); rintro e w' ⟨rfl, ⟨nd, rfl⟩⟩; (try first | exact ⟨rfl, _, World.drewN_drewN _ _ _⟩ | exact ⟨rfl, _, Eq.trans (World.drewN_drewN _ _ _) (congrArg (World.drewN _) (Nat.add_assoc _ _ _))⟩); have p114 : 0 ≤ (x5_1 : Int) := of_decide_eq_true (by first | (with_reducible assumption) | assumption); have q114 : x5_1 < (l0.length : Int) := of_decide_eq_true (by first | (with_reducible assumption) | assumption); obtain ⟨ad114, A114_2, c114_2, e114, hx114_0, hx114_1, hx114_2, hx114_3, hl114_2, hi114_2⟩ := at_T37 HR0.out x5_1 p114 q114; obtain rfl : ad111 = ad114 := (by injection e114); have HR114_2 := Aside0.mk hi114_2; have HC114_2 := Aside0.mk hl114_2; clear hi114_2 hl114_2; replace p114 := eq_true p114; replace q114 := eq_true q114; have ea_ := Option.some.inj (hx111_2.symm.trans hx114_2); injection ea_ with ea_ en_ ec_; subst ea_; subst ec_; clear en_; have p115 : 0 ≤ (x5_1 : Int) := of_decide_eq_true (by first | (with_reducible assumption) | assumption); have q115 : x5_1 < (l1.length : Int) := of_decide_eq_true (by first | (with_reducible assumption) | assumption); obtain ⟨ad115, A115_2, c115_2, e115, hx115_0, hx115_1, hx115_2, hx115_3, hl115_2, hi115_2⟩ := at_T37 HR1.out x5_1 p115 q115; obtain rfl : ad112 = ad115 := (by injection e115); have HR115_2 := Aside0.mk hi115_2; have HC115_2 := Aside0.mk hl115_2; clear hi115_2 hl115_2; replace p115 := eq_true p115; replace q115 := eq_true q115; have ea_ := Option.some.inj (hx112_2.symm.trans hx115_2); injection ea_ with ea_ en_ ec_; subst ea_; subst ec_; clear en_; have p116 : 0 ≤ (x5_1 : Int) := of_decide_eq_true (by first | (with_reducible assumption) | assumption); have q116 : x5_1 < (l0.length : Int) := of_decide_eq_true (by first | (with_reducible assumption) | assumption); obtain ⟨ad116, A116_2, c116_2, e116, hx116_0, hx116_1, hx116_2, hx116_3, hl116_2, hi116_2⟩ := at_T37 HR0.out x5_1 p116 q116; obtain rfl : ad111 = ad116 := (by injection e116); have HR116_2 := Aside0.mk hi116_2; have HC116_2 := Aside0.mk hl116_2; clear hi116_2 hl116_2; replace p116 := eq_true p116; replace q116 := eq_true q116; have ea_ := Option.some.inj (hx111_2.symm.trans hx116_2); injection ea_ with ea_ en_ ec_; subst ea_; subst ec_; clear en_; have p117 : 0 ≤ (x5_1 : Int) := of_decide_eq_true (by first | (with_reducible assumption) | assumption); have q117 : x5_1 < (l1.length : Int) := of_decide_eq_true (by first | (with_reducible assumption) | assumption); obtain ⟨ad117, A117_2, c117_2, e117, hx117_0, hx117_1, hx117_2, hx117_3, hl117_2, hi117_2⟩ := at_T37 HR1.out x5_1 p117 q117; obtain rfl : ad112 = ad117 := (by injection e117); have HR117_2 := Aside0.mk hi117_2; have HC117_2 := Aside0.mk hl117_2; clear hi117_2 hl117_2; replace p117 := eq_true p117; replace q117 := eq_true q117; have ea_ := Option.some.inj (hx112_2.symm.trans hx117_2); injection ea_ with ea_ en_ ec_; subst ea_; subst ec_; clear en_)); try go_wp2_with (first | (go_at_call 27; (with_reducible refine (malthouseref14_Ints.calls k1 _ _ ((rd_T37 l0 x5_1).f2) _ _ ((rd_T37 l1 x5_1).f2) true _ ?side1 ?side2 ?side3 ?side4 A7.out).mono ?_); (case side1 => repeat (first | exact HR111_2.out | (with_reducible refine Kd.C_alloc ?_ _) | (with_reducible refine Kd.C_drewN ?_ _) | (with_reducible refine Kd.C_drew ?_))); (case side2 => exact HC111_2.out); (case side3 => repeat (first | exact HR112_2.out | (with_reducible refine Kd.C_alloc ?_ _) | (with_reducible refine Kd.C_drewN ?_ _) | (with_reducible refine Kd.C_drew ?_))); (case side4 => exact HC112_2.out); rintro e w' ⟨rfl, ⟨nd, rfl⟩⟩; (try first | exact ⟨rfl, _, World.drewN_drewN _ _ _⟩ | exact ⟨rfl, _, Eq.trans (World.drewN_drewN _ _ _) (congrArg (World.drewN _) (Nat.add_assoc _ _ _))⟩); have p114 : 0 ≤ (x5_1 : Int) := of_decide_eq_true (by first | (with_reducible assumption) | assumption); have q114 : x5_1 < (l0.length : Int) := of_decide_eq_true (by first | (with_reducible assumption) | assumption); obtain ⟨ad114, A114_2, c114_2, e114, hx114_0, hx114_1, hx114_2, hx114_3, hl114_2, hi114_2⟩ := at_T37 HR0.out x5_1 p114 q114; obtain rfl : ad111 = ad114 := (by injection e114); have HR114_2 := Aside0.mk hi114_2; have HC114_2 := Aside0.mk hl114_2; clear hi114_2 hl114_2; replace p114 := eq_true p114; replace q114 := eq_true q114; have ea_ := Option.some.inj (hx111_2.symm.trans hx114_2); injection ea_ with ea_ en_ ec_; subst ea_; subst ec_; clear en_; have p115 : 0 ≤ (x5_1 : Int) := of_decide_eq_true (by first | (with_reducible assumption) | assumption); have q115 : x5_1 < (l1.length : Int) := of_decide_eq_true (by first | (with_reducible assumption) | assumption); obtain ⟨ad115, A115_2, c115_2, e115, hx115_0, hx115_1, hx115_2, hx115_3, hl115_2, hi115_2⟩ := at_T37 HR1.out x5_1 p115 q115; obtain rfl : ad112 = ad115 := (by injection e115); have HR115_2 := Aside0.mk hi115_2; have HC115_2 := Aside0.mk hl115_2; clear hi115_2 hl115_2; replace p115 := eq_true p115; replace q115 := eq_true q115; have ea_ := Option.some.inj (hx112_2.symm.trans hx115_2); injection ea_ with ea_ en_ ec_; subst ea_; subst ec_; clear en_; have p116 : 0 ≤ (x5_1 : Int) := of_decide_eq_true (by first | (with_reducible assumption) | assumption); have q116 : x5_1 < (l0.length : Int) := of_decide_eq_true (by first | (with_reducible assumption) | assumption); obtain ⟨ad116, A116_2, c116_2, e116, hx116_0, hx116_1, hx116_2, hx116_3, hl116_2, hi116_2⟩ := at_T37 HR0.out x5_1 p116 q116; obtain rfl : ad111 = ad116 := (by injection e116); have HR116_2 := Aside0.mk hi116_2; have HC116_2 := Aside0.mk hl116_2; clear hi116_2 hl116_2; replace p116 := eq_true p116; replace q116 := eq_true q116; have ea_ := Option.some.inj (hx111_2.symm.trans hx116_2); injection ea_ with ea_ en_ ec_; subst ea_; subst ec_; clear en_; have p117 : 0 ≤ (x5_1 : Int) := of_decide_eq_true (by first | (with_reducible assumption) | assumption); have q117 : x5_1 < (l1.length : Int) := of_decide_eq_true (by first | (with_reducible assumption) | assumption); obtain ⟨ad117, A117_2, c117_2, e117, hx117_0, hx117_1, hx117_2, hx117_3, hl117_2, hi117_2⟩ := at_T37 HR1.out x5_1 p117 q117; obtain rfl : ad112 = ad117 := (by injection e117); have HR117_2 := Aside0.mk hi117_2; have HC117_2 := Aside0.mk hl117_2; clear hi117_2 hl117_2; replace p117 := eq_true p117; replace q117 := eq_true q117; have ea_ := Option.some.inj (hx112_2.symm.trans hx117_2); injection ea_ with ea_ en_ ec_; subst ea_; subst ec_; clear en_)))
                    go_ret
                    exact ⟨by first | rfl | (simp; done) | (simp [*]; done), by repeat (first | exact Drawn0.refl _ | apply Drawn0.step)⟩
                · rw [if_neg c9] at H
                  have c9b0 : (((rd_T37 l0 x5_1).f0) == ((rd_T37 l1 x5_1).f0)) = false := beq_eq_false_iff_ne.mpr c9
                  have c9b1 : (((rd_T37 l0 x5_1).f0) != ((rd_T37 l1 x5_1).f0)) = true := bne_iff_ne.mpr c9
                  obtain rfl := Option.some.inj H
                  have p111 : 0 ≤ (x5_1 : Int) := of_decide_eq_true (by first | (with_reducible assumption) | assumption)
                  have q111 : x5_1 < (l0.length : Int) := of_decide_eq_true (by first | (with_reducible assumption) | assumption)
                  obtain ⟨ad111, A111_2, c111_2, e111, hx111_0, hx111_1, hx111_2, hx111_3, hl111_2, hi111_2⟩ := at_T37 HR0.out x5_1 p111 q111
                  cases e111
                  have HR111_2 := Aside0.mk hi111_2
                  have HC111_2 := Aside0.mk hl111_2
                  clear hi111_2 hl111_2
                  replace p111 := eq_true p111
                  replace q111 := eq_true q111
                  have p112 : 0 ≤ (x5_1 : Int) := of_decide_eq_true (by first | (with_reducible assumption) | assumption)
                  have q112 : x5_1 < (l1.length : Int) := of_decide_eq_true (by first | (with_reducible assumption) | assumption)
                  obtain ⟨ad112, A112_2, c112_2, e112, hx112_0, hx112_1, hx112_2, hx112_3, hl112_2, hi112_2⟩ := at_T37 HR1.out x5_1 p112 q112
                  cases e112
                  have HR112_2 := Aside0.mk hi112_2
                  have HC112_2 := Aside0.mk hl112_2
                  clear hi112_2 hl112_2
                  replace p112 := eq_true p112
                  replace q112 := eq_true q112
                  go_wp2_with (first | (go_at_call 27; (with_reducible refine (malthouseref14_Ints.calls k1 _ _ ((rd_T37 l0 x5_1).f2) _ _ ((rd_T37 l1 x5_1).f2) true _ ?side1 ?side2 ?side3 ?side4 A7.out).mono ?_); (case side1 => repeat (first | exact HR111_2.out | (with_reducible refine Kd.C_alloc ?_ _) | (with_reducible refine Kd.C_drewN ?_ _) | (with_reducible refine Kd.C_drew ?_))); (case side2 => exact HC111_2.out); (case side3 => repeat (first | exact HR112_2.out | (with_reducible refine Kd.C_alloc ?_ _) | (with_reducible refine Kd.C_drewN ?_ _) | (with_reducible refine Kd.C_drew ?_))); (case side4 => exact HC112_2.out); rintro e w' ⟨rfl, ⟨nd, rfl⟩⟩; (try first | exact ⟨rfl, _, World.drewN_drewN _ _ _⟩ | exact ⟨rfl, _, Eq.trans (World.drewN_drewN _ _ _) (congrArg (World.drewN _) (Nat.add_assoc _ _ _))⟩); have p114 : 0 ≤ (x5_1 : Int) := of_decide_eq_true (by first | (with_reducible assumption) | assumption); have q114 : x5_1 < (l0.length : Int) := of_decide_eq_true (by first | (with_reducible assumption) | assumption); obtain ⟨ad114, A114_2, c114_2, e114, hx114_0, hx114_1, hx114_2, hx114_3, hl114_2, hi114_2⟩ := at_T37 HR0.out x5_1 p114 q114; obtain rfl : ad111 = ad114 := (by injection e114); have HR114_2 := Aside0.mk hi114_2; have HC114_2 := Aside0.mk hl114_2; clear hi114_2 hl114_2; replace p114 := eq_true p114; replace q114 := eq_true q114; have ea_ := Option.some.inj (hx111_2.symm.trans hx114_2); injection ea_ with ea_ en_ ec_; subst ea_; subst ec_; clear en_; have p115 : 0 ≤ (x5_1 : Int) := of_decide_eq_true (by first | (with_reducible assumption) | assumption); have q115 : x5_1 < (l1.length : Int) := of_decide_eq_true (by first | (with_reducible assumption) | assumption); obtain ⟨ad115, A115_2, c115_2, e115, hx115_0, hx115_1, hx115_2, hx115_3, hl115_2, hi115_2⟩ := at_T37 HR1.out x5_1 p115 q115; obtain rfl : ad112 = ad115 := (by injection e115); have HR115_2 := Aside0.mk hi115_2; have HC115_2 := Aside0.mk hl115_2; clear hi115_2 hl115_2; replace p115 := eq_true p115; replace q115 := eq_true q115; have ea_ := Option.some.inj (hx112_2.symm.trans hx115_2); injection ea_ with ea_ en_ ec_; subst ea_; subst ec_; clear en_))
                  repeat (go_quiet (first | (go_at_call 27; (with_reducible refine (malthouseref14_Ints.calls k1 _ _ ((rd_T37 l0 x5_1).f2) _ _ ((rd_T37 l1 x5_1).f2) true _ ?side1 ?side2 ?side3 ?side4 A7.out).mono ?_); (case side1 => repeat (first | exact HR111_2.out | (with_reducible refine Kd.C_alloc ?_ _) | (with_reducible refine Kd.C_drewN ?_ _) | (with_reducible refine Kd.C_drew ?_))); (case side2 => exact HC111_2.out); (case side3 => repeat (first | exact HR112_2.out | (with_reducible refine Kd.C_alloc ?_ _) | (with_reducible refine Kd.C_drewN ?_ _) | (with_reducible refine Kd.C_drew ?_))); (case side4 => exact HC112_2.out); rintro e w' ⟨rfl, ⟨nd, rfl⟩⟩; (try first | exact ⟨rfl, _, World.drewN_drewN _ _ _⟩ | exact ⟨rfl, _, Eq.trans (World.drewN_drewN _ _ _) (congrArg (World.drewN _) (Nat.add_assoc _ _ _))⟩); have p114 : 0 ≤ (x5_1 : Int) := of_decide_eq_true (by first | (with_reducible assumption) | assumption); have q114 : x5_1 < (l0.length : Int) := of_decide_eq_true (by first | (with_reducible assumption) | assumption); obtain ⟨ad114, A114_2, c114_2, e114, hx114_0, hx114_1, hx114_2, hx114_3, hl114_2, hi114_2⟩ := at_T37 HR0.out x5_1 p114 q114; obtain rfl : ad111 = ad114 := (by injection e114); have HR114_2 := Aside0.mk hi114_2; have HC114_2 := Aside0.mk hl114_2; clear hi114_2 hl114_2; replace p114 := eq_true p114; replace q114 := eq_true q114; have ea_ := Option.some.inj (hx111_2.symm.trans hx114_2); injection ea_ with ea_ en_ ec_; subst ea_; subst ec_; clear en_; have p115 : 0 ≤ (x5_1 : Int) := of_decide_eq_true (by first | (with_reducible assumption) | assumption); have q115 : x5_1 < (l1.length : Int) := of_decide_eq_true (by first | (with_reducible assumption) | assumption); obtain ⟨ad115, A115_2, c115_2, e115, hx115_0, hx115_1, hx115_2, hx115_3, hl115_2, hi115_2⟩ := at_T37 HR1.out x5_1 p115 q115; obtain rfl : ad112 = ad115 := (by injection e115); have HR115_2 := Aside0.mk hi115_2; have HC115_2 := Aside0.mk hl115_2; clear hi115_2 hl115_2; replace p115 := eq_true p115; replace q115 := eq_true q115; have ea_ := Option.some.inj (hx112_2.symm.trans hx115_2); injection ea_ with ea_ en_ ec_; subst ea_; subst ec_; clear en_)); try go_wp2_with (first | (go_at_call 27; (with_reducible refine (malthouseref14_Ints.calls k1 _ _ ((rd_T37 l0 x5_1).f2) _ _ ((rd_T37 l1 x5_1).f2) true _ ?side1 ?side2 ?side3 ?side4 A7.out).mono ?_); (case side1 => repeat (first | exact HR111_2.out | (with_reducible refine Kd.C_alloc ?_ _) | (with_reducible refine Kd.C_drewN ?_ _) | (with_reducible refine Kd.C_drew ?_))); (case side2 => exact HC111_2.out); (case side3 => repeat (first | exact HR112_2.out | (with_reducible refine Kd.C_alloc ?_ _) | (with_reducible refine Kd.C_drewN ?_ _) | (with_reducible refine Kd.C_drew ?_))); (case side4 => exact HC112_2.out); rintro e w' ⟨rfl, ⟨nd, rfl⟩⟩; (try first | exact ⟨rfl, _, World.drewN_drewN _ _ _⟩ | exact ⟨rfl, _, Eq.trans (World.drewN_drewN _ _ _) (congrArg (World.drewN _) (Nat.add_assoc _ _ _))⟩); have p114 : 0 ≤ (x5_1 : Int) := of_decide_eq_true (by first | (with_reducible assumption) | assumption); have q114 : x5_1 < (l0.length : Int) := of_decide_eq_true (by first | (with_reducible assumption) | assumption); obtain ⟨ad114, A114_2, c114_2, e114, hx114_0, hx114_1, hx114_2, hx114_3, hl114_2, hi114_2⟩ := at_T37 HR0.out x5_1 p114 q114; obtain rfl : ad111 = ad114 := (by injection e114); have HR114_2 := Aside0.mk hi114_2; have HC114_2 := Aside0.mk hl114_2; clear hi114_2 hl114_2; replace p114 := eq_true p114; replace q114 := eq_true q114; have ea_ := Option.some.inj (hx111_2.symm.trans hx114_2); injection ea_ with ea_ en_ ec_; subst ea_; subst ec_; clear en_; have p115 : 0 ≤ (x5_1 : Int) := of_decide_eq_true (by first | (with_reducible assumption) | assumption); have q115 : x5_1 < (l1.length : Int) := of_decide_eq_true (by first | (with_reducible assumption) | assumption); obtain ⟨ad115, A115_2, c115_2, e115, hx115_0, hx115_1, hx115_2, hx115_3, hl115_2, hi115_2⟩ := at_T37 HR1.out x5_1 p115 q115; obtain rfl : ad112 = ad115 := (by injection e115); have HR115_2 := Aside0.mk hi115_2; have HC115_2 := Aside0.mk hl115_2; clear hi115_2 hl115_2; replace p115 := eq_true p115; replace q115 := eq_true q115; have ea_ := Option.some.inj (hx112_2.symm.trans hx115_2); injection ea_ with ea_ en_ ec_; subst ea_; subst ec_; clear en_)))
                  go_ret
                  exact ⟨by first | rfl | (simp; done) | (simp [*]; done), by repeat (first | exact Drawn0.refl _ | apply Drawn0.step)⟩
              · replace c8 := Bool.eq_false_iff.mpr c8
                subst c8
                have H1 : (some false) = some r := by rw [if_neg (show ¬ (false = true) by decide)] at H; exact H
                clear H
                have H := H1
                clear H1
                obtain rfl := Option.some.inj H
                have p111 : 0 ≤ (x5_1 : Int) := of_decide_eq_true (by first | (with_reducible assumption) | assumption)
                have q111 : x5_1 < (l0.length : Int) := of_decide_eq_true (by first | (with_reducible assumption) | assumption)
                obtain ⟨ad111, A111_2, c111_2, e111, hx111_0, hx111_1, hx111_2, hx111_3, hl111_2, hi111_2⟩ := at_T37 HR0.out x5_1 p111 q111
                cases e111
                have HR111_2 := Aside0.mk hi111_2
                have HC111_2 := Aside0.mk hl111_2
                clear hi111_2 hl111_2
                replace p111 := eq_true p111
                replace q111 := eq_true q111
                have p112 : 0 ≤ (x5_1 : Int) := of_decide_eq_true (by first | (with_reducible assumption) | assumption)
                have q112 : x5_1 < (l1.length : Int) := of_decide_eq_true (by first | (with_reducible assumption) | assumption)
                obtain ⟨ad112, A112_2, c112_2, e112, hx112_0, hx112_1, hx112_2, hx112_3, hl112_2, hi112_2⟩ := at_T37 HR1.out x5_1 p112 q112
                cases e112
                have HR112_2 := Aside0.mk hi112_2
                have HC112_2 := Aside0.mk hl112_2
                clear hi112_2 hl112_2
                replace p112 := eq_true p112
                replace q112 := eq_true q112
                go_wp2_with (first | (go_at_call 27; (with_reducible refine (malthouseref14_Ints.calls k1 _ _ ((rd_T37 l0 x5_1).f2) _ _ ((rd_T37 l1 x5_1).f2) false _ ?side1 ?side2 ?side3 ?side4 A7.out).mono ?_); (case side1 => repeat (first | exact HR111_2.out | (with_reducible refine Kd.C_alloc ?_ _) | (with_reducible refine Kd.C_drewN ?_ _) | (with_reducible refine Kd.C_drew ?_))); (case side2 => exact HC111_2.out); (case side3 => repeat (first | exact HR112_2.out | (with_reducible refine Kd.C_alloc ?_ _) | (with_reducible refine Kd.C_drewN ?_ _) | (with_reducible refine Kd.C_drew ?_))); (case side4 => exact HC112_2.out); rintro e w' ⟨rfl, ⟨nd, rfl⟩⟩; (try first | exact ⟨rfl, _, World.drewN_drewN _ _ _⟩ | exact ⟨rfl, _, Eq.trans (World.drewN_drewN _ _ _) (congrArg (World.drewN _) (Nat.add_assoc _ _ _))⟩)))
                repeat (go_quiet (first | (go_at_call 27; (with_reducible refine (malthouseref14_Ints.calls k1 _ _ ((rd_T37 l0 x5_1).f2) _ _ ((rd_T37 l1 x5_1).f2) false _ ?side1 ?side2 ?side3 ?side4 A7.out).mono ?_); (case side1 => repeat (first | exact HR111_2.out | (with_reducible refine Kd.C_alloc ?_ _) | (with_reducible refine Kd.C_drewN ?_ _) | (with_reducible refine Kd.C_drew ?_))); (case side2 => exact HC111_2.out); (case side3 => repeat (first | exact HR112_2.out | (with_reducible refine Kd.C_alloc ?_ _) | (with_reducible refine Kd.C_drewN ?_ _) | (with_reducible refine Kd.C_drew ?_))); (case side4 => exact HC112_2.out); rintro e w' ⟨rfl, ⟨nd, rfl⟩⟩; (try first | exact ⟨rfl, _, World.drewN_drewN _ _ _⟩ | exact ⟨rfl, _, Eq.trans (World.drewN_drewN _ _ _) (congrArg (World.drewN _) (Nat.add_assoc _ _ _))⟩))); try go_wp2_with (first | (go_at_call 27; (with_reducible refine (malthouseref14_Ints.calls k1 _ _ ((rd_T37 l0 x5_1).f2) _ _ ((rd_T37 l1 x5_1).f2) false _ ?side1 ?side2 ?side3 ?side4 A7.out).mono ?_); (case side1 => repeat (first | exact HR111_2.out | (with_reducible refine Kd.C_alloc ?_ _) | (with_reducible refine Kd.C_drewN ?_ _) | (with_reducible refine Kd.C_drew ?_))); (case side2 => exact HC111_2.out); (case side3 => repeat (first | exact HR112_2.out | (with_reducible refine Kd.C_alloc ?_ _) | (with_reducible refine Kd.C_drewN ?_ _) | (with_reducible refine Kd.C_drew ?_))); (case side4 => exact HC112_2.out); rintro e w' ⟨rfl, ⟨nd, rfl⟩⟩; (try first | exact ⟨rfl, _, World.drewN_drewN _ _ _⟩ | exact ⟨rfl, _, Eq.trans (World.drewN_drewN _ _ _) (congrArg (World.drewN _) (Nat.add_assoc _ _ _))⟩))))
                go_ret
                exact ⟨by first | rfl | (simp; done) | (simp [*]; done), by repeat (first | exact Drawn0.refl _ | apply Drawn0.step)⟩
            · rw [if_neg c6] at H
              exact absurd H (by simp)
          · rw [if_neg c5] at H
            exact absurd H (by simp)
        · rw [if_neg c4] at H
          have c4b0 : decide (x5_1 < (l0.length : Int)) = false := decide_eq_false c4
          clear c4
          obtain rfl := Option.some.inj H
          go_wp2
          repeat (go_quiet (fail); try go_wp2)
          go_ret
          exact ⟨by first | rfl | (simp; done) | (simp [*]; done), by repeat (first | exact Drawn0.refl _ | apply Drawn0.step)⟩
  · rw [if_neg c3] at H
    have c3b0 : ((l0.length : Int) == (l1.length : Int)) = false := beq_eq_false_iff_ne.mpr c3
    have c3b1 : ((l0.length : Int) != (l1.length : Int)) = true := bne_iff_ne.mpr c3
    have c3b2 : (l0.length == l1.length) = false := by first | simpa using c3 | (simp at c3 ⊢; omega)
    obtain rfl := Option.some.inj H
    go_enter Try.func19, Try.ntmps19
    go_wp2
    repeat (go_quiet (fail); try go_wp2)
    go_ret
    exact ⟨by first | rfl | (simp; done) | (simp [*]; done), by repeat (first | exact Drawn0.refl _ | apply Drawn0.step)⟩
def malthouseref14_Same.f (k : Nat) (l0_0 : List Int) (l0_1 : List (S37)) (a0_2 : Int) (l1_0 : List Int) (l1_1 : List (S37)) (a1_2 : Int) : Option (Bool) := (malthouseref14_Ints.f k l0_0 l1_0).bind fun t122 => ((malthouseref14_Wishes.f k l0_1 l1_1).bind fun t123 => (if t122 = true then (if t123 = true then (some (a0_2 == a1_2)) else (some false)) else (some false)))
set_option maxHeartbeats 8000000 in
set_option maxRecDepth 100000 in
theorem malthouseref14_Same.calls (k : Nat) (A0_0 : Option Addr) (c0_0 : Nat) (l0_0 : List Int) (A0_1 : Option Addr) (c0_1 : Nat) (l0_1 : List (S37)) (a0_2 : Int) (A1_0 : Option Addr) (c1_0 : Nat) (l1_0 : List Int) (A1_1 : Option Addr) (c1_1 : Nat) (l1_1 : List (S37)) (a1_2 : Int) (r : Bool) (w : World) (hr0_0 : Kd.C (Kd.int .i64) w A0_0 l0_0.length l0_0) (hc0_0 : l0_0.length ≤ c0_0) (hr0_1 : Kd.C k37 w A0_1 l0_1.length l0_1) (hc0_1 : l0_1.length ≤ c0_1) (hr1_0 : Kd.C (Kd.int .i64) w A1_0 l1_0.length l1_0) (hc1_0 : l1_0.length ≤ c1_0) (hr1_1 : Kd.C k37 w A1_1 l1_1.length l1_1) (hc1_1 : l1_1.length ≤ c1_1) (h : malthouseref14_Same.f k l0_0 l0_1 a0_2 l1_0 l1_1 a1_2 = some r) :
    Calls Try.prog 12 #[.agg #[.slice A0_0 l0_0.length c0_0, .slice A0_1 l0_1.length c0_1, .int .i64 a0_2], .agg #[.slice A1_0 l1_0.length c1_0, .slice A1_1 l1_1.length c1_1, .int .i64 a1_2]] w fun e w' => e = .returned (.bool r) ∧ Below w.heap.size w w' := by
  have hu26 := Try.underlying26
  have HR0_0 := Aside0.mk hr0_0
  have HC0_0 := Aside0.mk hc0_0
  clear hr0_0 hc0_0
  have HR0_1 := Aside0.mk hr0_1
  have HC0_1 := Aside0.mk hc0_1
  clear hr0_1 hc0_1
  have HR1_0 := Aside0.mk hr1_0
  have HC1_0 := Aside0.mk hc1_0
  clear hr1_0 hc1_0
  have HR1_1 := Aside0.mk hr1_1
  have HC1_1 := Aside0.mk hc1_1
  clear hr1_1 hc1_1
  have HB := Aside0.mk (Below.refl w.heap.size w)
  have H : ((malthouseref14_Ints.f k l0_0 l1_0).bind fun t122 => ((malthouseref14_Wishes.f k l0_1 l1_1).bind fun t123 => (if t122 = true then (if t123 = true then (some (a0_2 == a1_2)) else (some false)) else (some false)))) = some r := h
  clear h
  replace H := Option.bind_eq_some_iff.mp H
  obtain ⟨t122, A30, H⟩ := H
  replace H : ((malthouseref14_Wishes.f k l0_1 l1_1).bind fun t123 => (if t122 = true then (if t123 = true then (some (a0_2 == a1_2)) else (some false)) else (some false))) = some r := H
  have A3 := Aside0.mk A30
  clear A30
  replace H := Option.bind_eq_some_iff.mp H
  obtain ⟨t123, A40, H⟩ := H
  replace H : (if t122 = true then (if t123 = true then (some (a0_2 == a1_2)) else (some false)) else (some false)) = some r := H
  have A4 := Aside0.mk A40
  clear A40
  by_cases c5 : t122 = true
  · subst c5
    have H1 : (if t123 = true then (some (a0_2 == a1_2)) else (some false)) = some r := by rw [if_pos rfl] at H; exact H
    clear H
    have H := H1
    clear H1
    by_cases c6 : t123 = true
    · subst c6
      have H1 : (some (a0_2 == a1_2)) = some r := by rw [if_pos rfl] at H; exact H
      clear H
      have H := H1
      clear H1
      obtain rfl := Option.some.inj H
      go_enter Try.func12, Try.ntmps12
      go_wp2_with (first | ((with_reducible refine gate_dst (N := 2) rfl ?_); refine box_event ?hg (N := 2) ?hd (cs := #[.slice A0_0 l0_0.length c0_0, .slice A0_1 l0_1.length c0_1, .int .i64 a0_2]) (t := 26) ?hr ?_; (case hd => rfl); (case hg => rfl); (case hr => first | (go_simp; done) | (go_simp; rfl)); intro gb120 hg w7 hbox hb; have n0_ := Aside0.mk (below_step (by repeat (first | (with_reducible first | exact HB.out | apply below_alloc | apply pw_below_drewN | apply below_drew1) | exact HB.out)) hb); have n1_ := Aside0.mk (hbox); have n2_ := Aside0.mk ((by rw [hg]; exact (below_size (by repeat (first | (with_reducible first | exact HB.out | apply below_alloc | apply pw_below_drewN | apply below_drew1) | exact HB.out))) : w.heap.size ≤ gb120)); have n3_ := Aside0.mk ((by rw [hg]; exact (below_size (by repeat (first | (with_reducible first | exact HB.out | apply below_alloc | apply pw_below_drewN | apply below_drew1) | exact HB.out))) : w.heap.size ≤ gb120)); clear HB; have HB := n0_; have BK120 := n1_; have GW120 := n2_; have GE120 := n3_; clear n0_ n1_ n2_ n3_; clear hb hbox hg) | ((with_reducible refine gate_dst (N := 3) rfl ?_); refine box_event ?hg (N := 3) ?hd (cs := #[.slice A1_0 l1_0.length c1_0, .slice A1_1 l1_1.length c1_1, .int .i64 a1_2]) (t := 26) ?hr ?_; (case hd => rfl); (case hg => rfl); (case hr => first | (go_simp; done) | (go_simp; rfl)); intro gb121 hg w8 hbox hb; have n0_ := Aside0.mk (blk_below (g := gb120) (o := .cells #[.slice A0_0 l0_0.length c0_0, .slice A0_1 l0_1.length c0_1, .int .i64 a0_2] 26 (0, 0)) (by (with_reducible repeat (first | refine blk_drewN ?_ _ | refine blk_drew ?_ | refine blk_alloc ?_ _)); exact BK120.out) hb); have n1_ := Aside0.mk (below_step (by repeat (first | (with_reducible first | exact HB.out | apply below_alloc | apply pw_below_drewN | apply below_drew1 | refine below_set ?_ GE120.out) | exact HB.out)) hb); have n2_ := Aside0.mk (hbox); have n3_ := Aside0.mk ((by rw [hg]; exact (below_size (by repeat (first | (with_reducible first | exact HB.out | apply below_alloc | apply pw_below_drewN | apply below_drew1 | refine below_set ?_ GE120.out) | exact HB.out))) : w.heap.size ≤ gb121)); have n4_ := Aside0.mk ((by rw [hg]; exact (below_size (by repeat (first | (with_reducible first | exact HB.out | apply below_alloc | apply pw_below_drewN | apply below_drew1 | refine below_set ?_ GE120.out) | exact HB.out))) : w.heap.size ≤ gb121)); have n5_ := Aside0.mk ((by rw [hg]; exact Nat.ne_of_lt (blk_lt (g := gb120) (o := .cells #[.slice A0_0 l0_0.length c0_0, .slice A0_1 l0_1.length c0_1, .int .i64 a0_2] 26 (0, 0)) (by (with_reducible repeat (first | refine blk_drewN ?_ _ | refine blk_drew ?_ | refine blk_alloc ?_ _)); exact BK120.out)) : gb120 ≠ gb121)); have n6_ := Aside0.mk ((by rw [hg]; exact Nat.ne_of_gt (blk_lt (g := gb120) (o := .cells #[.slice A0_0 l0_0.length c0_0, .slice A0_1 l0_1.length c0_1, .int .i64 a0_2] 26 (0, 0)) (by (with_reducible repeat (first | refine blk_drewN ?_ _ | refine blk_drew ?_ | refine blk_alloc ?_ _)); exact BK120.out)) : gb121 ≠ gb120)); clear BK120; clear HB; have BK120 := n0_; have HB := n1_; have BK121 := n2_; have GW121 := n3_; have GE121 := n4_; have NB120_121 := n5_; have NB121_120 := n6_; clear n0_ n1_ n2_ n3_ n4_ n5_ n6_; clear hb hbox hg; have hnb9 := NB120_121.out; have hnc9 := NB121_120.out; have hcz10_0 : w8.cell? ⟨gb120, 0, none⟩ = some (.slice A0_0 l0_0.length c0_0) := (blk_cell BK120.out 0).trans rfl; have hcz10_1 : w8.cell? ⟨gb120, 1, none⟩ = some (.slice A0_1 l0_1.length c0_1) := (blk_cell BK120.out 1).trans rfl; have hcz10_2 : w8.cell? ⟨gb120, 2, none⟩ = some (.int .i64 a0_2) := (blk_cell BK120.out 2).trans rfl; have hfz10_0 := blk_frozen BK120.out 0; have hfz10_1 := blk_frozen BK120.out 1; have hfz10_2 := blk_frozen BK120.out 2; have hcz11_0 : w8.cell? ⟨gb121, 0, none⟩ = some (.slice A1_0 l1_0.length c1_0) := (blk_cell BK121.out 0).trans rfl; have hcz11_1 : w8.cell? ⟨gb121, 1, none⟩ = some (.slice A1_1 l1_1.length c1_1) := (blk_cell BK121.out 1).trans rfl; have hcz11_2 : w8.cell? ⟨gb121, 2, none⟩ = some (.int .i64 a1_2) := (blk_cell BK121.out 2).trans rfl; have hfz11_0 := blk_frozen BK121.out 0; have hfz11_1 := blk_frozen BK121.out 1; have hfz11_2 := blk_frozen BK121.out 2) | ((with_reducible refine gate_callee (f := 27) rfl ?_); refine goesL_ (some 11) rfl rfl Try.func27 (by kernel_rfl) rfl #[.slice A0_0 l0_0.length c0_0, .slice A1_0 l1_0.length c1_0] rfl (by (try simp only [List.map_toArray, List.map_cons, List.map_nil]); first | done | rfl | (simp only [List.length_drop, List.length_take]; rfl)) ?_; (with_reducible refine (malthouseref14_Ints.calls k _ _ l0_0 _ _ l1_0 true _ ?side1 ?side2 ?side3 ?side4 A3.out).mono ?_); (case side1 => repeat (first | exact (Kd.C_below HR0_0.out HB.out) | (with_reducible refine Kd.C_alloc ?_ _) | (with_reducible refine Kd.C_drewN ?_ _) | (with_reducible refine Kd.C_drew ?_))); (case side2 => exact HC0_0.out); (case side3 => repeat (first | exact (Kd.C_below HR1_0.out HB.out) | (with_reducible refine Kd.C_alloc ?_ _) | (with_reducible refine Kd.C_drewN ?_ _) | (with_reducible refine Kd.C_drew ?_))); (case side4 => exact HC1_0.out); rintro e w' ⟨rfl, ⟨nd, rfl⟩⟩; refine ⟨_, rfl, ?_⟩) | ((with_reducible refine gate_callee (f := 19) rfl ?_); refine goesL_ (some 16) rfl rfl Try.func19 (by kernel_rfl) rfl #[.slice A0_1 l0_1.length c0_1, .slice A1_1 l1_1.length c1_1] rfl (by (try simp only [List.map_toArray, List.map_cons, List.map_nil]); first | done | rfl | (simp only [List.length_drop, List.length_take]; rfl)) ?_; (with_reducible refine (malthouseref14_Wishes.calls k _ _ l0_1 _ _ l1_1 true _ ?side1 ?side2 ?side3 ?side4 A4.out).mono ?_); (case side1 => repeat (first | exact (Kd.C_below HR0_1.out (by repeat (first | (with_reducible first | exact HB.out | apply below_alloc | apply pw_below_drewN | apply below_drew1 | refine below_set ?_ GE120.out | refine below_set ?_ GE121.out) | exact HB.out))) | (with_reducible refine Kd.C_alloc ?_ _) | (with_reducible refine Kd.C_drewN ?_ _) | (with_reducible refine Kd.C_drew ?_))); (case side2 => exact HC0_1.out); (case side3 => repeat (first | exact (Kd.C_below HR1_1.out (by repeat (first | (with_reducible first | exact HB.out | apply below_alloc | apply pw_below_drewN | apply below_drew1 | refine below_set ?_ GE120.out | refine below_set ?_ GE121.out) | exact HB.out))) | (with_reducible refine Kd.C_alloc ?_ _) | (with_reducible refine Kd.C_drewN ?_ _) | (with_reducible refine Kd.C_drew ?_))); (case side4 => exact HC1_1.out); rintro e w' ⟨rfl, ⟨nd, rfl⟩⟩; refine ⟨_, rfl, ?_⟩))
      go_ret
      exact ⟨by first | rfl | (simp [errW_none, errW_some] <;> rfl) | (simp [*, errW_none, errW_some] <;> rfl), by repeat (first | (with_reducible first | exact HB.out | apply below_alloc | apply pw_below_drewN | apply below_drew1 | refine below_set ?_ GE120.out | refine below_set ?_ GE121.out) | exact HB.out)⟩
    · replace c6 := Bool.eq_false_iff.mpr c6
      subst c6
      have H1 : (some false) = some r := by rw [if_neg (show ¬ (false = true) by decide)] at H; exact H
      clear H
      have H := H1
      clear H1
      obtain rfl := Option.some.inj H
      go_enter Try.func12, Try.ntmps12
      go_wp2_with (first | ((with_reducible refine gate_dst (N := 2) rfl ?_); refine box_event ?hg (N := 2) ?hd (cs := #[.slice A0_0 l0_0.length c0_0, .slice A0_1 l0_1.length c0_1, .int .i64 a0_2]) (t := 26) ?hr ?_; (case hd => rfl); (case hg => rfl); (case hr => first | (go_simp; done) | (go_simp; rfl)); intro gb120 hg w12 hbox hb; have n0_ := Aside0.mk (below_step (by repeat (first | (with_reducible first | exact HB.out | apply below_alloc | apply pw_below_drewN | apply below_drew1) | exact HB.out)) hb); have n1_ := Aside0.mk (hbox); have n2_ := Aside0.mk ((by rw [hg]; exact (below_size (by repeat (first | (with_reducible first | exact HB.out | apply below_alloc | apply pw_below_drewN | apply below_drew1) | exact HB.out))) : w.heap.size ≤ gb120)); have n3_ := Aside0.mk ((by rw [hg]; exact (below_size (by repeat (first | (with_reducible first | exact HB.out | apply below_alloc | apply pw_below_drewN | apply below_drew1) | exact HB.out))) : w.heap.size ≤ gb120)); clear HB; have HB := n0_; have BK120 := n1_; have GW120 := n2_; have GE120 := n3_; clear n0_ n1_ n2_ n3_; clear hb hbox hg) | ((with_reducible refine gate_dst (N := 3) rfl ?_); refine box_event ?hg (N := 3) ?hd (cs := #[.slice A1_0 l1_0.length c1_0, .slice A1_1 l1_1.length c1_1, .int .i64 a1_2]) (t := 26) ?hr ?_; (case hd => rfl); (case hg => rfl); (case hr => first | (go_simp; done) | (go_simp; rfl)); intro gb121 hg w13 hbox hb; have n0_ := Aside0.mk (blk_below (g := gb120) (o := .cells #[.slice A0_0 l0_0.length c0_0, .slice A0_1 l0_1.length c0_1, .int .i64 a0_2] 26 (0, 0)) (by (with_reducible repeat (first | refine blk_drewN ?_ _ | refine blk_drew ?_ | refine blk_alloc ?_ _)); exact BK120.out) hb); have n1_ := Aside0.mk (below_step (by repeat (first | (with_reducible first | exact HB.out | apply below_alloc | apply pw_below_drewN | apply below_drew1 | refine below_set ?_ GE120.out) | exact HB.out)) hb); have n2_ := Aside0.mk (hbox); have n3_ := Aside0.mk ((by rw [hg]; exact (below_size (by repeat (first | (with_reducible first | exact HB.out | apply below_alloc | apply pw_below_drewN | apply below_drew1 | refine below_set ?_ GE120.out) | exact HB.out))) : w.heap.size ≤ gb121)); have n4_ := Aside0.mk ((by rw [hg]; exact (below_size (by repeat (first | (with_reducible first | exact HB.out | apply below_alloc | apply pw_below_drewN | apply below_drew1 | refine below_set ?_ GE120.out) | exact HB.out))) : w.heap.size ≤ gb121)); have n5_ := Aside0.mk ((by rw [hg]; exact Nat.ne_of_lt (blk_lt (g := gb120) (o := .cells #[.slice A0_0 l0_0.length c0_0, .slice A0_1 l0_1.length c0_1, .int .i64 a0_2] 26 (0, 0)) (by (with_reducible repeat (first | refine blk_drewN ?_ _ | refine blk_drew ?_ | refine blk_alloc ?_ _)); exact BK120.out)) : gb120 ≠ gb121)); have n6_ := Aside0.mk ((by rw [hg]; exact Nat.ne_of_gt (blk_lt (g := gb120) (o := .cells #[.slice A0_0 l0_0.length c0_0, .slice A0_1 l0_1.length c0_1, .int .i64 a0_2] 26 (0, 0)) (by (with_reducible repeat (first | refine blk_drewN ?_ _ | refine blk_drew ?_ | refine blk_alloc ?_ _)); exact BK120.out)) : gb121 ≠ gb120)); clear BK120; clear HB; have BK120 := n0_; have HB := n1_; have BK121 := n2_; have GW121 := n3_; have GE121 := n4_; have NB120_121 := n5_; have NB121_120 := n6_; clear n0_ n1_ n2_ n3_ n4_ n5_ n6_; clear hb hbox hg; have hnb14 := NB120_121.out; have hnc14 := NB121_120.out; have hcz15_0 : w13.cell? ⟨gb120, 0, none⟩ = some (.slice A0_0 l0_0.length c0_0) := (blk_cell BK120.out 0).trans rfl; have hcz15_1 : w13.cell? ⟨gb120, 1, none⟩ = some (.slice A0_1 l0_1.length c0_1) := (blk_cell BK120.out 1).trans rfl; have hcz15_2 : w13.cell? ⟨gb120, 2, none⟩ = some (.int .i64 a0_2) := (blk_cell BK120.out 2).trans rfl; have hfz15_0 := blk_frozen BK120.out 0; have hfz15_1 := blk_frozen BK120.out 1; have hfz15_2 := blk_frozen BK120.out 2; have hcz16_0 : w13.cell? ⟨gb121, 0, none⟩ = some (.slice A1_0 l1_0.length c1_0) := (blk_cell BK121.out 0).trans rfl; have hcz16_1 : w13.cell? ⟨gb121, 1, none⟩ = some (.slice A1_1 l1_1.length c1_1) := (blk_cell BK121.out 1).trans rfl; have hcz16_2 : w13.cell? ⟨gb121, 2, none⟩ = some (.int .i64 a1_2) := (blk_cell BK121.out 2).trans rfl; have hfz16_0 := blk_frozen BK121.out 0; have hfz16_1 := blk_frozen BK121.out 1; have hfz16_2 := blk_frozen BK121.out 2) | ((with_reducible refine gate_callee (f := 27) rfl ?_); refine goesL_ (some 11) rfl rfl Try.func27 (by kernel_rfl) rfl #[.slice A0_0 l0_0.length c0_0, .slice A1_0 l1_0.length c1_0] rfl (by (try simp only [List.map_toArray, List.map_cons, List.map_nil]); first | done | rfl | (simp only [List.length_drop, List.length_take]; rfl)) ?_; (with_reducible refine (malthouseref14_Ints.calls k _ _ l0_0 _ _ l1_0 true _ ?side1 ?side2 ?side3 ?side4 A3.out).mono ?_); (case side1 => repeat (first | exact (Kd.C_below HR0_0.out HB.out) | (with_reducible refine Kd.C_alloc ?_ _) | (with_reducible refine Kd.C_drewN ?_ _) | (with_reducible refine Kd.C_drew ?_))); (case side2 => exact HC0_0.out); (case side3 => repeat (first | exact (Kd.C_below HR1_0.out HB.out) | (with_reducible refine Kd.C_alloc ?_ _) | (with_reducible refine Kd.C_drewN ?_ _) | (with_reducible refine Kd.C_drew ?_))); (case side4 => exact HC1_0.out); rintro e w' ⟨rfl, ⟨nd, rfl⟩⟩; refine ⟨_, rfl, ?_⟩) | ((with_reducible refine gate_callee (f := 19) rfl ?_); refine goesL_ (some 16) rfl rfl Try.func19 (by kernel_rfl) rfl #[.slice A0_1 l0_1.length c0_1, .slice A1_1 l1_1.length c1_1] rfl (by (try simp only [List.map_toArray, List.map_cons, List.map_nil]); first | done | rfl | (simp only [List.length_drop, List.length_take]; rfl)) ?_; (with_reducible refine (malthouseref14_Wishes.calls k _ _ l0_1 _ _ l1_1 false _ ?side1 ?side2 ?side3 ?side4 A4.out).mono ?_); (case side1 => repeat (first | exact (Kd.C_below HR0_1.out (by repeat (first | (with_reducible first | exact HB.out | apply below_alloc | apply pw_below_drewN | apply below_drew1 | refine below_set ?_ GE120.out | refine below_set ?_ GE121.out) | exact HB.out))) | (with_reducible refine Kd.C_alloc ?_ _) | (with_reducible refine Kd.C_drewN ?_ _) | (with_reducible refine Kd.C_drew ?_))); (case side2 => exact HC0_1.out); (case side3 => repeat (first | exact (Kd.C_below HR1_1.out (by repeat (first | (with_reducible first | exact HB.out | apply below_alloc | apply pw_below_drewN | apply below_drew1 | refine below_set ?_ GE120.out | refine below_set ?_ GE121.out) | exact HB.out))) | (with_reducible refine Kd.C_alloc ?_ _) | (with_reducible refine Kd.C_drewN ?_ _) | (with_reducible refine Kd.C_drew ?_))); (case side4 => exact HC1_1.out); rintro e w' ⟨rfl, ⟨nd, rfl⟩⟩; refine ⟨_, rfl, ?_⟩))
      go_ret
      exact ⟨by first | rfl | (simp [errW_none, errW_some] <;> rfl) | (simp [*, errW_none, errW_some] <;> rfl), by repeat (first | (with_reducible first | exact HB.out | apply below_alloc | apply pw_below_drewN | apply below_drew1 | refine below_set ?_ GE120.out | refine below_set ?_ GE121.out) | exact HB.out)⟩
  · replace c5 := Bool.eq_false_iff.mpr c5
    subst c5
    have H1 : (some false) = some r := by rw [if_neg (show ¬ (false = true) by decide)] at H; exact H
    clear H
    have H := H1
    clear H1
    obtain rfl := Option.some.inj H
    go_enter Try.func12, Try.ntmps12
    go_wp2_with (first | ((with_reducible refine gate_dst (N := 2) rfl ?_); refine box_event ?hg (N := 2) ?hd (cs := #[.slice A0_0 l0_0.length c0_0, .slice A0_1 l0_1.length c0_1, .int .i64 a0_2]) (t := 26) ?hr ?_; (case hd => rfl); (case hg => rfl); (case hr => first | (go_simp; done) | (go_simp; rfl)); intro gb120 hg w17 hbox hb; have n0_ := Aside0.mk (below_step (by repeat (first | (with_reducible first | exact HB.out | apply below_alloc | apply pw_below_drewN | apply below_drew1) | exact HB.out)) hb); have n1_ := Aside0.mk (hbox); have n2_ := Aside0.mk ((by rw [hg]; exact (below_size (by repeat (first | (with_reducible first | exact HB.out | apply below_alloc | apply pw_below_drewN | apply below_drew1) | exact HB.out))) : w.heap.size ≤ gb120)); have n3_ := Aside0.mk ((by rw [hg]; exact (below_size (by repeat (first | (with_reducible first | exact HB.out | apply below_alloc | apply pw_below_drewN | apply below_drew1) | exact HB.out))) : w.heap.size ≤ gb120)); clear HB; have HB := n0_; have BK120 := n1_; have GW120 := n2_; have GE120 := n3_; clear n0_ n1_ n2_ n3_; clear hb hbox hg) | ((with_reducible refine gate_dst (N := 3) rfl ?_); refine box_event ?hg (N := 3) ?hd (cs := #[.slice A1_0 l1_0.length c1_0, .slice A1_1 l1_1.length c1_1, .int .i64 a1_2]) (t := 26) ?hr ?_; (case hd => rfl); (case hg => rfl); (case hr => first | (go_simp; done) | (go_simp; rfl)); intro gb121 hg w18 hbox hb; have n0_ := Aside0.mk (blk_below (g := gb120) (o := .cells #[.slice A0_0 l0_0.length c0_0, .slice A0_1 l0_1.length c0_1, .int .i64 a0_2] 26 (0, 0)) (by (with_reducible repeat (first | refine blk_drewN ?_ _ | refine blk_drew ?_ | refine blk_alloc ?_ _)); exact BK120.out) hb); have n1_ := Aside0.mk (below_step (by repeat (first | (with_reducible first | exact HB.out | apply below_alloc | apply pw_below_drewN | apply below_drew1 | refine below_set ?_ GE120.out) | exact HB.out)) hb); have n2_ := Aside0.mk (hbox); have n3_ := Aside0.mk ((by rw [hg]; exact (below_size (by repeat (first | (with_reducible first | exact HB.out | apply below_alloc | apply pw_below_drewN | apply below_drew1 | refine below_set ?_ GE120.out) | exact HB.out))) : w.heap.size ≤ gb121)); have n4_ := Aside0.mk ((by rw [hg]; exact (below_size (by repeat (first | (with_reducible first | exact HB.out | apply below_alloc | apply pw_below_drewN | apply below_drew1 | refine below_set ?_ GE120.out) | exact HB.out))) : w.heap.size ≤ gb121)); have n5_ := Aside0.mk ((by rw [hg]; exact Nat.ne_of_lt (blk_lt (g := gb120) (o := .cells #[.slice A0_0 l0_0.length c0_0, .slice A0_1 l0_1.length c0_1, .int .i64 a0_2] 26 (0, 0)) (by (with_reducible repeat (first | refine blk_drewN ?_ _ | refine blk_drew ?_ | refine blk_alloc ?_ _)); exact BK120.out)) : gb120 ≠ gb121)); have n6_ := Aside0.mk ((by rw [hg]; exact Nat.ne_of_gt (blk_lt (g := gb120) (o := .cells #[.slice A0_0 l0_0.length c0_0, .slice A0_1 l0_1.length c0_1, .int .i64 a0_2] 26 (0, 0)) (by (with_reducible repeat (first | refine blk_drewN ?_ _ | refine blk_drew ?_ | refine blk_alloc ?_ _)); exact BK120.out)) : gb121 ≠ gb120)); clear BK120; clear HB; have BK120 := n0_; have HB := n1_; have BK121 := n2_; have GW121 := n3_; have GE121 := n4_; have NB120_121 := n5_; have NB121_120 := n6_; clear n0_ n1_ n2_ n3_ n4_ n5_ n6_; clear hb hbox hg; have hnb19 := NB120_121.out; have hnc19 := NB121_120.out; have hcz20_0 : w18.cell? ⟨gb120, 0, none⟩ = some (.slice A0_0 l0_0.length c0_0) := (blk_cell BK120.out 0).trans rfl; have hcz20_1 : w18.cell? ⟨gb120, 1, none⟩ = some (.slice A0_1 l0_1.length c0_1) := (blk_cell BK120.out 1).trans rfl; have hcz20_2 : w18.cell? ⟨gb120, 2, none⟩ = some (.int .i64 a0_2) := (blk_cell BK120.out 2).trans rfl; have hfz20_0 := blk_frozen BK120.out 0; have hfz20_1 := blk_frozen BK120.out 1; have hfz20_2 := blk_frozen BK120.out 2; have hcz21_0 : w18.cell? ⟨gb121, 0, none⟩ = some (.slice A1_0 l1_0.length c1_0) := (blk_cell BK121.out 0).trans rfl; have hcz21_1 : w18.cell? ⟨gb121, 1, none⟩ = some (.slice A1_1 l1_1.length c1_1) := (blk_cell BK121.out 1).trans rfl; have hcz21_2 : w18.cell? ⟨gb121, 2, none⟩ = some (.int .i64 a1_2) := (blk_cell BK121.out 2).trans rfl; have hfz21_0 := blk_frozen BK121.out 0; have hfz21_1 := blk_frozen BK121.out 1; have hfz21_2 := blk_frozen BK121.out 2) | ((with_reducible refine gate_callee (f := 27) rfl ?_); refine goesL_ (some 11) rfl rfl Try.func27 (by kernel_rfl) rfl #[.slice A0_0 l0_0.length c0_0, .slice A1_0 l1_0.length c1_0] rfl (by (try simp only [List.map_toArray, List.map_cons, List.map_nil]); first | done | rfl | (simp only [List.length_drop, List.length_take]; rfl)) ?_; (with_reducible refine (malthouseref14_Ints.calls k _ _ l0_0 _ _ l1_0 false _ ?side1 ?side2 ?side3 ?side4 A3.out).mono ?_); (case side1 => repeat (first | exact (Kd.C_below HR0_0.out HB.out) | (with_reducible refine Kd.C_alloc ?_ _) | (with_reducible refine Kd.C_drewN ?_ _) | (with_reducible refine Kd.C_drew ?_))); (case side2 => exact HC0_0.out); (case side3 => repeat (first | exact (Kd.C_below HR1_0.out HB.out) | (with_reducible refine Kd.C_alloc ?_ _) | (with_reducible refine Kd.C_drewN ?_ _) | (with_reducible refine Kd.C_drew ?_))); (case side4 => exact HC1_0.out); rintro e w' ⟨rfl, ⟨nd, rfl⟩⟩; refine ⟨_, rfl, ?_⟩) | ((with_reducible refine gate_callee (f := 19) rfl ?_); refine goesL_ (some 16) rfl rfl Try.func19 (by kernel_rfl) rfl #[.slice A0_1 l0_1.length c0_1, .slice A1_1 l1_1.length c1_1] rfl (by (try simp only [List.map_toArray, List.map_cons, List.map_nil]); first | done | rfl | (simp only [List.length_drop, List.length_take]; rfl)) ?_; (with_reducible refine (malthouseref14_Wishes.calls k _ _ l0_1 _ _ l1_1 t123 _ ?side1 ?side2 ?side3 ?side4 A4.out).mono ?_); (case side1 => repeat (first | exact (Kd.C_below HR0_1.out (by repeat (first | (with_reducible first | exact HB.out | apply below_alloc | apply pw_below_drewN | apply below_drew1 | refine below_set ?_ GE120.out | refine below_set ?_ GE121.out) | exact HB.out))) | (with_reducible refine Kd.C_alloc ?_ _) | (with_reducible refine Kd.C_drewN ?_ _) | (with_reducible refine Kd.C_drew ?_))); (case side2 => exact HC0_1.out); (case side3 => repeat (first | exact (Kd.C_below HR1_1.out (by repeat (first | (with_reducible first | exact HB.out | apply below_alloc | apply pw_below_drewN | apply below_drew1 | refine below_set ?_ GE120.out | refine below_set ?_ GE121.out) | exact HB.out))) | (with_reducible refine Kd.C_alloc ?_ _) | (with_reducible refine Kd.C_drewN ?_ _) | (with_reducible refine Kd.C_drew ?_))); (case side4 => exact HC1_1.out); rintro e w' ⟨rfl, ⟨nd, rfl⟩⟩; refine ⟨_, rfl, ?_⟩))
    go_ret
    exact ⟨by first | rfl | (simp [errW_none, errW_some] <;> rfl) | (simp [*, errW_none, errW_some] <;> rfl), by repeat (first | (with_reducible first | exact HB.out | apply below_alloc | apply pw_below_drewN | apply below_drew1 | refine below_set ?_ GE120.out | refine below_set ?_ GE121.out) | exact HB.out)⟩
def arb_batch.f (a0 : Int) : Option (Bool) := if a0 ≥ 1 then (some (decide (a0 ≤ 1099511627776))) else (some false)
set_option maxHeartbeats 8000000 in
set_option maxRecDepth 100000 in
theorem arb_batch.calls (a0 : Int) (r : Bool) (w : World) (h : arb_batch.f a0 = some r) :
    Calls Try.prog 32 #[.int .i64 a0] w fun e w' => e = .returned (.bool r) ∧ Drawn0 w w' := by
  have H : (if a0 ≥ 1 then (some (decide (a0 ≤ 1099511627776))) else (some false)) = some r := h
  clear h
  by_cases c2 : a0 ≥ 1
  · rw [if_pos c2] at H
    have c2b0 : decide (1 ≤ a0) = true := decide_eq_true c2
    clear c2
    obtain rfl := Option.some.inj H
    go_enter Try.func32, Try.ntmps32
    go_wp2
    go_ret
    exact ⟨by first | rfl | (simp; done) | (simp [*]; done), by repeat (first | exact Drawn0.refl _ | apply Drawn0.step)⟩
  · rw [if_neg c2] at H
    have c2b0 : decide (1 ≤ a0) = false := decide_eq_false c2
    clear c2
    obtain rfl := Option.some.inj H
    go_enter Try.func32, Try.ntmps32
    go_wp2
    go_ret
    exact ⟨by first | rfl | (simp; done) | (simp [*]; done), by repeat (first | exact Drawn0.refl _ | apply Drawn0.step)⟩
def arb_rising.l0 : Nat → List Int → Int → List Int → Int → Int → Option (Bool)
  | 0, _, _, _, _, _ => none
  | k + 1, x0, x1, x7, x8, x9 => if x9 < x8 then (if 0 ≤ x9 then (if x9 < (x7.length : Int) then (if (rd x7 x9) < 0 then (some false) else (if (rd x7 x9) ≥ x1 then (some false) else (if x9 > 0 then (if 0 ≤ (wrap64 (x9 - 1)) then (if (wrap64 (x9 - 1)) < (x0.length : Int) then (if (rd x0 (wrap64 (x9 - 1))) ≥ (rd x7 x9) then (some false) else (arb_rising.l0 k x0 x1 x7 x8 (wrap64 (x9 + 1)))) else (none)) else (none)) else (arb_rising.l0 k x0 x1 x7 x8 (wrap64 (x9 + 1)))))) else (none)) else (none)) else (some (decide ((x0.length : Int) > 0)))
def arb_rising.f (k : Nat) (l0 : List Int) (a1 : Int) : Option (Bool) := arb_rising.l0 k l0 a1 l0 (l0.length : Int) 0
set_option maxHeartbeats 8000000 in
set_option maxRecDepth 100000 in
theorem arb_rising.calls (k : Nat) (A0 : Option Addr) (c0 : Nat) (l0 : List Int) (a1 : Int) (r : Bool) (w : World) (hr0 : Kd.C (Kd.int .i64) w A0 l0.length l0) (hc0 : l0.length ≤ c0) (h : arb_rising.f k l0 a1 = some r) :
    Calls Try.prog 33 #[.slice A0 l0.length c0, .int .i64 a1] w fun e w' => e = .returned (.bool r) ∧ Drawn0 w w' := by
  have HR0 := Aside0.mk hr0
  have HC0 := Aside0.mk hc0
  clear hr0 hc0
  have H : (arb_rising.l0 k l0 a1 l0 (l0.length : Int) 0) = some r := h
  clear h
  have H' := Aside0.mk H
  clear H
  go_enter Try.func33, Try.ntmps33
  go_wp2
  go_loopg [9] k (fun kq v9 w' => ∃ (x9_1 : Int), v9 = .int .i64 x9_1 ∧ Aside0 (arb_rising.l0 kq l0 a1 l0 (l0.length : Int) x9_1 = some r) ∧ Aside0 (kq ≤ k) ∧ Drawn0 w w')
  case atStart => exact ⟨(0), (by first | rfl | (simp; done) | (simp [*]; done)), H', ⟨Nat.le_refl _⟩, by repeat (first | exact Drawn0.refl _ | apply Drawn0.step)⟩
  case round =>
    clear H'
    try clear p2
    obtain ⟨x9_1, rfl, HA, HK1, ⟨m1, rfl⟩⟩ := hrel
    cases gk with
    | zero => exact absurd HA.out (by simp [arb_rising.l0])
    | succ k1 =>
      have H := HA.out
      clear HA
      simp only [arb_rising.l0] at H
      by_cases c3 : x9_1 < (l0.length : Int)
      · rw [if_pos c3] at H
        have c3b0 : decide (x9_1 < (l0.length : Int)) = true := decide_eq_true c3
        clear c3
        by_cases c4 : 0 ≤ x9_1
        · rw [if_pos c4] at H
          have c4b0 : decide (0 ≤ x9_1) = true := decide_eq_true c4
          clear c4
          by_cases c5 : x9_1 < (l0.length : Int)
          · rw [if_pos c5] at H
            have c5b0 : decide (x9_1 < (l0.length : Int)) = true := decide_eq_true c5
            clear c5
            by_cases c6 : (rd l0 x9_1) < 0
            · rw [if_pos c6] at H
              have c6b0 : decide ((rd l0 x9_1) < 0) = true := decide_eq_true c6
              clear c6
              obtain rfl := Option.some.inj H
              have p124 : 0 ≤ (x9_1 : Int) := of_decide_eq_true (by first | (with_reducible assumption) | assumption)
              have q124 : x9_1 < (l0.length : Int) := of_decide_eq_true (by first | (with_reducible assumption) | assumption)
              obtain ⟨ad124, e124, hx124_0⟩ := Kd.at_int HR0.out x9_1 p124 q124
              cases e124
              replace p124 := eq_true p124
              replace q124 := eq_true q124
              go_wp2
              go_ret
              exact ⟨by first | rfl | (simp; done) | (simp [*]; done), by repeat (first | exact Drawn0.refl _ | apply Drawn0.step)⟩
            · rw [if_neg c6] at H
              have c6b0 : decide ((rd l0 x9_1) < 0) = false := decide_eq_false c6
              clear c6
              by_cases c7 : (rd l0 x9_1) ≥ a1
              · rw [if_pos c7] at H
                have c7b0 : decide (a1 ≤ (rd l0 x9_1)) = true := decide_eq_true c7
                clear c7
                obtain rfl := Option.some.inj H
                have p124 : 0 ≤ (x9_1 : Int) := of_decide_eq_true (by first | (with_reducible assumption) | assumption)
                have q124 : x9_1 < (l0.length : Int) := of_decide_eq_true (by first | (with_reducible assumption) | assumption)
                obtain ⟨ad124, e124, hx124_0⟩ := Kd.at_int HR0.out x9_1 p124 q124
                cases e124
                replace p124 := eq_true p124
                replace q124 := eq_true q124
                go_wp2
                go_ret
                exact ⟨by first | rfl | (simp; done) | (simp [*]; done), by repeat (first | exact Drawn0.refl _ | apply Drawn0.step)⟩
              · rw [if_neg c7] at H
                have c7b0 : decide (a1 ≤ (rd l0 x9_1)) = false := decide_eq_false c7
                clear c7
                by_cases c8 : x9_1 > 0
                · rw [if_pos c8] at H
                  have c8b0 : decide (0 < x9_1) = true := decide_eq_true c8
                  clear c8
                  obtain ⟨ji9, hji9⟩ : ∃ j_ : Int, (wrap64 (x9_1 - 1)) = j_ := ⟨_, rfl⟩
                  replace H : (if 0 ≤ (ji9) then (if (ji9) < (l0.length : Int) then (if (rd l0 (ji9)) ≥ (rd l0 x9_1) then (some false) else (arb_rising.l0 k1 l0 a1 l0 (l0.length : Int) (wrap64 (x9_1 + 1)))) else (none)) else (none)) = some r := by first | (rw [hji9] at H; exact H) | (simp only [hji9] at H ⊢; exact H)
                  have hji9w : (IntKind.i64.wrap (x9_1 - 1)) = ji9 := (i64_w _).trans hji9
                  by_cases c10 : 0 ≤ (ji9)
                  · rw [if_pos c10] at H
                    have c10b0 : decide (0 ≤ (ji9)) = true := decide_eq_true c10
                    clear c10
                    by_cases c11 : (ji9) < (l0.length : Int)
                    · rw [if_pos c11] at H
                      have c11b0 : decide ((ji9) < (l0.length : Int)) = true := decide_eq_true c11
                      clear c11
                      by_cases c12 : (rd l0 (ji9)) ≥ (rd l0 x9_1)
                      · rw [if_pos c12] at H
                        have c12b0 : decide ((rd l0 x9_1) ≤ (rd l0 (ji9))) = true := decide_eq_true c12
                        clear c12
                        obtain rfl := Option.some.inj H
                        have p124 : 0 ≤ (x9_1 : Int) := of_decide_eq_true (by first | (with_reducible assumption) | assumption)
                        have q124 : x9_1 < (l0.length : Int) := of_decide_eq_true (by first | (with_reducible assumption) | assumption)
                        obtain ⟨ad124, e124, hx124_0⟩ := Kd.at_int HR0.out x9_1 p124 q124
                        cases e124
                        replace p124 := eq_true p124
                        replace q124 := eq_true q124
                        have p125 : 0 ≤ ((ji9) : Int) := of_decide_eq_true (by first | (with_reducible assumption) | assumption)
                        have q125 : (ji9) < (l0.length : Int) := of_decide_eq_true (by first | (with_reducible assumption) | assumption)
                        obtain ⟨ad125, e125, hx125_0⟩ := Kd.at_int HR0.out (ji9) p125 q125
                        obtain rfl : ad124 = ad125 := (by injection e125)
                        replace p125 := eq_true p125
                        replace q125 := eq_true q125
                        go_wp2
                        go_ret
                        exact ⟨by first | rfl | (simp; done) | (simp only [← hji9] <;> (first | rfl | simp)) | (simp [*]; done), by repeat (first | exact Drawn0.refl _ | apply Drawn0.step)⟩
                      · rw [if_neg c12] at H
                        have c12b0 : decide ((rd l0 x9_1) ≤ (rd l0 (ji9))) = false := decide_eq_false c12
                        clear c12
                        have H' := Aside0.mk H
                        clear H
                        have p124 : 0 ≤ (x9_1 : Int) := of_decide_eq_true (by first | (with_reducible assumption) | assumption)
                        have q124 : x9_1 < (l0.length : Int) := of_decide_eq_true (by first | (with_reducible assumption) | assumption)
                        obtain ⟨ad124, e124, hx124_0⟩ := Kd.at_int HR0.out x9_1 p124 q124
                        cases e124
                        replace p124 := eq_true p124
                        replace q124 := eq_true q124
                        have p125 : 0 ≤ ((ji9) : Int) := of_decide_eq_true (by first | (with_reducible assumption) | assumption)
                        have q125 : (ji9) < (l0.length : Int) := of_decide_eq_true (by first | (with_reducible assumption) | assumption)
                        obtain ⟨ad125, e125, hx125_0⟩ := Kd.at_int HR0.out (ji9) p125 q125
                        obtain rfl : ad124 = ad125 := (by injection e125)
                        replace p125 := eq_true p125
                        replace q125 := eq_true q125
                        go_wp2
                        go_roundg k1
                        case measure => have := HK1.out; omega
                        case rel => exact ⟨(wrap64 (x9_1 + 1)), (by first | rfl | (simp; done) | (simp [*]; done)), H', ⟨by have := HK1.out; omega⟩, by repeat (first | exact Drawn0.refl _ | apply Drawn0.step)⟩
                    · rw [if_neg c11] at H
                      exact absurd H (by simp)
                  · rw [if_neg c10] at H
                    exact absurd H (by simp)
                · rw [if_neg c8] at H
                  have c8b0 : decide (0 < x9_1) = false := decide_eq_false c8
                  clear c8
                  have H' := Aside0.mk H
                  clear H
                  have p124 : 0 ≤ (x9_1 : Int) := of_decide_eq_true (by first | (with_reducible assumption) | assumption)
                  have q124 : x9_1 < (l0.length : Int) := of_decide_eq_true (by first | (with_reducible assumption) | assumption)
                  obtain ⟨ad124, e124, hx124_0⟩ := Kd.at_int HR0.out x9_1 p124 q124
                  cases e124
                  replace p124 := eq_true p124
                  replace q124 := eq_true q124
                  go_wp2
                  go_roundg k1
                  case measure => have := HK1.out; omega
                  case rel => exact ⟨(wrap64 (x9_1 + 1)), (by first | rfl | (simp; done) | (simp [*]; done)), H', ⟨by have := HK1.out; omega⟩, by repeat (first | exact Drawn0.refl _ | apply Drawn0.step)⟩
          · rw [if_neg c5] at H
            exact absurd H (by simp)
        · rw [if_neg c4] at H
          exact absurd H (by simp)
      · rw [if_neg c3] at H
        have c3b0 : decide (x9_1 < (l0.length : Int)) = false := decide_eq_false c3
        clear c3
        obtain rfl := Option.some.inj H
        go_wp2
        go_ret
        exact ⟨by first | rfl | (simp; done) | (simp [*]; done), by repeat (first | exact Drawn0.refl _ | apply Drawn0.step)⟩
end Go.Proofs.Ytgmcmhlomfeldaa.Print
/-! ### Print2 -/
namespace Go.Proofs.Ytgmcmhlomfeldaa.Print
open Go.RowKit Go.Proofs.YtgmcmhlomfeldaaW.PrintWords Go.Proofs.YtgmcmhlomfeldaaW.PrintLast Go.Proofs.YtgmcmhlomfeldaaW.PrintMore
set_option linter.unusedVariables false
set_option linter.unusedSimpArgs false
def arb_above.l0 : Nat → List Int → Int → Int → Int → Option (Bool)
  | 0, _, _, _, _ => none
  | k + 1, x0, x1, x2, x7 => if x7 ≥ x2 then (if 0 ≤ x7 then (if x7 < (x0.length : Int) then (if (rd x0 x7) = x1 then (some true) else (arb_above.l0 k x0 x1 x2 (wrap64 (x7 - 1)))) else (none)) else (none)) else (some false)
def arb_above.f (k : Nat) (l0 : List Int) (a1 : Int) (a2 : Int) : Option (Bool) := arb_above.l0 k l0 a1 a2 (wrap64 ((l0.length : Int) - 1))
set_option maxHeartbeats 8000000 in
set_option maxRecDepth 100000 in
theorem arb_above.calls (k : Nat) (A0 : Option Addr) (c0 : Nat) (l0 : List Int) (a1 : Int) (a2 : Int) (r : Bool) (w : World) (hr0 : Kd.C (Kd.int .i64) w A0 l0.length l0) (hc0 : l0.length ≤ c0) (h : arb_above.f k l0 a1 a2 = some r) :
    Calls Try.prog 34 #[.slice A0 l0.length c0, .int .i64 a1, .int .i64 a2] w fun e w' => e = .returned (.bool r) ∧ Drawn0 w w' := by
  have HR0 := Aside0.mk hr0
  have HC0 := Aside0.mk hc0
  clear hr0 hc0
  have H : (arb_above.l0 k l0 a1 a2 (wrap64 ((l0.length : Int) - 1))) = some r := h
  clear h
  have H' := Aside0.mk H
  clear H
  go_enter Try.func34, Try.ntmps34
  go_wp2
  go_loopg [7] k (fun kq v7 w' => ∃ (x7_1 : Int), v7 = .int .i64 x7_1 ∧ Aside0 (arb_above.l0 kq l0 a1 a2 x7_1 = some r) ∧ Aside0 (kq ≤ k) ∧ Drawn0 w w')
  case atStart => exact ⟨(wrap64 ((l0.length : Int) - 1)), (by first | rfl | (simp; done) | (simp [*]; done)), H', ⟨Nat.le_refl _⟩, by repeat (first | exact Drawn0.refl _ | apply Drawn0.step)⟩
  case round =>
    clear H'
    try clear p2
    try clear c3
    obtain ⟨x7_1, rfl, HA, HK1, ⟨m1, rfl⟩⟩ := hrel
    cases gk with
    | zero => exact absurd HA.out (by simp [arb_above.l0])
    | succ k1 =>
      have H := HA.out
      clear HA
      simp only [arb_above.l0] at H
      by_cases c4 : x7_1 ≥ a2
      · rw [if_pos c4] at H
        have c4b0 : decide (a2 ≤ x7_1) = true := decide_eq_true c4
        clear c4
        by_cases c5 : 0 ≤ x7_1
        · rw [if_pos c5] at H
          have c5b0 : decide (0 ≤ x7_1) = true := decide_eq_true c5
          clear c5
          by_cases c6 : x7_1 < (l0.length : Int)
          · rw [if_pos c6] at H
            have c6b0 : decide (x7_1 < (l0.length : Int)) = true := decide_eq_true c6
            clear c6
            by_cases c7 : (rd l0 x7_1) = a1
            · rw [if_pos c7] at H
              have c7b0 : ((rd l0 x7_1) == a1) = true := beq_iff_eq.mpr c7
              have c7b1 : ((rd l0 x7_1) != a1) = false := bne_eq_false_iff_eq.mpr c7
              clear c7
              obtain rfl := Option.some.inj H
              have p126 : 0 ≤ (x7_1 : Int) := of_decide_eq_true (by first | (with_reducible assumption) | assumption)
              have q126 : x7_1 < (l0.length : Int) := of_decide_eq_true (by first | (with_reducible assumption) | assumption)
              obtain ⟨ad126, e126, hx126_0⟩ := Kd.at_int HR0.out x7_1 p126 q126
              cases e126
              replace p126 := eq_true p126
              replace q126 := eq_true q126
              go_wp2
              go_ret
              exact ⟨by first | rfl | (simp; done) | (simp [*]; done), by repeat (first | exact Drawn0.refl _ | apply Drawn0.step)⟩
            · rw [if_neg c7] at H
              have c7b0 : ((rd l0 x7_1) == a1) = false := beq_eq_false_iff_ne.mpr c7
              have c7b1 : ((rd l0 x7_1) != a1) = true := bne_iff_ne.mpr c7
              have H' := Aside0.mk H
              clear H
              have p126 : 0 ≤ (x7_1 : Int) := of_decide_eq_true (by first | (with_reducible assumption) | assumption)
              have q126 : x7_1 < (l0.length : Int) := of_decide_eq_true (by first | (with_reducible assumption) | assumption)
              obtain ⟨ad126, e126, hx126_0⟩ := Kd.at_int HR0.out x7_1 p126 q126
              cases e126
              replace p126 := eq_true p126
              replace q126 := eq_true q126
              go_wp2
              go_roundg k1
              case measure => have := HK1.out; omega
              case rel => exact ⟨(wrap64 (x7_1 - 1)), (by first | rfl | (simp; done) | (simp [*]; done)), H', ⟨by have := HK1.out; omega⟩, by repeat (first | exact Drawn0.refl _ | apply Drawn0.step)⟩
          · rw [if_neg c6] at H
            exact absurd H (by simp)
        · rw [if_neg c5] at H
          exact absurd H (by simp)
      · rw [if_neg c4] at H
        have c4b0 : decide (a2 ≤ x7_1) = false := decide_eq_false c4
        clear c4
        obtain rfl := Option.some.inj H
        go_wp2
        go_ret
        exact ⟨by first | rfl | (simp; done) | (simp [*]; done), by repeat (first | exact Drawn0.refl _ | apply Drawn0.step)⟩
end Go.Proofs.Ytgmcmhlomfeldaa.Print
/-! ### EWaits -/
namespace Go.Proofs.Ytgmcmhlomfeldaa.Print
open Go.RowKit Go.Proofs.YtgmcmhlomfeldaaW.PrintWords Go.Proofs.YtgmcmhlomfeldaaW.PrintLast Go.Proofs.YtgmcmhlomfeldaaW.PrintMore
set_option linter.unusedSimpArgs false
set_option linter.unusedVariables false
/-- Where from a place on the first element is of which something holds. -/
def firstFrom {α : Type} (p : α → Bool) : Nat → List α → Int
  | _, [] => -1
  | i, x :: l => if p x then (i : Int) else firstFrom p (i + 1) l
theorem firstFrom_drop {α : Type} (p : α → Bool) (l : List α) (k : Nat) (hk : k < l.length) : firstFrom p k (l.drop k) = if p l[k] then (k : Int) else firstFrom p (k + 1) (l.drop (k + 1)) := by
  rw [List.drop_eq_getElem_cons hk]
  rfl
def waitIs (b : Int) (t : S37) : Bool := t.f0 == b
def arb_waits.f (l0 : List S37) (a1 : Int) : Option Int := if l0.length ≤ 140737488355328 then some (firstFrom (waitIs a1) 0 l0) else none
theorem wait_clo (t : S37) (A : Option Addr) (c : Nat) (a : Int) (g : Nat) (w : World) (hg : w.cell? ⟨g, 0, none⟩ = some (.int .i64 a)) :
    Calls Try.prog 51 #[.agg #[.int .i64 t.f0, .int .i64 t.f1, .slice A t.f2.length c, .int .i64 t.f3], .pointer (some ⟨g, 0, none⟩)] w fun e w' => e = .returned (.bool (waitIs a t)) ∧ Below w.heap.size w w' := by
  obtain ⟨b, hb⟩ : ∃ b, b = waitIs a t := ⟨_, rfl⟩
  have HB := Lib.hid hb
  rw [← hb]
  clear hb
  have hlt := World.block_lt_of_cell? w _ hg
  have hg2 : (w.alloc (.cells #[.int .i64 t.f0, .int .i64 t.f1, .slice A t.f2.length c, .int .i64 t.f3] 37)).cell? ⟨g, 0, none⟩ = some (.int .i64 a) := by
    exact (((Below.refl w.heap.size w).alloc (Nat.le_refl _) _).cell hlt).trans hg
  clear hg
  go_enter Try.func51, Try.ntmps51
  go_wp2
  go_ret
  exact ⟨by rw [HB.out]; rfl, (Below.refl _ _).alloc (Nat.le_refl _) _⟩
set_option maxHeartbeats 8000000 in
set_option maxRecDepth 100000 in
theorem index_any (A0 : Option Addr) (c0 : Nat) (l0 : List S37) (a : Int) (g : Nat) (w : World) (hr : Kd.C k37 w A0 l0.length l0) (hl : l0.length ≤ 140737488355328) (hg : w.cell? ⟨g, 0, none⟩ = some (.int .i64 a)) :
    Calls Try.prog 50 #[.slice A0 l0.length c0, .func (.func 51) #[] #[.pointer (some ⟨g, 0, none⟩)]] w fun e w' => e = .returned (.int .i64 (firstFrom (waitIs a) 0 l0)) ∧ Below w.heap.size w w' := by
  obtain ⟨V, hV⟩ : ∃ V, V = firstFrom (waitIs a) 0 l0 := ⟨_, rfl⟩
  rw [← hV]
  have HV := Lib.hid hV
  have HR := Lib.hid hr
  have HG := Lib.hid hg
  have hlt := World.block_lt_of_cell? w _ hg
  have HLT := Lib.hid (show g < w.heap.size from hlt)
  clear hV hr hg hlt
  have hu := Try.underlying37
  go_enter Try.func50, Try.ntmps50
  go_wp2
  go_loopw [5, 8] (fun _ i wr => ∃ k : Nat, k ≤ l0.length ∧ i = .int .i64 k ∧ Hid (V = firstFrom (waitIs a) k (l0.drop k)) ∧ Hid (Below w.heap.size w wr)) (fun _ i _ => l0.length - (intOf i).toNat)
  case atStart => exact ⟨0, by omega, rfl, HV, Below.refl _ _⟩
  case round =>
    obtain ⟨k, hk, rfl, hv, hb⟩ := hrel
    by_cases hlt2 : k < l0.length
    · have hlt' : (k : Int) < l0.length := by omega
      have hk0 : (0 : Int) ≤ k := by omega
      have hv' := hv.out
      rw [firstFrom_drop _ _ _ hlt2] at hv'
      obtain ⟨ad, cs, rfl, _, hK, hcs⟩ := Kd.C_cells (Kd.C_below HR.out hb.out) k hlt2
      obtain ⟨A2, c2, rfl, hl2, hk2⟩ := k37_open hK
      have HL2 := Lib.hid hl2
      have HC := Lib.hid (show CellsAt wr (ad.add (k * 4)) _ from hcs)
      have HGG := Lib.hid ((hb.out.cell HLT.out).trans HG.out)
      clear hcs hK hl2 hk2
      generalize l0[k] = t at *
      have HV2 := Lib.hid hv'
      clear hv hv'
      go_wp2_with (first
        | (with_reducible refine wpList_load_at rfl 37 (.tmp 14) rfl (ad.add (k * 4)) rfl _ _ HC.out Try.underlying37 rfl (by kernel_rfl) ?_)
        | (go_at_call 51; refine (wait_clo t A2 c2 a g wr HGG.out).mono ?_; rintro e w1 ⟨rfl, hb1⟩; have HB1 := Lib.hid (below_then hb.out hb.out.size hb1); clear hb1))
      · rename_i ht
        go_ret
        exact ⟨by rw [HV2.out, if_pos ht]; rfl, HB1.out⟩
      · rename_i ht
        go_roundw
        case rel => exact ⟨k + 1, by omega, by go_num, Lib.hid (by rw [HV2.out, if_neg (by rw [ht]; simp)]), HB1⟩
        case measure => simp [intOf]; omega
    · have hlt' : (l0.length : Int) ≤ k := by omega
      have hv' := hv.out
      rw [List.drop_eq_nil_of_le (by omega)] at hv'
      have HV2 := Lib.hid hv'
      clear hv hv'
      go_wp2
      go_ret
      exact ⟨by rw [HV2.out]; rfl, hb.out⟩
set_option maxHeartbeats 8000000 in
set_option maxRecDepth 100000 in
theorem arb_waits.calls (A0 : Option Addr) (c0 : Nat) (l0 : List S37) (a1 : Int) (r : Int) (w : World) (hr0 : Kd.C k37 w A0 l0.length l0) (hc0 : l0.length ≤ c0) (h : arb_waits.f l0 a1 = some r) :
    Calls Try.prog 35 #[.slice A0 l0.length c0, .int .i64 a1] w fun e w' => e = .returned (.int .i64 r) ∧ Below w.heap.size w w' := by
  unfold arb_waits.f at h
  split at h
  case isFalse => cases h
  rename_i hl
  obtain rfl := Option.some.inj h
  clear h
  obtain ⟨V, hV⟩ : ∃ V, V = firstFrom (waitIs a1) 0 l0 := ⟨_, rfl⟩
  rw [← hV]
  have HV := Lib.hid hV
  have HR := Lib.hid (Kd.C_alloc hr0 (.cells #[.int .i64 a1] 3))
  have HG := Lib.hid (show (w.alloc (.cells #[.int .i64 a1] 3)).cell? ⟨w.heap.size, 0, none⟩ = some (.int .i64 a1) from (cell_of_row _ _ 0 _ _ _ (heap_alloc_new w _)).trans rfl)
  have hmf : ∀ (fn : Fn) (first cap : Array Value) (w : World), (Instr.makeFunc fn first cap).run Try.prog w = .ok (.func fn first cap) w := fun _ _ _ _ => rfl
  clear hV hr0
  go_enter Try.func35, Try.ntmps35
  go_wp2_with (go_at_call 50; refine (index_any A0 c0 l0 a1 w.heap.size _ HR.out hl HG.out).mono ?_; rintro e w1 ⟨rfl, hb1⟩; have HB1 := Lib.hid (below_then ((Below.refl w.heap.size w).alloc (Nat.le_refl _) (.cells #[.int .i64 a1] 3)) (by simp) hb1); clear hb1)
  go_ret
  exact ⟨by rw [HV.out]; rfl, HB1.out⟩
end Go.Proofs.Ytgmcmhlomfeldaa.Print
