/-
  The base of this session's proofs: frames between worlds, readings of cells, laws for whole arrays. No program in sight.
-/
import Derived.WalkKit
import Derived.Laws.CopyOwn
import Derived.Deep.QuietTactic
import Derived.BigQuiet
import Derived.Lib.Hide
namespace Go.Proofs.Ytlngfelpmebemaa
open Go.RowKit

/-- Of the blocks that were there only those of S may have changed. -/
structure Only (S : List Nat) (w w' : World) : Prop where
  os : w'.os = w.os
  tape : w'.tape = w.tape
  output : w'.output = w.output
  size : w.heap.size ≤ w'.heap.size
  block : ∀ k, k < w.heap.size → k ∉ S → w'.heap[k]? = w.heap[k]?
theorem Only.refl (S : List Nat) (w : World) : Only S w w := ⟨rfl, rfl, rfl, Nat.le_refl _, fun _ _ _ => rfl⟩
theorem Only.trans {S : List Nat} {a b c : World} (h : Only S a b) (k : Only S b c) : Only S a c :=
  ⟨k.os.trans h.os, k.tape.trans h.tape, k.output.trans h.output, Nat.le_trans h.size k.size,
   fun i hi hn => (k.block i (Nat.lt_of_lt_of_le hi h.size) hn).trans (h.block i hi hn)⟩
/-- What is written newly in between does not count. -/
theorem Only.then {S T : List Nat} {a b c : World} (h : Only S a b) (k : Only T b c) (hT : ∀ i, i ∈ T → i ∈ S ∨ a.heap.size ≤ i) : Only S a c :=
  ⟨k.os.trans h.os, k.tape.trans h.tape, k.output.trans h.output, Nat.le_trans h.size k.size,
   fun i hi hn => (k.block i (Nat.lt_of_lt_of_le hi h.size) (fun ht => (hT i ht).elim hn (by omega))).trans (h.block i hi hn)⟩
theorem Only.mono {S T : List Nat} {a b : World} (h : Only S a b) (hT : ∀ i, i ∈ S → i ∈ T) : Only T a b :=
  ⟨h.os, h.tape, h.output, h.size, fun i hi hn => h.block i hi (fun hs => hn (hT i hs))⟩
theorem Only.drew {S : List Nat} {a w : World} (h : Only S a w) : Only S a w.drew := ⟨h.os, h.tape, h.output, h.size, h.block⟩
theorem Only.drewN {S : List Nat} {a w : World} (h : Only S a w) (n : Nat) : Only S a (w.drewN n) := ⟨h.os, h.tape, h.output, h.size, h.block⟩
theorem Only.alloc {S : List Nat} {a w : World} (h : Only S a w) (o : Obj) : Only S a (w.alloc o) :=
  h.trans ⟨rfl, rfl, rfl, by simp, fun k hk _ => Below.heap_alloc _ _ _ hk⟩
theorem Only.setCell {S : List Nat} {a w : World} (h : Only S a w) {p : Addr} (hp : p.block ∈ S ∨ a.heap.size ≤ p.block) (u : Value) : Only S a (w.setCell p u) :=
  h.then (T := [p.block]) ⟨rfl, rfl, rfl, by simp [World.setCell], fun k _ hn => Below.heap_setCell _ _ _ _ (by simpa using hn)⟩ (by simpa using hp)
theorem Only.setRow {S : List Nat} {a w : World} (h : Only S a w) {g : Nat} (hp : g ∈ S ∨ a.heap.size ≤ g) (cs : Array Value) : Only S a (w.setRow g cs) :=
  h.then (T := [g]) ⟨rfl, rfl, rfl, by simp [World.setRow], fun k _ hn => setRow_other w g k cs (by simpa using hn)⟩ (by simpa using hp)
theorem Only.grown {S : List Nat} {a w w' : World} {row : Option Nat} (h : Only S a w) (hg : w.grownBy w' row) (hr : ∀ k, row = some k → k ∈ S ∨ a.heap.size ≤ k) : Only S a w' :=
  h.then (T := row.toList) ⟨hg.os, hg.tape, hg.output, hg.size, fun k hk hn => hg.block k hk (fun e => hn (by rw [← e]; simp))⟩ (fun i hi => hr i (by simpa using hi))
theorem Only.below {S : List Nat} {a w : World} (h : Only S a w) {B : Nat} (hB : B ≤ a.heap.size) (hS : ∀ i, i ∈ S → B ≤ i) : Below B a w :=
  ⟨h.os, h.tape, h.output, h.size, fun k hk => h.block k (by omega) (fun hs => by have := hS k hs; omega)⟩
theorem Only.nil_below {a w : World} (h : Only [] a w) : Below a.heap.size a w := h.below (Nat.le_refl _) (by simp)
theorem Only.of_below {a w : World} (h : Below a.heap.size a w) : Only [] a w := ⟨h.os, h.tape, h.output, h.size, fun k hk _ => h.block k hk⟩
theorem Only.heap {S : List Nat} {a w : World} (h : Only S a w) {k : Nat} {o : Obj} (ho : a.heap[k]? = some o) (hk : k ∉ S) : w.heap[k]? = some o :=
  (h.block k (Array.getElem?_eq_some_iff.1 ho).1 hk).trans ho
theorem Only.cell {S : List Nat} {a w : World} (h : Only S a w) {p : Addr} {v : Value} (hc : a.cell? p = some v) (hp : p.block ∉ S) : w.cell? p = some v :=
  (World.cell?_of_block (w := a) (h.block p.block (block_lt_of_cell hc) hp)).trans hc
theorem Only.pop {S : List Nat} {g : Nat} {a w : World} (h : Only (g :: S) a w) (hg : a.heap.size ≤ g) : Only S a w :=
  ⟨h.os, h.tape, h.output, h.size, fun i hi hn => h.block i hi (by simp; exact ⟨by omega, hn⟩)⟩

theorem heap_lt {w : World} {g : Nat} {o : Obj} (h : w.heap[g]? = some o) : g < w.heap.size := (Array.getElem?_eq_some_iff.1 h).1

/-- The cells from an address on hold these values. -/
def CellsAt (w : World) (ad : Addr) (cs : List Value) : Prop := ∀ j v, cs[j]? = some v → w.cell? (ad.add j) = some v
theorem add_block (ad : Addr) (j : Nat) : (ad.add j).block = ad.block := by unfold Addr.add; split <;> rfl
theorem CellsAt.only {S : List Nat} {a w : World} {ad : Addr} {cs : List Value} (h : CellsAt a ad cs) (ho : Only S a w) (hp : ad.block ∉ S) : CellsAt w ad cs :=
  fun j v hj => ho.cell (h j v hj) (by rw [add_block]; exact hp)

/-- A byte as a cell. -/
def bcell (u : UInt8) : Value := .int .u8 u.toNat
def bcells (l : List UInt8) : List Value := l.map bcell
theorem bcells_length (l : List UInt8) : (bcells l).length = l.length := by simp [bcells]
theorem bcells_one (l : List UInt8) : ∀ v ∈ bcells l, v.oneCell' = true := by
  intro v hv
  obtain ⟨u, _, rfl⟩ := List.mem_map.1 hv
  rfl
theorem bcells_get (l : List UInt8) (j : Nat) : (bcells l)[j]? = l[j]?.map bcell := by simp [bcells]

theorem wf_u8 {n : Int} (h : (Lit.int .u8 n).wf = true) : 0 ≤ n ∧ n < 256 := by
  simp only [Lit.wf, Bool.and_eq_true, decide_eq_true_eq] at h
  have h2 : n ≤ 255 := h.2
  exact ⟨h.1, by omega⟩
theorem wf_i64 {n : Int} (h : (Lit.int .i64 n).wf = true) : -9223372036854775808 ≤ n ∧ n ≤ 9223372036854775807 := by
  simp only [Lit.wf, Bool.and_eq_true, decide_eq_true_eq] at h
  exact ⟨h.1, h.2⟩
theorem u8_lo (n : Int) : 0 ≤ IntKind.u8.wrap n := by rw [show IntKind.u8.wrap n = n % 256 from rfl]; omega
theorem u8_hi (n : Int) : IntKind.u8.wrap n < 256 := by rw [show IntKind.u8.wrap n = n % 256 from rfl]; omega
theorem u8_id (n : Int) (h0 : 0 ≤ n) (h1 : n < 256) : IntKind.u8.wrap n = n := by rw [show IntKind.u8.wrap n = n % 256 from rfl]; omega
section laws
variable {P : Program}
theorem run_loadVar_at (w : World) (ty : TypeId) (ad : Addr) (cs : List Value) (d : TypeDesc) (hc : CellsAt w ad cs)
    (hu : P.underlying ty = some d) (hd : (match d with | .struct _ | .array _ _ => true | _ => false) = true) (hi : (P.info? ty).map (·.size) = some cs.length) :
    (loadVar ty ad).run P w = .ok (.agg cs.toArray) w := by
  have hl : (loadCells ad cs.length).run P w = .ok cs.toArray w := run_loadCells_list (P := P) w ad cs hc
  cases hq : P.info? ty with
  | none => simp [hq] at hi
  | some i =>
    have hs : i.size = cs.length := by simpa [hq] using hi
    have hagg : (isAgg ty).run P w = .ok true w := by
      unfold isAgg
      rw [Sem.run_bind, run_underlying hu w]
      cases d <;> simp_all
    simp [loadVar, Sem.run_bind, hagg, sizeOf, typeInfo, hq, hs, hl]
/-- A struct or an array is loaded from wherever it lies. -/
theorem wpList_load_at {ops : Array Oper} {rest : List Oper} {o : Oper} {a : Act} {w : World} {Q : Exit → Act → World → Prop} (hgd : o.guard = none) (ty : TypeId) (x : Operand) (ho : o.op = .load ty x)
    (ad : Addr) (hx : a.eval x = .pointer (some ad)) (cs : List Value) (d : TypeDesc) (hc : CellsAt w ad cs)
    (hu : P.underlying ty = some d) (hd : (match d with | .struct _ | .array _ _ => true | _ => false) = true) (hi : (P.info? ty).map (·.size) = some cs.length)
    (h : wpList P ops Q rest (a.put o.dst (.agg cs.toArray)) w) : wpList P ops Q (o :: rest) a w := by
  refine wpList_plain hgd fun K hK => ?_
  unfold Oper.wp execOp
  simp only [ho, hx, Instr.loadAt, Instr.sureAddr, Sem.run_bind, Sem.run_pure, Result.andThen_ok, run_loadVar_at w ty ad cs d hc hu hd hi]
  exact hK _ _ h
/-- make([]T, n): a new block of so many zero values; the world behind it by a name. -/
theorem wpList_make_new {ops : Array Oper} {rest : List Oper} {o : Oper} {a : Act} {w : World} {Q : Exit → Act → World → Prop} (hg : o.guard = none) (l c : Operand) (t : TypeId) (hop : o.op = Op.makeSlice t l c)
    (e : TypeId) (z : Value) (size bytes : Nat) (h1 : P.underlying t = some (.slice e)) (hinfo : (P.info? e).map (fun i => (i.zero, i.size, i.bytes)) = some (some z, size, bytes))
    (kl kc : IntKind) (L C : Int) (n : Nat) (hl : a.eval l = .int kl L) (hc : a.eval c = .int kc C) (hL : L = (n : Int)) (hC : C = (n : Int)) (b2 : bytes * n ≤ 281474976710656) (b3 : n ≤ 9223372036854775807)
    (hK : ∀ w', Hid (w'.heap[w.heap.size]? = some (.cells (madeCells z.cells (n * size)) e (0, 0))) → Hid (w'.heap.size = w.heap.size + 1) → Only [] w w' → wpList P ops Q rest (a.put o.dst (.slice (some ⟨w.heap.size, 0, none⟩) n n)) w') :
    wpList P ops Q (o :: rest) a w := by
  obtain ⟨i, h2, h3, h4, h5⟩ := info_parts hinfo
  refine wpList_plain hg fun K hK' => ?_
  have hb' : (i.bytes : Int) * (n : Int) ≤ 281474976710656 := by
    have h : ((i.bytes * n : Nat) : Int) ≤ 281474976710656 := by rw [h5]; omega
    rwa [Int.natCast_mul] at h
  have hrun := run_make (P := P) w t e i z h1 h2 h3 kl kc n n (by omega) (Int.le_refl _) hb' (by omega)
  simp only [Int.toNat_natCast] at hrun
  subst hL
  subst hC
  unfold Oper.wp
  simp only [execOp, hop, hl, hc, Sem.run_bind, hrun, Result.andThen]
  rw [h4]
  exact hK' _ _ (hK _ (heap_alloc_new w _) (show _ = _ by simp) ((Only.refl _ _).alloc _))
/-- copy(dst, src), dst a piece of a block that is known whole. -/
theorem wpList_copy_row {ops : Array Oper} {rest : List Oper} {o : Oper} {a : Act} {w : World} {Q : Exit → Act → World → Prop} (hgd : o.guard = none) (d s : Operand) (dT sT : TypeId)
    (ho : o.op = .call { callee := .builtin .copy, args := #[d, s], argTypes := #[dT, sT] }) (elem : TypeId) (hu : P.underlying dT = some (.slice elem)) (hsz : (P.info? elem).map (·.size) = some 1)
    (dp sp : Option Addr) (dLen dCap sLen sCap : Nat) (hd : a.eval d = .slice dp dLen dCap) (hs : a.eval s = .slice sp sLen sCap)
    (g off : Nat) (cur : List Value) (t : TypeId) (hg : w.heap[g]? = some (.cells cur.toArray t (0, 0))) (cs : List Value) (hn : cs.length = Nat.min sLen dLen)
    (hpos : 0 < cs.length → dp = some ⟨g, off, none⟩ ∧ ∃ ad, sp = some ad ∧ CellsAt w ad cs)
    (hfit : off + cs.length ≤ cur.length) (h1 : ∀ v ∈ cs, v.oneCell' = true)
    (h : ∀ w', Hid (w'.heap[g]? = some (.cells (splice cur off cs).toArray t (0, 0))) → Only [g] w w' → wpList P ops Q rest (a.put o.dst (goInt cs.length)) w') :
    wpList P ops Q (o :: rest) a w := by
  by_cases h0 : cs.length = 0
  · obtain rfl : cs = [] := List.eq_nil_of_length_eq_zero h0
    refine wpList_copy_nothing hgd d s dT sT ho elem hu hsz dp sp dLen dCap sLen sCap hd hs (by simpa using hn.symm) ?_
    exact h w (show _ = _ by simpa [splice] using hg) (Only.refl _ _)
  · obtain ⟨rfl, ad, rfl, hsrc⟩ := hpos (by omega)
    refine wpList_copy_own hgd d s dT sT ho elem hu hsz g off dLen dCap ad sLen sCap hd hs cur.toArray t hg cs hn hsrc (by simpa using hfit) h1 ?_
    exact h _ (show _ = _ by simpa [splice] using setRow_heap w g _ _ t _ hg) ((Only.refl _ _).setRow (by simp) _)
/-- var x [n]T, or any variable in memory: a new block of its zero value; the world behind it by a name. -/
theorem wpList_alloc_new {ops : Array Oper} {rest : List Oper} {o : Oper} {a : Act} {w : World} {Q : Exit → Act → World → Prop} (hgd : o.guard = none) (t : TypeId) (ho : o.op = .alloc t)
    (z : Value) (size bytes : Nat) (hinfo : (P.info? t).map (fun i => (i.zero, i.size, i.bytes)) = some (some z, size, bytes))
    (h : ∀ w', Hid (w'.heap[w.heap.size]? = some (.cells z.cells t (0, 0))) → Hid (w'.heap.size = w.heap.size + 1) → Only [] w w' → wpList P ops Q rest (a.put o.dst (.pointer (some ⟨w.heap.size, 0, none⟩))) w') :
    wpList P ops Q (o :: rest) a w := by
  obtain ⟨i, h2, h3, h4, h5⟩ := info_parts hinfo
  refine wpList_plain hgd fun K hK => ?_
  have hrun : (Instr.alloc t true (.tuple #[])).run P w = .ok (.pointer (some ⟨w.heap.size, 0, none⟩)) (w.alloc (.cells z.cells t)) := by
    simp [Instr.alloc, zeroValue, typeInfo, h2, h3, newVar, newRow]
  unfold Oper.wp
  simp only [execOp, ho, Sem.run_bind, hrun, Result.andThen]
  exact hK _ _ (h _ (heap_alloc_new w _) (show _ = _ by simp) ((Only.refl _ _).alloc _))
/-- A struct or an array is stored over a whole block; the world behind it by a name. -/
theorem wpList_store_new {ops : Array Oper} {rest : List Oper} {o : Oper} {a : Act} {w : World} {Q : Exit → Act → World → Prop} (hgd : o.guard = none) (ty : TypeId) (x y : Operand) (ho : o.op = .store ty x y)
    (g : Nat) (cells : Array Value) (hx : a.eval x = .pointer (some ⟨g, 0, none⟩)) (hy : a.eval y = .agg cells)
    (t : TypeId) (old : Array Value) (hg : w.heap[g]? = some (.cells old t (0, 0))) (hi : (P.info? ty).map (·.size) = some cells.size)
    (hold : old.size = cells.size) (h1 : ∀ v ∈ cells.toList, v.oneCell' = true)
    (h : ∀ w', Hid (w'.heap[g]? = some (.cells cells t (0, 0))) → Only [g] w w' → wpList P ops Q rest (a.put o.dst undef) w') : wpList P ops Q (o :: rest) a w :=
  wpList_store_row hgd ty x y ho g cells hx hy t old hg hi hold (Array.all_eq_true_iff_forall_mem.2 (fun v hv => h1 v (by simpa using hv)))
    (h _ (setRow_heap w g old cells t _ hg) ((Only.refl _ _).setRow (by simp) _))
theorem foldl_push (l : List UInt8) (s : ByteArray) : (l.map fun u => (u.toNat : Int)).foldl (fun r n => r.push (UInt8.ofNat n.toNat)) s = ⟨s.data ++ l.toArray⟩ := by
  induction l generalizing s with
  | nil => simp
  | cons u l ih =>
    simp only [List.map_cons, List.foldl_cons]
    rw [ih]
    have e : UInt8.ofNat ((u.toNat : Int)).toNat = u := by simp
    rw [e]
    congr 1
    simp [ByteArray.push]
/-- string(b) -/
theorem run_string_at (w : World) (src dst e : TypeId) (hs : P.underlying src = some (.slice e)) (he : P.underlying e = some (.int .u8)) (hd : P.underlying dst = some .string)
    (ad : Addr) (n c : Nat) (l : List UInt8) (hl : l.length = n) (hc : CellsAt w ad (bcells l)) :
    (convert src dst (.slice (some ad) n c)).run P w = .ok (.string ⟨l.toArray⟩) w := by
  subst hl
  rw [run_convert_bytes_string w src dst e _ _ _ hs he hd]
  have hb : bcells l = (l.map fun u => (u.toNat : Int)).map (Value.int .u8) := by simp [bcells, bcell]
  have h1 := run_loadCells_list (P := P) w ad (bcells l) hc
  rw [bcells_length, hb] at h1
  rw [run_bytesToString w ad l.length c _ h1, foldl_push]
  simp
theorem cellsAt_row {w : World} {g : Nat} {cs : List Value} {t : TypeId} {fr : Nat × Nat} (h : w.heap[g]? = some (.cells cs.toArray t fr)) : CellsAt w ⟨g, 0, none⟩ cs := by
  intro j v hj
  have e : (⟨g, 0, none⟩ : Addr).add j = ⟨g, j, none⟩ := by unfold Addr.add; split <;> simp_all
  rw [e, cell_of_row w g j _ _ _ h, List.getElem?_toArray, hj]
theorem run_string_row (w : World) (src dst e : TypeId) (hs : P.underlying src = some (.slice e)) (he : P.underlying e = some (.int .u8)) (hd : P.underlying dst = some .string)
    (g n c : Nat) (l : List UInt8) (t : TypeId) (fr : Nat × Nat) (hl : l.length = n) (hc : w.heap[g]? = some (.cells (bcells l).toArray t fr)) :
    (convert src dst (.slice (some ⟨g, 0, none⟩) n c)).run P w = .ok (.string ⟨l.toArray⟩) w :=
  run_string_at w src dst e hs he hd _ n c l hl (cellsAt_row hc)
theorem madeCells_one (z : Value) (n : Nat) : madeCells #[z] n = (List.replicate n z).toArray := by
  unfold madeCells
  apply Array.ext
  · simp
  · intro i h1 h2
    simp [Nat.mod_one]
end laws
end Go.Proofs.Ytlngfelpmebemaa
