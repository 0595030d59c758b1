/-
  A block of a given size whose front is filled by append; the rest is noughts. No program in sight.
-/
import Derived.Test.YtlngfelpmebemaaA
import Derived.Lib.AppendStr
namespace Go.Proofs.Ytlngfelpmebemaa
open Go.RowKit
/-- So many bytes, then noughts up to n. -/
def bufRow (n : Nat) (l : List UInt8) : Array Value := (bcells (l ++ List.replicate (n - l.length) 0)).toArray
theorem bufRow_size (n : Nat) (l : List UInt8) (h : l.length ≤ n) : (bufRow n l).size = n := by
  unfold bufRow
  rw [List.size_toArray, bcells_length, List.length_append, List.length_replicate]
  omega
theorem bufRow_add (n : Nat) (l m : List UInt8) (h : l.length + m.length ≤ n) :
    ((bufRow n l).toList.take l.length ++ bcells m ++ (bufRow n l).toList.drop (l.length + m.length)).toArray = bufRow n (l ++ m) := by
  unfold bufRow
  have e1 : (bcells (l ++ List.replicate (n - l.length) 0)).take l.length = bcells l := by
    simp [bcells]
  have e2 : (bcells (l ++ List.replicate (n - l.length) 0)).drop (l.length + m.length) = bcells (List.replicate (n - (l ++ m).length) 0) := by
    simp only [bcells, List.map_append, List.drop_append, List.length_map, List.map_replicate, List.length_append]
    rw [List.drop_of_length_le (by simp), List.nil_append, List.drop_replicate]
    congr 1
    omega
  rw [e1, e2]
  simp [bcells, List.append_assoc]
section
variable {P : Program}
theorem run_append_buf (w : World) (t ty e : TypeId) (ht : P.underlying t = some (.slice e)) (hinfo : (P.info? e).map (fun i => (i.zero, i.size, i.bytes)) = some (some (.int .u8 0), 1, 1))
    (g cap : Nat) (l : List UInt8) (hg : w.heap[g]? = some (.cells (bufRow cap l) e (0, 0))) (A : Option Addr) (m : List UInt8) (c : Nat) (hA : 0 < m.length → ∃ ad, A = some ad ∧ CellsAt w ad (bcells m)) (hroom : l.length + m.length ≤ cap) :
    ∃ w', (Builtin.append_ #[t, t] ty #[.slice (some ⟨g, 0, none⟩) l.length cap, .slice A m.length c]).run P w = .ok (.slice (some ⟨g, 0, none⟩) (l.length + m.length) cap) w' ∧
      w'.heap[g]? = some (.cells (bufRow cap (l ++ m)) e (0, 0)) ∧ Only [g] w w' := by
  obtain ⟨i, h2, h3, h4, h5⟩ := info_parts hinfo
  rcases Nat.eq_zero_or_pos m.length with hm | hm
  · obtain rfl : m = [] := List.eq_nil_of_length_eq_zero hm
    refine ⟨w, ?_, by rw [List.append_nil]; exact hg, Only.refl _ _⟩
    have hle : l.length ≤ cap := by simpa using hroom
    cases A <;> simp [Builtin.append_, run_underlying ht, sizeOf, typeInfo, h2, Builtin.lenOf, Builtin.firstCells, loadCells, loadCellsFrom, storeCells, hle]
  · obtain ⟨ad, rfl, hc⟩ := hA hm
    have hr := run_append_room (P := P) w t ty e i ht h2 g l.length cap (bufRow cap l) hg ad m.length c (bcells m) (by rw [bcells_length, h4, Nat.mul_one]) hc (bcells_one m) hroom (by rw [h4, bcells_length, bufRow_size _ _ (by omega)]; omega)
    rw [h4, Nat.mul_one, bcells_length, bufRow_add cap l m hroom] at hr
    exact ⟨_, hr, setRow_heap w g _ _ e _ hg, (Only.refl _ _).setRow (by simp) _⟩
theorem strCells_bcells (s : ByteArray) : Lib.strCells s = bcells s.data.toList := rfl
theorem run_append_buf_string (w : World) (t u ty e : TypeId) (ht : P.underlying t = some (.slice e)) (hu : P.underlying u = some .string) (hinfo : (P.info? e).map (fun i => (i.zero, i.size, i.bytes)) = some (some (.int .u8 0), 1, 1))
    (g cap : Nat) (l : List UInt8) (hg : w.heap[g]? = some (.cells (bufRow cap l) e (0, 0))) (s : ByteArray) (hroom : l.length + s.size ≤ cap) :
    ∃ w', (Builtin.append_ #[t, u] ty #[.slice (some ⟨g, 0, none⟩) l.length cap, .string s]).run P w = .ok (.slice (some ⟨g, 0, none⟩) (l.length + s.size) cap) w' ∧
      w'.heap[g]? = some (.cells (bufRow cap (l ++ s.data.toList)) e (0, 0)) ∧ Only [g] w w' := by
  obtain ⟨i, h2, h3, h4, h5⟩ := info_parts hinfo
  have hr := Lib.run_append_room_string (P := P) w t u ty e i ht hu h2 h4 g l.length cap (bufRow cap l) hg s hroom (by rw [bufRow_size _ _ (by omega)]; exact hroom)
  have hsz : s.size = s.data.toList.length := Array.length_toList.symm
  rw [strCells_bcells] at hr
  have e1 := bufRow_add cap l s.data.toList (by rw [← hsz]; exact hroom)
  rw [← hsz] at e1
  rw [e1] at hr
  exact ⟨_, hr, setRow_heap w g _ _ e _ hg, (Only.refl _ _).setRow (by simp) _⟩
/-- make([]byte, 0, n) -/
theorem wpList_make_buf {ops : Array Oper} {rest : List Oper} {o : Oper} {a : Act} {w : World} {Q : Exit → Act → World → Prop} (hg : o.guard = none) (l c : Operand) (t : TypeId) (hop : o.op = Op.makeSlice t l c)
    (e : TypeId) (h1 : P.underlying t = some (.slice e)) (hinfo : (P.info? e).map (fun i => (i.zero, i.size, i.bytes)) = some (some (.int .u8 0), 1, 1))
    (kl kc : IntKind) (n : Nat) (hl : a.eval l = .int kl 0) (hc : a.eval c = .int kc n) (b2 : n ≤ 281474976710656)
    (hK : ∀ w', Hid (w'.heap[w.heap.size]? = some (.cells (bufRow n []) e (0, 0))) → Only [] w w' → wpList P ops Q rest (a.put o.dst (.slice (some ⟨w.heap.size, 0, none⟩) 0 n)) w') :
    wpList P ops Q (o :: rest) a w := by
  obtain ⟨i, h2, h3, h4, h5⟩ := info_parts hinfo
  refine wpList_plain hg fun K hK' => ?_
  have hrun := run_make (P := P) w t e i (.int .u8 0) h1 h2 h3 kl kc 0 n (by omega) (by omega) (by rw [h5]; omega) (by omega)
  have hz : madeCells (Value.cells (.int .u8 0)) (n * 1) = bufRow n [] := by
    rw [show Value.cells (.int .u8 0) = #[.int .u8 0] from rfl, madeCells_one]
    unfold bufRow bcells
    rw [List.length_nil, List.nil_append, List.map_replicate, Nat.mul_one, Nat.sub_zero]
    rfl
  simp only [Int.toNat_natCast] at hrun
  unfold Oper.wp
  simp only [execOp, hop, hl, hc, Sem.run_bind, hrun, Result.andThen]
  rw [h4]
  exact hK' _ _ (hK _ (by rw [← hz]; exact heap_alloc_new w _) ((Only.refl _ _).alloc _))
/-- append to such a buffer, in the walk. -/
theorem wpList_append_buf {ops : Array Oper} {rest : List Oper} {o : Oper} {a : Act} {w : World} {Q : Exit → Act → World → Prop} (hgd : o.guard = none) (s x : Operand) (t : TypeId)
    (ho : o.op = .call { callee := .builtin .append, args := #[s, x], argTypes := #[t, t] }) (e : TypeId) (ht : P.underlying t = some (.slice e)) (hinfo : (P.info? e).map (fun i => (i.zero, i.size, i.bytes)) = some (some (.int .u8 0), 1, 1))
    (g cap n : Nat) (l : List UInt8) (hn : l.length = n) (hs : a.eval s = .slice (some ⟨g, 0, none⟩) n cap) (hg : w.heap[g]? = some (.cells (bufRow cap l) e (0, 0))) (A : Option Addr) (k c : Nat) (m : List UInt8) (hk : m.length = k) (hx : a.eval x = .slice A k c)
    (hA : 0 < m.length → ∃ ad, A = some ad ∧ CellsAt w ad (bcells m)) (hroom : n + k ≤ cap)
    (h : ∀ w', Hid (w'.heap[g]? = some (.cells (bufRow cap (l ++ m)) e (0, 0))) → Hid (Only [g] w w') → wpList P ops Q rest (a.put o.dst (.slice (some ⟨g, 0, none⟩) (n + k) cap)) w') : wpList P ops Q (o :: rest) a w := by
  subst hn hk
  refine wpList_plain hgd fun K hK => ?_
  obtain ⟨w', hr, h2, h3⟩ := run_append_buf (P := P) w t o.type e ht hinfo g cap l hg A m c hA hroom
  unfold Oper.wp execOp
  simp only [ho, resolve, invoke, builtin, Sem.run_bind, Sem.run_pure, Result.andThen_ok, List.map_toArray, List.map_cons, List.map_nil, hs, hx, hr]
  exact hK _ _ (h w' h2 h3)
section
variable {ops : Array Oper} {Q : Exit → Act → World → Prop} {S : List Nat} {z9 : Nat} {i : Nat} {f : Bool} {oi : Oper} {d : Nat} {T : List (Nat × Bool × Bool)} {a : Act} {w : World} {N : Nat} {env : List (Nat × Value)}
/-- The same in a region that draws its order. -/
theorem ge_append_buf (hi : ops[i]? = some oi) (hdst : oi.dst = some d) (hd : decide (d < N) = true) (hw : L.wantE ops env oi = some true) (s x : Operand) (t : TypeId)
    (ho : oi.op = .call { callee := .builtin .append, args := #[s, x], argTypes := #[t, t] }) (e : TypeId) (ht : P.underlying t = some (.slice e)) (hinfo : (P.info? e).map (fun i => (i.zero, i.size, i.bytes)) = some (some (.int .u8 0), 1, 1))
    (g cap n : Nat) (l : List UInt8) (hn : l.length = n) (hs : L.evE a env s = .slice (some ⟨g, 0, none⟩) n cap) (hg : w.heap[g]? = some (.cells (bufRow cap l) e (0, 0))) (A : Option Addr) (k c : Nat) (m : List UInt8) (hk : m.length = k) (hx : L.evE a env x = .slice A k c)
    (hA : 0 < m.length → ∃ ad, A = some ad ∧ CellsAt w ad (bcells m)) (hroom : n + k ≤ cap) (hS : g ∈ S)
    (h : ∀ w', Hid (w'.heap[g]? = some (.cells (bufRow cap (l ++ m)) e (0, 0))) → Hid (Only [g] w w') → L.GrowE P ops Q S z9 T a N ((d, .slice (some ⟨g, 0, none⟩) (n + k) cap) :: env) w') : L.GrowE P ops Q S z9 ((i, f, true) :: T) a N env w := by
  subst hn hk
  obtain ⟨w', hr, h2, h3⟩ := run_append_buf (P := P) w t oi.type e ht hinfo g cap l hg A m c hA hroom
  refine L.ge_mem hi hdst hd hw (w' := w') ?_ (h3.mono (by simpa using hS)) (h w' h2 h3)
  unfold execOp
  simp only [ho, resolve, invoke, builtin, Sem.run_bind, Sem.run_pure, Result.andThen_ok, List.map_toArray, List.map_cons, List.map_nil, hs, hx, hr]
theorem ge_append_buf_string (hi : ops[i]? = some oi) (hdst : oi.dst = some d) (hd : decide (d < N) = true) (hw : L.wantE ops env oi = some true) (s x : Operand) (t u : TypeId)
    (ho : oi.op = .call { callee := .builtin .append, args := #[s, x], argTypes := #[t, u] }) (e : TypeId) (ht : P.underlying t = some (.slice e)) (hu : P.underlying u = some .string) (hinfo : (P.info? e).map (fun i => (i.zero, i.size, i.bytes)) = some (some (.int .u8 0), 1, 1))
    (g cap n : Nat) (l : List UInt8) (hn : l.length = n) (hs : L.evE a env s = .slice (some ⟨g, 0, none⟩) n cap) (hg : w.heap[g]? = some (.cells (bufRow cap l) e (0, 0))) (y : ByteArray) (hx : L.evE a env x = .string y) (hroom : n + y.size ≤ cap) (hS : g ∈ S)
    (h : ∀ w', Hid (w'.heap[g]? = some (.cells (bufRow cap (l ++ y.data.toList)) e (0, 0))) → Hid (Only [g] w w') → L.GrowE P ops Q S z9 T a N ((d, .slice (some ⟨g, 0, none⟩) (n + y.size) cap) :: env) w') : L.GrowE P ops Q S z9 ((i, f, true) :: T) a N env w := by
  subst hn
  obtain ⟨w', hr, h2, h3⟩ := run_append_buf_string (P := P) w t u oi.type e ht hu hinfo g cap l hg y hroom
  refine L.ge_mem hi hdst hd hw (w' := w') ?_ (h3.mono (by simpa using hS)) (h w' h2 h3)
  unfold execOp
  simp only [ho, resolve, invoke, builtin, Sem.run_bind, Sem.run_pure, Result.andThen_ok, List.map_toArray, List.map_cons, List.map_nil, hs, hx, hr]
end
end
end Go.Proofs.Ytlngfelpmebemaa
