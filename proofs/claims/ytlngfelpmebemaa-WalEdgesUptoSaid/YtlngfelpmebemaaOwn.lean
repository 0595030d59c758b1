/-
  Bytes that a slice shows: read as a string, cut, laid behind a slice of the call's own; slices that are written out. No program in sight.
-/
import Derived.Test.YtlngfelpmebemaaBuf
import Derived.Deep.Slices
import Derived.Great.BuildSlice
namespace Go.Proofs.Ytlngfelpmebemaa
open Go.RowKit
set_option linter.unusedSimpArgs false
set_option linter.unusedVariables false
/-- The bytes that a slice shows. -/
def BytesAt (w : World) (B : Option Addr) (l : List UInt8) : Prop := 0 < l.length → ∃ bd, B = some bd ∧ CellsAt w bd (bcells l)
theorem BytesAt.only {w w' : World} {B : Option Addr} {l : List UInt8} (h : BytesAt w B l) (ho : Only [] w w') : BytesAt w' B l :=
  fun h0 => by obtain ⟨bd, h1, h2⟩ := h h0; exact ⟨bd, h1, h2.only ho (by simp)⟩
def cutAt (A : Option Addr) (l m : Nat) : Option Addr := if m = l then A else A.map (·.add l)
theorem BytesAt.cut {w : World} {A : Option Addr} {bs : List UInt8} (hb : BytesAt w A bs) (l h m : Nat) (h2 : h ≤ m) (h3 : h ≤ bs.length) : BytesAt w (cutAt A l m) ((bs.drop l).take (h - l)) := by
  intro h0
  have h4 : l < h := by rw [List.length_take] at h0; omega
  obtain ⟨bd, rfl, hc⟩ := hb (by omega)
  refine ⟨bd.add l, by unfold cutAt; rw [if_neg (by omega)]; rfl, ?_⟩
  intro j v hj
  rw [Go.Deep.add_add]
  refine hc (l + j) v ?_
  rw [bcells_get] at hj ⊢
  rw [List.getElem?_take] at hj
  split at hj
  · rw [List.getElem?_drop] at hj; exact hj
  · cases hj
theorem ownsRow_lt {w : World} {base : Nat} {e : TypeId} {size : Nat} {v : Value} {n : Nat} {xs : List Value} (h : w.ownsRow base e size v n xs) {k : Nat} (hk : v.ownBlock = some k) : base ≤ k ∧ k < w.heap.size := by
  rcases h.2 with ⟨rfl, _⟩ | ⟨g, cap, cur, rfl, hb, hg, _⟩
  · cases hk
  · obtain rfl : g = k := by simpa [Value.ownBlock] using hk
    exact ⟨hb, heap_lt hg⟩
theorem ownsRow_slice {w : World} {base : Nat} {e : TypeId} {size : Nat} {v : Value} {n : Nat} {xs : List Value} (h : w.ownsRow base e size v n xs) : ∃ A c, v = .slice A n c ∧ n ≤ c ∧ (0 < n → ∃ ad, A = some ad ∧ CellsAt w ad xs) := by
  rcases h.2 with ⟨rfl, rfl⟩ | ⟨g, cap, cur, rfl, hb, hg, hn, hm, hcs, ht⟩
  · exact ⟨none, 0, rfl, Nat.le_refl _, fun h => by omega⟩
  · refine ⟨_, cap, rfl, hn, fun _ => ⟨_, rfl, ?_⟩⟩
    intro j v hj
    have := cellsAt_row (cs := cur.toList) (by simpa using hg)
    refine this j v ?_
    rw [← ht, List.getElem?_take] at hj
    split at hj
    · exact hj
    · cases hj
theorem ownsRow_mono {w : World} {base base' : Nat} {e : TypeId} {size : Nat} {v : Value} {n : Nat} {xs : List Value} (h : w.ownsRow base e size v n xs) (hb : base' ≤ base) : w.ownsRow base' e size v n xs := by
  refine ⟨h.1, h.2.imp id ?_⟩
  rintro ⟨g, cap, cur, hv, h1, rest⟩
  exact ⟨g, cap, cur, hv, by omega, rest⟩
theorem ownsRow_nil (w : World) (base : Nat) (e : TypeId) (size : Nat) : w.ownsRow base e size (.slice none 0 0) 0 [] := ⟨by simp, .inl ⟨rfl, rfl⟩⟩
section
variable {P : Program}
theorem run_bytes_string (w : World) (src dst e : TypeId) (hs : P.underlying src = some (.slice e)) (he : P.underlying e = some (.int .u8)) (hd : P.underlying dst = some .string)
    (A : Option Addr) (n c : Nat) (l : List UInt8) (hl : l.length = n) (hA : BytesAt w A l) : (convert src dst (.slice A n c)).run P w = .ok (.string ⟨l.toArray⟩) w := by
  subst hl
  rcases Nat.eq_zero_or_pos l.length with h | h
  · obtain rfl := List.eq_nil_of_length_eq_zero h
    cases A with
    | none => rw [run_convert_bytes_string w src dst e _ _ _ hs he hd]; simp [Conv.bytesToString, Sem.run_pure]; rfl
    | some ad => exact run_string_at w src dst e hs he hd ad 0 c [] rfl (fun j v hj => by simp [bcells] at hj)
  · obtain ⟨ad, rfl, hc⟩ := hA h
    exact run_string_at w src dst e hs he hd ad _ c l rfl hc
theorem run_slice_bytes (w : World) (t e : TypeId) (ht : P.underlying t = some (.slice e)) (hsz : (P.info? e).map (·.size) = some 1) (A : Option Addr) (n c : Nat) (lo hi mx : Option Value) (l h m : Nat)
    (hb : (Instr.sliceBounds true n c lo hi mx).run P w = .ok (l, h, m) w) : (Instr.sliceAt t (.slice A n c) lo hi mx).run P w = .ok (.slice (cutAt A l m) (h - l) (m - l)) w := by
  obtain ⟨i, hi, hi1⟩ := Option.map_eq_some_iff.1 hsz
  simp [Instr.sliceAt, run_underlying ht, Instr.slice, Sem.run_bind, hb, Result.andThen, sizeOf, typeInfo, hi, hi1, Sem.run_pure, cutAt]
theorem bounds_l (w : World) (n c : Nat) (k : IntKind) (li : Int) (l : Nat) (e : li = l) (hl : l ≤ n) : (Instr.sliceBounds true n c (some (.int k li)) none none).run P w = .ok (l, n, c) w := by
  subst e
  simp [Instr.sliceBounds, run_sliceBound, hl]
theorem bounds_h (w : World) (n c : Nat) (k : IntKind) (hi : Int) (h : Nat) (e : hi = h) (hl : h ≤ c) : (Instr.sliceBounds true n c none (some (.int k hi)) none).run P w = .ok (0, h, c) w := by
  subst e
  simp [Instr.sliceBounds, run_sliceBound, hl]
theorem bounds_lh (w : World) (n c : Nat) (k k' : IntKind) (li hi : Int) (l h : Nat) (e : li = l) (e' : hi = h) (hl : l ≤ h) (hh : h ≤ c) : (Instr.sliceBounds true n c (some (.int k li)) (some (.int k' hi)) none).run P w = .ok (l, h, c) w := by
  subst e e'
  simp [Instr.sliceBounds, run_sliceBound, hl, hh]
theorem bounds_lhm (w : World) (n c : Nat) (k k' k9 : IntKind) (li hi mi : Int) (l h m : Nat) (e : li = l) (e' : hi = h) (e9 : mi = m) (hl : l ≤ h) (hh : h ≤ m) (hm : m ≤ c) : (Instr.sliceBounds true n c (some (.int k li)) (some (.int k' hi)) (some (.int k9 mi))).run P w = .ok (l, h, m) w := by
  subst e e' e9
  simp [Instr.sliceBounds, run_sliceBound, hl, hh, hm]
section walk
variable {ops : Array Oper} {rest : List Oper} {o : Oper} {a : Act} {w : World} {Q : Exit → Act → World → Prop}
theorem wpList_bytes_string (hgd : o.guard = none) (x : Operand) (src dst : TypeId) (hop : o.op = .convert src dst x) (e : TypeId) (hs : P.underlying src = some (.slice e)) (he : P.underlying e = some (.int .u8)) (hd : P.underlying dst = some .string)
    (A : Option Addr) (n c : Nat) (l : List UInt8) (hl : l.length = n) (hx : a.eval x = .slice A n c) (hA : BytesAt w A l) (h : wpList P ops Q rest (a.put o.dst (.string ⟨l.toArray⟩)) w) : wpList P ops Q (o :: rest) a w := by
  refine wpList_plain hgd fun K hK => ?_
  unfold Oper.wp execOp
  simp only [hop, hx, Sem.run_bind, run_bytes_string w src dst e hs he hd A n c l hl hA, Result.andThen]
  exact hK _ _ h
theorem wpList_slice (hgd : o.guard = none) (t : TypeId) (x : Operand) (lo hi mx : Option Operand) (hop : o.op = .slice t x lo hi mx) (e : TypeId) (ht : P.underlying t = some (.slice e)) (hsz : (P.info? e).map (·.size) = some 1)
    (A : Option Addr) (n c : Nat) (hx : a.eval x = .slice A n c) (l h m : Nat) (hb : (Instr.sliceBounds true n c (lo.map a.eval) (hi.map a.eval) (mx.map a.eval)).run P w = .ok (l, h, m) w)
    (hK : wpList P ops Q rest (a.put o.dst (.slice (cutAt A l m) (h - l) (m - l))) w) : wpList P ops Q (o :: rest) a w := by
  refine wpList_plain hgd fun K hK' => ?_
  unfold Oper.wp execOp
  simp only [hop, hx, Sem.run_bind, run_slice_bytes w t e ht hsz A n c _ _ _ l h m hb, Result.andThen]
  exact hK' _ _ hK
/-- append(own, s...) -/
theorem run_append_row_string (w : World) (t u ty : TypeId) (base : Nat) (e : TypeId) (ht : P.underlying t = some (.slice e)) (hu : P.underlying u = some .string) (hinfo : (P.info? e).map (fun i => (i.zero, i.size, i.bytes)) = some (some (.int .u8 0), 1, 1))
    (v : Value) (n : Nat) (xs : List Value) (hown : w.ownsRow base e 1 v n xs) (s : ByteArray) (h63 : n + s.size ≤ 140737488355328) (hbase : base ≤ w.heap.size) :
    ∃ A' c' w', (Builtin.append_ #[t, u] ty #[v, .string s]).run P w = .ok (.slice A' (n + s.size) c') w' ∧ w'.ownsRow base e 1 (.slice A' (n + s.size) c') (n + s.size) (xs ++ bcells s.data.toList) ∧ Only v.ownBlock.toList w w' := by
  obtain ⟨i, h2, h3, h4, h5⟩ := info_parts hinfo
  obtain ⟨v', w', hr, h6, h7, _⟩ := Lib.run_append_own_string (P := P) w base t u ty e i ht hu h2 h3 h4 h5 v n xs hown s (by unfold maxLen; omega) h63 hbase
  obtain ⟨A', c', rfl, _, _⟩ := ownsRow_slice h6
  exact ⟨A', c', w', hr, h6, (Only.refl _ _).grown h7 (fun k hk => .inl (by rw [hk]; simp))⟩
theorem wpList_append_row_string (hgd : o.guard = none) (s x : Operand) (t u : TypeId) (ho : o.op = .call { callee := .builtin .append, args := #[s, x], argTypes := #[t, u] })
    (base : Nat) (e : TypeId) (ht : P.underlying t = some (.slice e)) (hu : P.underlying u = some .string) (hinfo : (P.info? e).map (fun i => (i.zero, i.size, i.bytes)) = some (some (.int .u8 0), 1, 1))
    (v : Value) (n : Nat) (xs : List Value) (hs : a.eval s = v) (hown : w.ownsRow base e 1 v n xs) (y : ByteArray) (hx : a.eval x = .string y) (h63 : n + y.size ≤ 140737488355328) (hbase : base ≤ w.heap.size)
    (h : ∀ A' c' w', w'.ownsRow base e 1 (.slice A' (n + y.size) c') (n + y.size) (xs ++ bcells y.data.toList) → Only v.ownBlock.toList w w' → wpList P ops Q rest (a.put o.dst (.slice A' (n + y.size) c')) w') : wpList P ops Q (o :: rest) a w := by
  refine wpList_plain hgd fun K hK => ?_
  obtain ⟨A', c', w', hr, h2, h3⟩ := run_append_row_string (P := P) w t u o.type base e ht hu hinfo v n xs hown y h63 hbase
  unfold Oper.wp execOp
  simp only [ho, resolve, invoke, builtin, Sem.run_bind, Sem.run_pure, Result.andThen_ok, List.map_toArray, List.map_cons, List.map_nil, hs, hx, hr]
  exact hK _ _ (h A' c' w' h2 h3)
end walk
section region
variable {ops : Array Oper} {Q : Exit → Act → World → Prop} {S : List Nat} {z9 : Nat} {i : Nat} {f : Bool} {oi : Oper} {d : Nat} {T : List (Nat × Bool × Bool)} {a : Act} {w : World} {N : Nat} {env : List (Nat × Value)}
theorem ge_slice (hi : ops[i]? = some oi) (hdst : oi.dst = some d) (hd : decide (d < N) = true) (hw : L.wantE ops env oi = some true) (t : TypeId) (x : Operand) (lo hg mx : Option Operand) (hop : oi.op = .slice t x lo hg mx)
    (e : TypeId) (ht : P.underlying t = some (.slice e)) (hsz : (P.info? e).map (·.size) = some 1) (A : Option Addr) (n c : Nat) (hx : L.evE a env x = .slice A n c) (l h m : Nat)
    (hb : ∀ w', (Instr.sliceBounds true n c (lo.map (L.evE a env)) (hg.map (L.evE a env)) (mx.map (L.evE a env))).run P w' = .ok (l, h, m) w')
    (hK : L.GrowE P ops Q S z9 T a N ((d, .slice (cutAt A l m) (h - l) (m - l)) :: env) w) : L.GrowE P ops Q S z9 ((i, true, f) :: T) a N env w := by
  refine L.ge_val hi hdst hd hw (fun w' _ => ?_) hK
  unfold execOp
  simp only [hop, hx, Sem.run_bind, run_slice_bytes w' t e ht hsz A n c _ _ _ l h m (hb w'), Result.andThen, Sem.run_pure]
theorem ge_bytes_string (hi : ops[i]? = some oi) (hdst : oi.dst = some d) (hd : decide (d < N) = true) (hw : L.wantE ops env oi = some true) (x : Operand) (src dst : TypeId) (hop : oi.op = .convert src dst x)
    (e : TypeId) (hs : P.underlying src = some (.slice e)) (he : P.underlying e = some (.int .u8)) (hdt : P.underlying dst = some .string) (A : Option Addr) (n c : Nat) (l : List UInt8) (hl : l.length = n) (hx : L.evE a env x = .slice A n c)
    (hA : ∀ w', Only S w w' → BytesAt w' A l) (h : L.GrowE P ops Q S z9 T a N ((d, .string ⟨l.toArray⟩) :: env) w) : L.GrowE P ops Q S z9 ((i, true, f) :: T) a N env w := by
  refine L.ge_val hi hdst hd hw (fun w' ho => ?_) h
  unfold execOp
  simp only [hop, hx, Sem.run_bind, run_bytes_string w' src dst e hs he hdt A n c l hl (hA w' ho), Result.andThen, Sem.run_pure]
/-- []T{} -/
theorem ge_none (hi : ops[i]? = some oi) (hdst : oi.dst = some d) (hd : decide (d < N) = true) (hw : L.wantE ops env oi = some true) (t : TypeId) (hop : oi.op = .buildSlice t 0 #[]) (e : TypeId) (ht : P.underlying t = some (.slice e)) (hsz : ((P.info? e).map (·.size)).isSome = true)
    (h : L.GrowE P ops Q S z9 T a N ((d, .slice (some ⟨w.heap.size, 0, none⟩) 0 0) :: env) (w.alloc (.cells #[] e))) : L.GrowE P ops Q S z9 ((i, f, true) :: T) a N env w := by
  obtain ⟨s, hs⟩ := Option.isSome_iff_exists.1 hsz
  obtain ⟨ie, hi1, hi2⟩ := Option.map_eq_some_iff.1 hs
  refine L.ge_mem hi hdst hd hw (w' := w.alloc (.cells #[] e)) ?_ ((Only.refl _ _).alloc _) h
  unfold execOp
  have e0 : (Array.map (fun (_ : Nat) => (default : Value)) (Array.range 0)) = #[] := by simp
  simp [hop, Instr.buildSlice, run_underlying ht, sizeOf, typeInfo, hi1, newRow, Instr.fill, e0]
/-- []T{x} -/
theorem ge_one (hi : ops[i]? = some oi) (hdst : oi.dst = some d) (hd : decide (d < N) = true) (hw : L.wantE ops env oi = some true) (t : TypeId) (x : Operand) (hop : oi.op = .buildSlice t 1 #[(0, x)]) (e : TypeId) (ht : P.underlying t = some (.slice e))
    (z : Value) (size bytes : Nat) (hinfo : (P.info? e).map (fun i => (i.zero, i.size, i.bytes)) = some (some z, size, bytes)) (hs0 : 0 < size) (hs1 : size ≤ 1000) (cells : Array Value)
    (hfill : Instr.fill (fun i => some (i * size, size)) ((Array.range (1 * size)).map (z.cells[· % z.cells.size]!)) [(0, L.evE a env x)] = some cells)
    (h : L.GrowE P ops Q S z9 T a N ((d, .slice (some ⟨w.heap.size, 0, none⟩) 1 1) :: env) (w.alloc (.cells cells e))) : L.GrowE P ops Q S z9 ((i, f, true) :: T) a N env w := by
  obtain ⟨ie, h2, h3, h4, h5⟩ := info_parts hinfo
  subst h4
  refine L.ge_mem hi hdst hd hw (w' := w.alloc (.cells cells e)) ?_ ((Only.refl _ _).alloc _) h
  have := run_buildSlice (P := P) w t e 1 #[(0, L.evE a env x)] cells ie z ht h2 h3 (by omega) (by omega) hfill
  unfold execOp
  simp [hop, this]
end region
end
end Go.Proofs.Ytlngfelpmebemaa
