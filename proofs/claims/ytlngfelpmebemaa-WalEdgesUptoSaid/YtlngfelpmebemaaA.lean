/-
  append to a slice of the call's own (or to nil), of any slice's elements, none too: the law for the walk and for a region that draws its order. No program in sight.
-/
import Derived.Test.YtlngfelpmebemaaL
namespace Go.Proofs.Ytlngfelpmebemaa
open Go.RowKit
section
variable {P : Program}
theorem run_append_row (w : World) (t ty : TypeId) (base : Nat) (e : TypeId) (size bytes : Nat) (z : Value) (ht : P.underlying t = some (.slice e)) (hinfo : (P.info? e).map (fun i => (i.zero, i.size, i.bytes)) = some (some z, size, bytes))
    (hzs : z.cells.size = size) (hsz : 0 < size) (v : Value) (n : Nat) (xs : List Value) (hown : w.ownsRow base e size v n xs)
    (A : Option Addr) (m c : Nat) (news : List Value) (hl : news.length = m * size) (hA : 0 < m → ∃ ad, A = some ad ∧ CellsAt w ad news) (h1 : ∀ u ∈ news, u.oneCell' = true)
    (h63 : n + m ≤ maxLen) (hbytes : (n + m) * bytes ≤ 140737488355328) (hbase : base ≤ w.heap.size) :
    ∃ A' c' w', (Builtin.append_ #[t, t] ty #[v, .slice A m c]).run P w = .ok (.slice A' (n + m) c') w' ∧ w'.ownsRow base e size (.slice A' (n + m) c') (n + m) (xs ++ news) ∧ Only v.ownBlock.toList w w' ∧
      (∀ k, (Value.slice A' (n + m) c').ownBlock = some k → v.ownBlock = some k ∨ w.heap.size ≤ k) := by
  obtain ⟨i, h2, h3, h4, h5⟩ := info_parts hinfo
  rcases Nat.eq_zero_or_pos m with hm | hm
  · subst hm
    obtain rfl : news = [] := List.eq_nil_of_length_eq_zero (by omega)
    rw [List.append_nil, Nat.add_zero]
    rcases hown.2 with ⟨rfl, rfl⟩ | ⟨g, cap, cur, rfl, hb, hg, hnc, _⟩
    · refine ⟨none, 0, w, ?_, hown, Only.refl _ _, fun k hk => .inl hk⟩
      cases A <;> simp [Builtin.append_, run_underlying ht, sizeOf, typeInfo, h2, Builtin.lenOf, Builtin.firstCells, loadCells, loadCellsFrom]
    · refine ⟨_, _, w, ?_, hown, Only.refl _ _, fun k hk => .inl hk⟩
      cases A <;> simp [Builtin.append_, run_underlying ht, sizeOf, typeInfo, h2, Builtin.lenOf, Builtin.firstCells, loadCells, loadCellsFrom, storeCells, hnc]
  · obtain ⟨ad, rfl, hc⟩ := hA hm
    obtain ⟨g, cap, w', hr, h6, h7, h8, h9⟩ := run_append_lies (P := P) w t ty base e i z size bytes ht h2 h3 h4 h5 hzs hsz v n xs hown ad m c news hl hc h1 hm h63 hbytes hbase _ rfl
    refine ⟨_, _, w', hr, h6, (Only.refl _ _).grown h7 (fun k hk => .inl (by rw [hk]; simp)), fun k hk => ?_⟩
    obtain rfl : g = k := by simpa [Value.ownBlock] using hk
    exact h8.imp id (fun h => by omega)
theorem wpList_append_row {ops : Array Oper} {rest : List Oper} {o : Oper} {a : Act} {w : World} {Q : Exit → Act → World → Prop} (hgd : o.guard = none) (s x : Operand) (t : TypeId)
    (ho : o.op = .call { callee := .builtin .append, args := #[s, x], argTypes := #[t, t] })
    (base : Nat) (e : TypeId) (size bytes : Nat) (z : Value) (ht : P.underlying t = some (.slice e)) (hinfo : (P.info? e).map (fun i => (i.zero, i.size, i.bytes)) = some (some z, size, bytes))
    (hzs : z.cells.size = size) (hsz : 0 < size) (v : Value) (n : Nat) (xs : List Value) (hs : a.eval s = v) (hown : w.ownsRow base e size v n xs)
    (A : Option Addr) (m c : Nat) (news : List Value) (hx : a.eval x = .slice A m c) (hl : news.length = m * size) (hA : 0 < m → ∃ ad, A = some ad ∧ CellsAt w ad news) (h1 : ∀ u ∈ news, u.oneCell' = true)
    (h63 : n + m ≤ maxLen) (hbytes : (n + m) * bytes ≤ 140737488355328) (hbase : base ≤ w.heap.size)
    (h : ∀ A' c' w', w'.ownsRow base e size (.slice A' (n + m) c') (n + m) (xs ++ news) → Only v.ownBlock.toList w w' → (∀ k, (Value.slice A' (n + m) c').ownBlock = some k → v.ownBlock = some k ∨ w.heap.size ≤ k) →
      wpList P ops Q rest (a.put o.dst (.slice A' (n + m) c')) w') : wpList P ops Q (o :: rest) a w := by
  refine wpList_plain hgd fun K hK => ?_
  obtain ⟨A', c', w', hr, h2, h3, h4⟩ := run_append_row (P := P) w t o.type base e size bytes z ht hinfo hzs hsz v n xs hown A m c news hl hA h1 h63 hbytes hbase
  unfold Oper.wp execOp
  simp only [ho, resolve, invoke, builtin, Sem.run_bind, Sem.run_pure, Result.andThen_ok, List.map_toArray, List.map_cons, List.map_nil, hs, hx, hr]
  exact hK _ _ (h A' c' w' h2 h3 h4)
/-- The same in a region that draws its order. -/
theorem ge_append_row {ops : Array Oper} {Q : Exit → Act → World → Prop} {S : List Nat} {z9 : Nat} {i : Nat} {f : Bool} {oi : Oper} {d : Nat} {T : List (Nat × Bool × Bool)} {a : Act} {w : World} {N : Nat} {env : List (Nat × Value)}
    (hi : ops[i]? = some oi) (hdst : oi.dst = some d) (hd : decide (d < N) = true) (hw : L.wantE ops env oi = some true) (s x : Operand) (t : TypeId)
    (ho : oi.op = .call { callee := .builtin .append, args := #[s, x], argTypes := #[t, t] })
    (base : Nat) (e : TypeId) (size bytes : Nat) (z : Value) (ht : P.underlying t = some (.slice e)) (hinfo : (P.info? e).map (fun i => (i.zero, i.size, i.bytes)) = some (some z, size, bytes))
    (hzs : z.cells.size = size) (hsz : 0 < size) (v : Value) (n : Nat) (xs : List Value) (hs : L.evE a env s = v) (hown : w.ownsRow base e size v n xs)
    (A : Option Addr) (m c : Nat) (news : List Value) (hx : L.evE a env x = .slice A m c) (hl : news.length = m * size) (hA : 0 < m → ∃ ad, A = some ad ∧ CellsAt w ad news) (h1 : ∀ u ∈ news, u.oneCell' = true)
    (h63 : n + m ≤ maxLen) (hbytes : (n + m) * bytes ≤ 140737488355328) (hbase : base ≤ w.heap.size)
    (h : ∀ A' c' w', w'.ownsRow base e size (.slice A' (n + m) c') (n + m) (xs ++ news) → Only v.ownBlock.toList w w' → (∀ k, (Value.slice A' (n + m) c').ownBlock = some k → v.ownBlock = some k ∨ w.heap.size ≤ k) →
      Only S w w' ∧ L.GrowE P ops Q S z9 T a N ((d, .slice A' (n + m) c') :: env) w') : L.GrowE P ops Q S z9 ((i, f, true) :: T) a N env w := by
  obtain ⟨A', c', w', hr, h2, h3, h4⟩ := run_append_row (P := P) w t oi.type base e size bytes z ht hinfo hzs hsz v n xs hown A m c news hl hA h1 h63 hbytes hbase
  obtain ⟨h5, h6⟩ := h A' c' w' h2 h3 h4
  refine L.ge_mem hi hdst hd hw (w' := w') ?_ h5 h6
  unfold execOp
  simp only [ho, resolve, invoke, builtin, Sem.run_bind, Sem.run_pure, Result.andThen_ok, List.map_toArray, List.map_cons, List.map_nil, hs, hx, hr]
end
end Go.Proofs.Ytlngfelpmebemaa
