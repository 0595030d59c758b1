/-
  A slice of a slice, in the walk. No program in sight.
-/
import Derived.Test.YtlngfelpmebemaaOwn
namespace Go.Proofs.Ytlngfelpmebemaa
open Go.RowKit
section
variable {P : Program} {ops : Array Oper} {rest : List Oper} {a : Act} {w : World} {Q : Exit → Act → World → Prop}
/-- The same, at the operation written out: so it is tried there alone. -/
theorem wpList_cut {dst : Option Tmp} {ty : TypeId} {ps : String} {af : Array Edge} {t : TypeId} {x : Operand} {lo hi mx : Option Operand} (e : TypeId) (ht : P.underlying t = some (.slice e)) (hsz : (P.info? e).map (·.size) = some 1)
    (A : Option Addr) (n c : Nat) (hx : a.eval x = .slice A n c) (l h m : Nat) (hb : (Instr.sliceBounds true n c (lo.map a.eval) (hi.map a.eval) (mx.map a.eval)).run P w = .ok (l, h, m) w)
    (hK : wpList P ops Q rest (a.put dst (.slice (cutAt A l m) (h - l) (m - l))) w) : wpList P ops Q ({ dst := dst, op := .slice t x lo hi mx, type := ty, pos := ps, after := af, guard := none } :: rest) a w :=
  wpList_slice rfl t x lo hi mx rfl e ht hsz A n c hx l h m hb hK
/-- append to a slice that has no room at all, and is not nil: as to nil. -/
theorem append_cap0 (w : World) (t ty e : TypeId) (ht : P.underlying t = some (.slice e)) (i : TypeInfo) (hi : P.info? e = some i) (ad : Addr) (A : Option Addr) (m c : Nat) (hm : 0 < m) (hb : m * i.bytes ≤ 140737488355328) :
    (Builtin.append_ #[t, t] ty #[.slice (some ad) 0 0, .slice A m c]).run P w = (Builtin.append_ #[t, t] ty #[.slice none 0 0, .slice A m c]).run P w := by
  have h1 : ¬ m = 0 := by omega
  have h2 : Builtin.nextslicecap m 0 = m := by unfold Builtin.nextslicecap; simp [hm]
  have h3 : ¬ (m * i.bytes > 281474976710656) := by omega
  simp [Builtin.append_, run_underlying ht, sizeOf, typeInfo, hi, Builtin.lenOf, Builtin.firstCells, loadCells, loadCellsFrom, h1, h2, h3]
/-- append([]T{}, s...) in a region that draws its order: a row of its own. -/
theorem ge_append_cap0 {S : List Nat} {z9 : Nat} {i : Nat} {f : Bool} {oi : Oper} {d : Nat} {T : List (Nat × Bool × Bool)} {N : Nat} {env : List (Nat × Value)}
    (hi : ops[i]? = some oi) (hdst : oi.dst = some d) (hd : decide (d < N) = true) (hw : L.wantE ops env oi = some true) (s x : Operand) (t : TypeId)
    (ho : oi.op = .call { callee := .builtin .append, args := #[s, x], argTypes := #[t, t] })
    (e : TypeId) (size bytes : Nat) (z : Value) (ht : P.underlying t = some (.slice e)) (hinfo : (P.info? e).map (fun i => (i.zero, i.size, i.bytes)) = some (some z, size, bytes))
    (hzs : z.cells.size = size) (hsz : 0 < size) (g : Nat) (hs : L.evE a env s = .slice (some ⟨g, 0, none⟩) 0 0) (base : Nat) (hg : base ≤ g) (hg9 : ∃ fr, w.heap[g]? = some (.cells #[] e fr) ∧ fr = (0, 0))
    (A : Option Addr) (m c : Nat) (news : List Value) (hx : L.evE a env x = .slice A m c) (hl : news.length = m * size) (hA : 0 < m → ∃ ad, A = some ad ∧ CellsAt w ad news) (h1 : ∀ u ∈ news, u.oneCell' = true)
    (h63 : m ≤ maxLen) (hbytes : m * bytes ≤ 140737488355328) (hbase : base ≤ w.heap.size)
    (h : ∀ A' c' w', w'.ownsRow base e size (.slice A' m c') m news → Only [] w w' → L.GrowE P ops Q S z9 T a N ((d, .slice A' m c') :: env) w') : L.GrowE P ops Q S z9 ((i, f, true) :: T) a N env w := by
  obtain ⟨fr, hg9, rfl⟩ := hg9
  rcases Nat.eq_zero_or_pos m with hm | hm
  · subst hm
    obtain rfl : news = [] := List.eq_nil_of_length_eq_zero (by omega)
    have hown : w.ownsRow base e size (.slice (some ⟨g, 0, none⟩) 0 0) 0 [] := ⟨by simp, .inr ⟨g, 0, #[], rfl, hg, hg9, Nat.le_refl _, by decide, by simp, by simp⟩⟩
    obtain ⟨ii, h2, h3, h4, h5⟩ := info_parts hinfo
    have hr : (Builtin.append_ #[t, t] oi.type #[.slice (some ⟨g, 0, none⟩) 0 0, .slice A 0 c]).run P w = .ok (.slice (some ⟨g, 0, none⟩) 0 0) w := by
      cases A <;> simp [Builtin.append_, run_underlying ht, sizeOf, typeInfo, h2, Builtin.lenOf, Builtin.firstCells, loadCells, loadCellsFrom, storeCells]
    refine L.ge_mem hi hdst hd hw (w' := w) ?_ (Only.refl _ _) (h _ _ w hown (Only.refl _ _))
    unfold execOp
    simp only [ho, resolve, invoke, builtin, Sem.run_bind, Sem.run_pure, Result.andThen_ok, List.map_toArray, List.map_cons, List.map_nil, hs, hx, hr]
  · obtain ⟨ii, h2, h3, h4, h5⟩ := info_parts hinfo
    obtain ⟨A', c', w', hr, h6, h7, h8⟩ := run_append_row (P := P) w t oi.type base e size bytes z ht hinfo hzs hsz (.slice none 0 0) 0 [] (ownsRow_nil _ _ _ _) A m c news hl hA h1 (by omega) (by rw [Nat.zero_add]; exact hbytes) hbase
    rw [← append_cap0 w t oi.type e ht ii h2 ⟨g, 0, none⟩ A m c hm (by rw [h5]; exact hbytes), Nat.zero_add] at hr
    rw [Nat.zero_add, List.nil_append] at h6
    refine L.ge_mem hi hdst hd hw (w' := w') ?_ (h7.mono (by simp [Value.ownBlock])) (h A' c' w' h6 (h7.mono (by simp [Value.ownBlock])))
    unfold execOp
    simp only [ho, resolve, invoke, builtin, Sem.run_bind, Sem.run_pure, Result.andThen_ok, List.map_toArray, List.map_cons, List.map_nil, hs, hx, hr]
end
end Go.Proofs.Ytlngfelpmebemaa
