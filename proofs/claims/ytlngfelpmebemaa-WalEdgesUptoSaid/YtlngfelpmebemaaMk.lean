/-
  make([]byte, n) in a region that draws its order. No program in sight.
-/
import Derived.Test.YtlngfelpmebemaaCut
namespace Go.Proofs.Ytlngfelpmebemaa
open Go.RowKit
section
variable {P : Program} {ops : Array Oper} {rest : List Oper} {a : Act} {w : World} {Q : Exit → Act → World → Prop}
theorem ge_make_bytes {S : List Nat} {z9 : Nat} {i : Nat} {f : Bool} {oi : Oper} {d : Nat} {T : List (Nat × Bool × Bool)} {N : Nat} {env : List (Nat × Value)}
    (hi : ops[i]? = some oi) (hdst : oi.dst = some d) (hd : decide (d < N) = true) (hw : L.wantE ops env oi = some true) (t : TypeId) (l c : Operand) (hop : oi.op = Op.makeSlice t l c)
    (e : TypeId) (h1 : P.underlying t = some (.slice e)) (hinfo : (P.info? e).map (fun i => (i.zero, i.size, i.bytes)) = some (some (.int .u8 0), 1, 1))
    (kl kc : IntKind) (n : Nat) (hl : L.evE a env l = .int kl n) (hc : L.evE a env c = .int kc n) (b2 : n ≤ 281474976710656)
    (h : ∀ w', w'.heap[w.heap.size]? = some (.cells (bcells (List.replicate n 0)).toArray e (0, 0)) → Only [] w w' → L.GrowE P ops Q S z9 T a N ((d, .slice (some ⟨w.heap.size, 0, none⟩) n n) :: env) w') : L.GrowE P ops Q S z9 ((i, f, true) :: T) a N env w := by
  obtain ⟨ii, h2, h3, h4, h5⟩ := info_parts hinfo
  have hrun := run_make (P := P) w t e ii (.int .u8 0) h1 h2 h3 kl kc n n (by omega) (by omega) (by rw [h5]; omega) (by omega)
  have hz : madeCells (Value.cells (.int .u8 0)) (n * 1) = (bcells (List.replicate n 0)).toArray := by
    rw [show Value.cells (.int .u8 0) = #[.int .u8 0] from rfl, madeCells_one]
    unfold bcells
    rw [List.map_replicate, Nat.mul_one]
    rfl
  simp only [Int.toNat_natCast, h4, hz] at hrun
  have ho : Only [] w (w.alloc (.cells (bcells (List.replicate n 0)).toArray e)) := (Only.refl [] w).alloc _
  refine L.ge_mem hi hdst hd hw (w' := w.alloc (.cells (bcells (List.replicate n 0)).toArray e)) ?_ (ho.mono (by simp)) (h _ (heap_alloc_new w _) ho)
  unfold execOp
  simp only [hop, hl, hc, Sem.run_bind, hrun, Result.andThen, Sem.run_pure]
end
end Go.Proofs.Ytlngfelpmebemaa
