/-
  A map of one's own from int to int whose entries are all 1: what is looked up, what is entered. No program in sight.
-/
import Derived.Test.YtlngfelpmebemaaCut
namespace Go.Proofs.Ytlngfelpmebemaa
open Go Go.RowKit
set_option linter.unusedSimpArgs false
set_option linter.unusedVariables false
def setEnts (ks : List Int) (es : List MapEntry) : Prop := es.map (fun e => (e.key, e.val)) = ks.map fun k => (Value.int .i64 k, Value.int .i64 1)
def IsSet (w : World) (m : Nat) (ks : List Int) : Prop := ∃ es clock, w.heap[m]? = some (.map es clock) ∧ setEnts ks es.toList
theorem IsSet.only {S : List Nat} {w w' : World} {m : Nat} {ks : List Int} (h : IsSet w m ks) (ho : Only S w w') (hm : m ∉ S) : IsSet w' m ks := by
  obtain ⟨es, clock, h1, h2⟩ := h
  exact ⟨es, clock, ho.heap h1 hm, h2⟩
theorem IsSet.new (w : World) : IsSet (w.alloc (.map #[] 0)) w.heap.size [] := ⟨#[], 0, heap_alloc_new w _, rfl⟩
theorem findNow_set (x : Int) (ks : List Int) (es : List MapEntry) (h : setEnts ks es) (i : Nat) :
    (x ∉ ks → Instr.findNow (.int .i64) (.int .i64 x) es i = some none) ∧ (x ∈ ks → ∃ j, Instr.findNow (.int .i64) (.int .i64 x) es i = some (some (j, .int .i64 1))) := by
  induction ks generalizing es i with
  | nil =>
    obtain rfl : es = [] := by simpa [setEnts] using h
    exact ⟨fun _ => rfl, fun h => by cases h⟩
  | cons k ks ih =>
    match es, h with
    | [], h => simp [setEnts] at h
    | e :: es, h =>
      unfold setEnts at h
      simp only [List.map_cons, List.cons.injEq, Prod.mk.injEq] at h
      obtain ⟨⟨hk, hv⟩, ht⟩ := h
      have ih' := ih es ht (i + 1)
      unfold Instr.findNow
      rw [hk, hv]
      by_cases hx : x = k
      · subst hx
        refine ⟨fun h => absurd (by simp) h, fun _ => ⟨i, ?_⟩⟩
        simp [Instr.sameNow]
      · have hs : Instr.sameNow (.int .i64) (.int .i64 x) (.int .i64 k) = some false := by simp [Instr.sameNow, hx]
        rw [hs]
        exact ⟨fun h => ih'.1 (fun h2 => h (by simp [h2])), fun h => ih'.2 (by simpa [hx] using h)⟩
section
variable {P : Program}
theorem run_get_map {w : World} {r : Nat} {es : Array MapEntry} {clock : Nat} (hb : w.heap[r]? = some (.map es clock)) : (getObj r).run P w = .ok (.map es clock) w := by
  simp [getObj, Sem.run, hb]
theorem run_set_map {w : World} {r : Nat} {es : Array MapEntry} {clock : Nat} (o : Obj) (hb : w.heap[r]? = some (.map es clock)) : (setObj r o).run P w = .ok () { w with heap := w.heap.setIfInBounds r o } := by
  simp [setObj, Sem.run, hb]
theorem run_check_int (w : World) (b : Bool) (kt : TypeId) (hk : P.underlying kt = some (.int .i64)) (x : Int) : (Instr.checkKey b 10000 kt (.int .i64 x)).run P w = .ok () w := by
  rw [show (10000 : Nat) = 9999 + 1 from rfl]
  unfold Instr.checkKey
  simp [run_underlying hk, Sem.run_pure]
theorem run_lookup_set (w : World) (t kt et : TypeId) (ht : P.underlying t = some (.map kt et)) (hk : P.underlying kt = some (.int .i64)) (hz : (zeroValue et).run P w = .ok (.int .i64 0) w) (m : Nat) (ks : List Int) (h : IsSet w m ks) (x : Int) (v : Int) (hv : (x ∉ ks ∧ v = 0) ∨ (x ∈ ks ∧ v = 1)) :
    (Instr.lookup t (.map (some m)) (.int .i64 x) false).run P w = .ok (.int .i64 v) w := by
  obtain ⟨es, clock, h1, h2⟩ := h
  obtain ⟨f1, f2⟩ := findNow_set x ks es.toList h2 0
  rcases hv with ⟨hx, rfl⟩ | ⟨hx, rfl⟩
  · have hf : (Instr.findKey kt (.int .i64 x) es.toList).run P w = .ok none w := by simp [Instr.findKey, run_underlying hk, f1 hx]
    simp [Instr.lookup, run_underlying ht, run_get_map h1, run_check_int w _ kt hk x, hf, hz]
  · obtain ⟨j, hj⟩ := f2 hx
    have hf : (Instr.findKey kt (.int .i64 x) es.toList).run P w = .ok (some (j, .int .i64 1)) w := by simp [Instr.findKey, run_underlying hk, hj]
    simp [Instr.lookup, run_underlying ht, run_get_map h1, run_check_int w _ kt hk x, hf]
theorem run_update_set (w : World) (t kt et : TypeId) (ht : P.underlying t = some (.map kt et)) (hk : P.underlying kt = some (.int .i64)) (m : Nat) (ks : List Int) (h : IsSet w m ks) (x : Int) (hx : x ∉ ks) :
    ∃ w', (Instr.mapUpdate t (.map (some m)) (.int .i64 x) (.int .i64 1)).run P w = .ok () w' ∧ IsSet w' m (ks ++ [x]) ∧ Only [m] w w' := by
  obtain ⟨es, clock, h1, h2⟩ := h
  obtain ⟨f1, _⟩ := findNow_set x ks es.toList h2 0
  have hf : (Instr.findKey kt (.int .i64 x) es.toList).run P w = .ok none w := by simp [Instr.findKey, run_underlying hk, f1 hx]
  have hlt : m < w.heap.size := heap_lt h1
  refine ⟨{ w with heap := w.heap.setIfInBounds m (.map (es.push { key := .int .i64 x, val := .int .i64 1, born := clock }) (clock + 1)) }, ?_, ?_, ?_⟩
  · simp [Instr.mapUpdate, run_underlying ht, run_get_map h1, run_check_int w _ kt hk x, hf, run_set_map _ h1]
  · refine ⟨es.push { key := .int .i64 x, val := .int .i64 1, born := clock }, clock + 1, by simp [hlt], ?_⟩
    unfold setEnts at h2 ⊢
    rw [Array.toList_push, List.map_append, h2, List.map_append]
    rfl
  · refine ⟨rfl, rfl, rfl, by simp, fun k hk hn => ?_⟩
    simp at hn
    show (w.heap.setIfInBounds m _)[k]? = w.heap[k]?
    rw [Array.getElem?_setIfInBounds, if_neg (fun e => hn e.symm)]
end
end Go.Proofs.Ytlngfelpmebemaa
