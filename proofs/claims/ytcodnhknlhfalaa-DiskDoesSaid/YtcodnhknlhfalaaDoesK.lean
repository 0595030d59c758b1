/-
  Both disks side by side; one call of both; are they alike?
-/
import Derived.Test.YtcodnhknlhfalaaOps
import Derived.Test.YtcodnhknlhfalaaRefN
import Derived.Test.YtcodnhknlhfalaaA
namespace Go.Proofs.Ytcodnhknlhfalaa
open Go.RowKit
set_option linter.unusedSimpArgs false
set_option linter.unusedVariables false
/-- string(nil) -/
theorem run_string_none {P : Program} (w : World) (src dst e : TypeId) (hs : P.underlying src = some (.slice e)) (he : P.underlying e = some (.int .u8)) (hd : P.underlying dst = some .string) :
    (convert src dst (.slice none 0 0)).run P w = .ok (.string ⟨#[]⟩) w := by
  rw [run_convert_bytes_string w src dst e _ _ _ hs he hd]
  rfl
/-- Where both lie. -/
structure Where where
  g : Nat
  s : Nat
  cp : Nat
  r : List Value
  g2 : Nat
  s2 : Nat
  cp2 : Nat
  r2 : List Value
def Where.blocks (p : Where) : List Nat := [p.g, p.s, p.g2, p.s2]
/-- The program's disk and the document's are the same disk D. -/
structure Two (w : World) (p : Where) (D : Dk) : Prop where
  dk : IsDk w p.g p.s p.cp p.r D
  rf : IsRf w p.g2 p.s2 p.cp2 p.r2 D
theorem Two.apart {w : World} {p : Where} {D : Dk} (h : Two w p D) : p.g ≠ p.g2 ∧ p.g ≠ p.s2 ∧ p.s ≠ p.g2 ∧ p.s ≠ p.s2 := by
  obtain ⟨⟨h1, h2⟩, ⟨h3, h4⟩⟩ := h
  refine ⟨fun e => ?_, fun e => ?_, fun e => ?_, fun e => ?_⟩
  · rw [e] at h1; have := h1.symm.trans h3; simp at this
  · rw [e] at h1; have := h1.symm.trans h4; simp at this
  · rw [e] at h2; have := h2.symm.trans h3; simp at this
  · rw [e] at h2; have := h2.symm.trans h4; simp at this
theorem Two.lt {w : World} {p : Where} {D : Dk} (h : Two w p D) : ∀ k ∈ p.blocks, k < w.heap.size := by
  intro k hk
  simp only [Where.blocks, List.mem_cons, List.not_mem_nil, or_false] at hk
  rcases hk with rfl | rfl | rfl | rfl
  · exact heap_lt h.dk.hd
  · exact heap_lt h.dk.sec
  · exact heap_lt h.rf.hd
  · exact heap_lt h.rf.sec
theorem Two.only {S : List Nat} {w w' : World} {p : Where} {D : Dk} (h : Two w p D) (ho : Only S w w') (hS : ∀ k ∈ p.blocks, k ∉ S) : Two w' p D :=
  ⟨h.dk.only ho (hS _ (by simp [Where.blocks])) (hS _ (by simp [Where.blocks])), h.rf.only ho (hS _ (by simp [Where.blocks])) (hS _ (by simp [Where.blocks]))⟩
/-- What becomes of the disk by a call. -/
def Dk.step (D : Dk) (kind at_ : Int) (l : List UInt8) : Dk :=
  if kind = 0 then (D.write at_ l).2
  else if kind = 5 then (D.write at_ (sec (l.headD 0))).2
  else if kind = 2 then D.cut at_
  else if kind = 3 then D.up
  else D
theorem write_more (D : Dk) (i : Int) (b : List UInt8) : (D.write i b).2.writes ≤ D.writes + 1 ∧ (D.write i b).2.L.length = D.L.length := by
  unfold Dk.write
  split
  · exact ⟨by simp only []; omega, rfl⟩
  split
  · exact ⟨by simp only []; omega, rfl⟩
  split
  · exact ⟨by simp only []; omega, rfl⟩
  split
  · exact ⟨by simp only []; omega, rfl⟩
  · exact ⟨by simp only []; omega, by simp⟩
theorem step_ok {D : Dk} (h : D.Ok) (kind at_ : Int) (l : List UInt8) (ha : at_ ≤ 9223372036854775807) : (D.step kind at_ l).Ok ∧ (D.step kind at_ l).writes ≤ D.writes + 1 ∧ (D.step kind at_ l).L.length = D.L.length := by
  unfold Dk.step
  split
  · exact ⟨Dk.write_ok h _ _, write_more _ _ _⟩
  split
  · exact ⟨Dk.write_ok h _ _, write_more _ _ _⟩
  split
  · exact ⟨Dk.cut_ok h _ ha, by simp only [Dk.cut]; omega, rfl⟩
  split
  · exact ⟨Dk.up_ok h, by simp only [Dk.up]; omega, rfl⟩
  · exact ⟨h, by omega, rfl⟩
/-- Bytes that came in. -/
theorem bytes_at {w : World} {B : Option Addr} {bs : List Int} (h : rdRow 1 (rdInt .u8) w B bs) :
    ∃ l : List UInt8, l.length = bs.length ∧ ((l.headD 0).toNat : Int) = fst8 bs ∧ (0 < bs.length → ∃ ad, B = some ad ∧ CellsAt w ad (bcells l)) := by
  refine ⟨bs.map fun x => UInt8.ofNat x.toNat, by simp, ?_, ?_⟩
  · have hr := fst8_range bs w B h
    cases bs with
    | nil => rfl
    | cons x bs => simp [fst8] at hr ⊢; omega
  · intro h0
    obtain ⟨ad, v, hB, _, _⟩ := rdRow_one h 0 h0
    refine ⟨ad, hB, ?_⟩
    intro j v hj
    rw [bcells_get, List.getElem?_map] at hj
    cases hx : bs[j]? with
    | none => rw [hx] at hj; simp at hj
    | some x =>
      obtain ⟨hlt, hxe⟩ := List.getElem?_eq_some_iff.1 hx
      obtain ⟨ad', u, hB', hc, hu, hwf⟩ := rdRow_one h j hlt
      obtain rfl := Option.some.inj (hB.symm.trans hB')
      rw [hx] at hj
      have hr := wf_u8 hwf
      rw [hxe] at hr hu
      obtain rfl : u = .int .u8 x := by simpa using hu
      rw [hc, ← hj]
      simp [bcell]
      omega
/-- So many bytes in a block of their own, not among the elder ones. -/
def Own8 (w : World) (A : Option Addr) (n B0 : Nat) : Prop := 0 < n → ∃ q t cur, A = some ⟨q, 0, none⟩ ∧ B0 ≤ q ∧ w.heap[q]? = some (.cells cur t (0, 0)) ∧ ∀ j, j < n → ∃ u : Int, cur[j]? = some (.int .u8 u)
theorem Own8.set {w : World} {q n B0 k : Nat} (h : Own8 w (some ⟨q, 0, none⟩) n B0) (u : Int) : Own8 (w.setCell ⟨q, k, none⟩ (.int .u8 u)) (some ⟨q, 0, none⟩) n B0 := by
  intro h0
  obtain ⟨q', t, cur, hq, hb, hh, hj⟩ := h h0
  obtain rfl : q = q' := by simpa using hq
  refine ⟨q, t, cur.setIfInBounds k (.int .u8 u), rfl, hb, heap_setCell_same w q k _ _ _ hh, fun j hlt => ?_⟩
  obtain ⟨x, hx⟩ := hj j hlt
  rw [Array.getElem?_setIfInBounds]
  by_cases hkj : k = j
  · subst hkj
    exact ⟨u, by rw [if_pos rfl, if_pos (Array.getElem?_eq_some_iff.1 hx).1]⟩
  · exact ⟨x, by rw [if_neg hkj]; exact hx⟩
theorem Own8.only {S : List Nat} {w w' : World} {A : Option Addr} {n B0 : Nat} (h : Own8 w A n B0) (ho : Only S w w') (hS : ∀ q, B0 ≤ q → q ∉ S) : Own8 w' A n B0 := by
  intro h0
  obtain ⟨q, t, cur, hq, hb, hh, hj⟩ := h h0
  exact ⟨q, t, cur, hq, hb, ho.heap hh (hS q hb), hj⟩
theorem Own8.cell {w : World} {A : Option Addr} {n B0 : Nat} (h : Own8 w A n B0) (k : Nat) (hk : k < n) : ∃ q, ∃ u : Int, A = some ⟨q, 0, none⟩ ∧ B0 ≤ q ∧ w.cell? ⟨q, k, none⟩ = some (.int .u8 u) ∧ w.frozen? ⟨q, k, none⟩ = false := by
  obtain ⟨q, t, cur, hq, hb, hh, hj⟩ := h (by omega)
  obtain ⟨u, hu⟩ := hj k hk
  exact ⟨q, u, hq, hb, by rw [cell_of_row w q k _ _ _ hh]; exact hu, frozen_of_row w q k _ _ hh⟩
theorem Own8.row {w : World} {q c B0 : Nat} {l : List UInt8} {t : TypeId} (hb : B0 ≤ q) (h : w.heap[q]? = some (.cells (bcells l).toArray t (0, 0))) (n : Nat) (hn : l.length = n) : Own8 w (some ⟨q, 0, none⟩) n B0 := by
  subst hn
  exact fun _ => ⟨q, t, _, rfl, hb, h, fun j hj => ⟨(l[j].toNat : Int), by rw [List.getElem?_toArray, bcells_get, List.getElem?_eq_getElem hj]; rfl⟩⟩
theorem Own8.owns {w : World} {base B0 n : Nat} {A : Option Addr} {c : Nat} {l : List UInt8} (h : w.ownsRow base 5 1 (.slice A n c) n (bcells l)) (hb : B0 ≤ base) : Own8 w A n B0 := by
  intro h0
  rcases h.2 with ⟨_, h1⟩ | ⟨g, cap, cur, hv, hg, hh, _, _, _, ht⟩
  · omega
  · obtain ⟨rfl, _⟩ : A = some ⟨g, 0, none⟩ ∧ True := by simp at hv; exact ⟨hv.1, trivial⟩
    refine ⟨g, _, cur, rfl, by omega, hh, fun j hj => ?_⟩
    have hl : l.length = n := by have := h.1; rw [bcells_length] at this; omega
    have e : (cur.toList.take (n * 1))[j]? = (bcells l)[j]? := by rw [ht]
    rw [List.getElem?_take, if_pos (by omega), bcells_get, List.getElem?_eq_getElem (l := l) (by omega)] at e
    exact ⟨(l[j].toNat : Int), by simpa [bcell] using e⟩
/-- The bytes of such a row. -/
theorem owns_cells {w : World} {base n : Nat} {A : Option Addr} {c : Nat} {l : List UInt8} (h : w.ownsRow base 5 1 (.slice A n c) n (bcells l)) (h0 : l ≠ []) : ∃ ad, A = some ad ∧ CellsAt w ad (bcells l) ∧ base ≤ ad.block := by
  have hl : l.length = n := by have := h.1; rw [bcells_length] at this; omega
  rcases h.2 with ⟨_, h1⟩ | ⟨g, cap, cur, hv, hg, hh, _, _, _, ht⟩
  · subst h1; exact absurd (List.eq_nil_of_length_eq_zero hl) h0
  · obtain ⟨rfl, _⟩ : A = some ⟨g, 0, none⟩ ∧ True := by simp at hv; exact ⟨hv.1, trivial⟩
    refine ⟨_, rfl, ?_, hg⟩
    intro j v hj
    have e : (⟨g, 0, none⟩ : Addr).add j = ⟨g, j, none⟩ := by unfold Addr.add; split <;> simp_all
    have hjl : j < n := by have := (List.getElem?_eq_some_iff.1 hj).1; rw [bcells_length] at this; omega
    have e2 : (cur.toList.take (n * 1))[j]? = (bcells l)[j]? := by rw [ht]
    rw [List.getElem?_take, if_pos (by omega)] at e2
    rw [e, cell_of_row w g j _ _ _ hh, ← Array.getElem?_toList, e2, hj]
theorem rwrite_n (g s cp : Nat) (r : List Value) (D : Dk) (i : Int) (A : Option Addr) (c : Nat) (b : List UInt8) (n : Nat) (hn : b.length = n) (w : World) (h : IsRf w g s cp r D) (hD : D.Ok) (hwr : D.writes < 1000000000)
    (hA : b ≠ [] → ∃ ad, A = some ad ∧ CellsAt w ad (bcells b) ∧ ad.block ≠ g) :
    Calls Try.prog 27 #[.pointer (some ⟨g, 0, none⟩), .int .i64 i, .slice A n c] w fun e w' => e = .returned (.int .i64 (D.write i b).1) ∧ IsRf w' g s cp r (D.write i b).2 ∧ Only [g, s] w w' := by
  subst hn; exact rwrite_any g s cp r D i A c b w h hD hwr hA
theorem write_n (g s cp : Nat) (r : List Value) (D : Dk) (i : Int) (A : Option Addr) (c : Nat) (b : List UInt8) (n : Nat) (hn : b.length = n) (w : World) (h : IsDk w g s cp r D) (hD : D.Ok) (hwr : D.writes < 1000000000)
    (hA : b ≠ [] → ∃ ad, A = some ad ∧ CellsAt w ad (bcells b)) :
    Calls Try.prog 10 #[.pointer (some ⟨g, 0, none⟩), .int .i64 i, .slice A n c] w fun e w' => e = .returned (.int .i64 (D.write i b).1) ∧ IsDk w' g s cp r (D.write i b).2 ∧ Only [g, s] w w' := by
  subst hn; exact write_any g s cp r D i A c b w h hD hwr hA
end Go.Proofs.Ytcodnhknlhfalaa
