/-
  What arguments read as: readings of cells as plain data, and that whatever comes in has one. No program in sight.
-/
import Derived.Test.YtlngfelpmebemaaK
import Derived.Deep.Slices
import Derived.SizedLaws
import Derived.ChangeArms
namespace Go.Proofs.Ytlngfelpmebemaa
open Go.RowKit Go.Deep

/-- A reading: these cells, in this world, are this datum. -/
abbrev Rd (α : Type) := World → List Value → α → Prop
def rdInt (k : IntKind) : Rd Int := fun _ cs x => cs = [.int k x] ∧ (Lit.int k x).wf = true
def rdBool : Rd Bool := fun _ cs x => cs = [.bool x]
def rdStr : Rd ByteArray := fun _ cs x => cs = [.string x] ∧ x.size ≤ 140737488351232
def rdUnit : Rd Unit := fun _ _ _ => True
def rdPair {α β : Type} (n : Nat) (R : Rd α) (T : Rd β) : Rd (α × β) := fun w cs x => R w (cs.take n) x.1 ∧ T w (cs.drop n) x.2
/-- The elements from an address on. -/
def rdRow {α : Type} (n : Nat) (R : Rd α) (w : World) (A : Option Addr) (xs : List α) : Prop :=
  ∀ i x, xs[i]? = some x → ∃ ad es, A = some ad ∧ es.length = n ∧ CellsAt w (ad.add (i * n)) es ∧ R w es x
def rdSl {α : Type} (n bytes : Nat) (R : Rd α) : Rd (List α) := fun w cs xs =>
  ∃ A cap, cs = [.slice A xs.length cap] ∧ xs.length ≤ cap ∧ cap * bytes ≤ 140737488351232 ∧ cap ≤ 9223372036854775807 ∧ rdRow n R w A xs

/-- What is read is as it was, where what was there is. -/
def Stable {α : Type} (R : Rd α) : Prop := ∀ w w' cs x, R w cs x → Below w.heap.size w w' → R w' cs x
theorem rdInt_stable (k : IntKind) : Stable (rdInt k) := fun _ _ _ _ h _ => h
theorem rdBool_stable : Stable rdBool := fun _ _ _ _ h _ => h
theorem rdStr_stable : Stable rdStr := fun _ _ _ _ h _ => h
theorem rdUnit_stable : Stable rdUnit := fun _ _ _ _ h _ => h
theorem rdPair_stable {α β : Type} {n : Nat} {R : Rd α} {T : Rd β} (h : Stable R) (k : Stable T) : Stable (rdPair n R T) := fun _ _ _ _ hx hb => ⟨h _ _ _ _ hx.1 hb, k _ _ _ _ hx.2 hb⟩
theorem CellsAt.below {w w' : World} {ad : Addr} {cs : List Value} (h : CellsAt w ad cs) (hb : Below w.heap.size w w') : CellsAt w' ad cs :=
  fun j v hj => by have := h j v hj; exact (hb.cell (by exact block_lt_of_cell this)).trans this
theorem rdRow_below {α : Type} {n : Nat} {R : Rd α} (h : Stable R) {w w' : World} {A : Option Addr} {xs : List α} (hx : rdRow n R w A xs) (hb : Below w.heap.size w w') : rdRow n R w' A xs := by
  intro i x hi
  obtain ⟨ad, es, h1, h2, h3, h4⟩ := hx i x hi
  exact ⟨ad, es, h1, h2, h3.below hb, h _ _ _ _ h4 hb⟩
theorem rdSl_stable {α : Type} {n bytes : Nat} {R : Rd α} (h : Stable R) : Stable (rdSl n bytes R) := by
  rintro w w' cs xs ⟨A, cap, h1, h2, h3, h4, h5⟩ hb
  exact ⟨A, cap, h1, h2, h3, h4, rdRow_below h h5 hb⟩
/-- One cell of an element that is one. -/
theorem rdRow_one {α : Type} {R : Rd α} {w : World} {A : Option Addr} {xs : List α} (h : rdRow 1 R w A xs) (i : Nat) (hi : i < xs.length) : ∃ ad v, A = some ad ∧ w.cell? (ad.add i) = some v ∧ R w [v] xs[i] := by
  obtain ⟨ad, es, h1, h2, h3, h4⟩ := h i _ (List.getElem?_eq_getElem hi)
  match es, h2 with
  | [v], _ =>
    refine ⟨ad, v, h1, ?_, h4⟩
    have := h3 0 v rfl
    rwa [Nat.mul_one, Go.Deep.add_add, Nat.add_zero] at this
theorem rdRow_cell {w : World} {ad : Addr} {i n j : Nat} {es : List Value} {v : Value} (h : CellsAt w (ad.add (i * n)) es) (hj : es[j]? = some v) : w.cell? (ad.add (i * n + j)) = some v := by
  have := h j v hj
  rwa [Go.Deep.add_add] at this

/-- A field of a struct, as the walk spells its address. -/
theorem cellsAt_head {w : World} {ad : Addr} {cs : List Value} {v : Value} (h : CellsAt w ad cs) (hv : cs[0]? = some v) : w.cell? ad = some v := by
  have := h 0 v hv
  simpa [Addr.add] using this
theorem cellsAt_field {w : World} {ad : Addr} {cs : List Value} {v : Value} (h : CellsAt w ad cs) (j : Nat) (hj : 0 < j) (hv : cs[j]? = some v) : w.cell? ⟨ad.block, ad.off + j, none⟩ = some v := by
  have := h j v hv
  have e : ad.add j = ⟨ad.block, ad.off + j, none⟩ := by unfold Addr.add; rw [if_neg (by omega)]
  rwa [e] at this
section opens
variable {H : Type} {enc : TypeId × Value → H} {P : Program} {w : World}
/-- Whatever cells read as a datum of this type have this reading. -/
def Opens {α : Type} (enc : TypeId × Value → H) (P : Program) (w : World) (t : TypeId) (R : Rd α) : Prop :=
  ∀ fuel cs x, DataW.trod enc P w 0 (fun _ => true) true fuel t cs = some x → (x.1.weights P t).all (· ≤ reachBytes) = true → ∃ y, R w cs y
theorem opens_int {t : TypeId} {k : IntKind} (ht : P.underlying t = some (.int k)) : Opens enc P w t (rdInt k) := by
  intro fuel cs x h _
  obtain ⟨n, rfl, _, hw⟩ := DataW.trod_int ht h
  exact ⟨n, rfl, hw⟩
theorem opens_bool {t : TypeId} (ht : P.underlying t = some .bool) : Opens enc P w t rdBool := by
  intro fuel cs x h _
  obtain ⟨b, rfl, _⟩ := DataW.trod_bool ht h
  exact ⟨b, rfl⟩
theorem opens_str {t : TypeId} (ht : P.underlying t = some .string) : Opens enc P w t rdStr := by
  intro fuel cs x h hs
  obtain ⟨s, rfl, rfl, _⟩ := DataW.trod_string ht h
  refine ⟨s, rfl, ?_⟩
  simp only [DataW.weights, List.all_cons, List.all_nil, Bool.and_true, decide_eq_true_eq, Array.length_toList] at hs
  exact hs
theorem weightsAll_mem {e : TypeId} {d : DataW H} : ∀ {l : List (DataW H)}, d ∈ l → ∀ m, m ∈ d.weights P e → m ∈ DataW.weightsAll P e l
  | x :: l, hd, m, hm => by
    rw [DataW.weightsAll, List.mem_append]
    rcases List.mem_cons.1 hd with rfl | hd
    · exact .inl hm
    · exact .inr (weightsAll_mem hd m hm)
theorem opens_sl {α : Type} [Inhabited α] {t e : TypeId} {R : Rd α} {n bytes : Nat} (ht : P.underlying t = some (.slice e)) (hn : P.cellsOf e = n) (hb : P.bytesOf e = bytes) (hR : Opens enc P w e R) : Opens enc P w t (rdSl n bytes R) := by
  subst hn
  subst hb
  intro fuel cs x h hs
  rcases open_slice ht h with ⟨rfl, rfl⟩ | ⟨a, len, cap, m, k, D, Pl, rfl, _, hl, hm, hmm, rfl, hi⟩
  · exact ⟨[], none, 0, rfl, by simp, by simp, by simp, fun i x hx => by simp at hx⟩
  · simp only [if_true] at hmm
    subst hmm
    have hw : ∀ i, i < m → ((D i).weights P e).all (· ≤ reachBytes) = true := by
      intro i him
      rw [List.all_eq_true] at hs ⊢
      intro z hz
      refine hs z ?_
      simp only [DataW.weights, ht]
      refine List.mem_cons_of_mem _ ?_
      rw [List.mem_append]
      by_cases hil : i < len
      · exact .inl (weightsAll_mem (List.mem_map.2 ⟨i, List.mem_range.2 hil, rfl⟩) z hz)
      · exact .inr (weightsAll_mem (List.mem_map.2 ⟨i - len, List.mem_range.2 (by omega), by rw [show len + (i - len) = i by omega]⟩) z hz)
    have hcap : m * P.bytesOf e ≤ 140737488351232 := by
      rw [List.all_eq_true] at hs
      have := hs ((((List.range len).map D).length + ((List.range (m - len)).map fun j => D (len + j)).length) * P.bytesOf e) (by simp [DataW.weights, ht])
      simp only [List.length_map, List.length_range, decide_eq_true_eq] at this
      rw [show len + (m - len) = m by omega] at this
      exact this
    obtain ⟨f, hf⟩ := choose_lt (α := α) (n := len) (p := fun i y => ∃ es, es.length = P.cellsOf e ∧ CellsAt w (a.add (i * P.cellsOf e)) es ∧ R w es y) (fun i hil => by
      obtain ⟨es, hc, htr⟩ := hi i (by omega)
      obtain ⟨y, hy⟩ := hR k es _ htr (hw i (by omega))
      obtain ⟨_, hlen, hat⟩ := World.cells?_some hc
      refine ⟨y, es, hlen, fun j v hj => ?_, hy⟩
      have hjl := (List.getElem?_eq_some_iff.1 hj).1
      exact (hat j (by omega)).trans hj)
    refine ⟨(List.range len).map f, some a, m, by simp, by simpa using hl, hcap, by unfold maxLen at hm; omega, ?_⟩
    intro i y hy
    have hil : i < len := by have := (List.getElem?_eq_some_iff.1 hy).1; simpa using this
    rw [List.getElem?_map, List.getElem?_range hil] at hy
    cases hy
    obtain ⟨es, h1, h2, h3⟩ := hf i hil
    exact ⟨a, es, rfl, h1, h2, h3⟩
/-- The fields from one on. -/
def OpensFs {α : Type} (enc : TypeId × Value → H) (P : Program) (w : World) (off : Nat) (fs : List Field) (R : Rd α) : Prop :=
  ∀ (fuel : Nat) (cs : List Value) (ys : List (DataW H × List MemPlace)), ys.length = fs.length → (∀ (i : Nat) (f : Field), fs[i]? = some f → DataW.trod enc P w 0 (fun _ => true) true fuel f.type ((cs.drop f.offset).take (P.cellsOf f.type)) = ys[i]?) →
    (DataW.weightsEach P (fs.map (·.type)) (ys.map (·.1))).all (· ≤ reachBytes) = true → ∃ y, R w (cs.drop off) y
theorem opens_nil {off : Nat} : OpensFs enc P w off [] rdUnit := fun _ _ _ _ _ _ => ⟨(), trivial⟩
theorem opens_cons {α β : Type} {off n : Nat} {f : Field} {fs : List Field} {R : Rd α} {T : Rd β} (hoff : f.offset = off) (hn : P.cellsOf f.type = n) (hR : Opens enc P w f.type R) (hT : OpensFs enc P w (off + n) fs T) : OpensFs enc P w off (f :: fs) (rdPair n R T) := by
  subst hoff
  subst hn
  intro fuel cs ys hl hf hs
  match ys, hl with
  | y :: ys, hl =>
    have h0 := hf 0 f rfl
    simp only [List.getElem?_cons_zero] at h0
    have hs' : ((y.1.weights P f.type).all (· ≤ reachBytes) = true) ∧ (DataW.weightsEach P (fs.map (·.type)) (ys.map (·.1))).all (· ≤ reachBytes) = true := by
      simpa [DataW.weightsEach, List.all_append, Bool.and_eq_true] using hs
    obtain ⟨a, ha⟩ := hR fuel _ y h0 hs'.1
    obtain ⟨b, hb⟩ := hT fuel cs ys (by simpa using hl) (fun i g hg => by simpa using hf (i + 1) g (by simpa using hg)) hs'.2
    exact ⟨(a, b), ha, by rw [List.drop_drop]; exact hb⟩
theorem opens_struct {α : Type} {t : TypeId} {fs : Array Field} {R : Rd α} (ht : P.underlying t = some (.struct fs)) (hR : OpensFs enc P w 0 fs.toList R) : Opens enc P w t R := by
  intro fuel cs x h hs
  obtain ⟨ys, n, rfl, rfl, hlen, hyl, hf⟩ := DataW.trod_struct ht h
  have := hR n cs ys (by simpa using hyl) (fun i f hi => hf i f (by simpa using hi)) (by simpa [DataW.weights, ht] using hs)
  simpa using this
/-- An argument's reading. -/
theorem opens_arg {α : Type} {t : TypeId} {R : Rd α} {v : Value} {d : DataW H} {p : List MemPlace} (hR : Opens enc P w t R) (h : DataW.Trod enc P w 0 (fun _ => true) true t v d p) (hs : (d.weights P t).all (· ≤ reachBytes) = true) : ∃ y, R w v.cells.toList y := by
  obtain ⟨fuel, hf⟩ := h
  exact hR fuel _ _ hf hs
theorem weights_each {ts : List TypeId} {ds : List (DataW H)} (h : (DataW.weightsEach P ts ds).all (· ≤ reachBytes) = true) {j : Nat} {t : TypeId} {d : DataW H} (ht : ts[j]? = some t) (hd : ds[j]? = some d) : (d.weights P t).all (· ≤ reachBytes) = true := by
  rw [List.all_eq_true] at h ⊢
  exact fun z hz => h z (DataW.weights_mem_each ht hd z hz)
end opens
end Go.Proofs.Ytlngfelpmebemaa
