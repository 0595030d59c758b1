/-
  What groups that came in read as.
-/
import Derived.Test.YtlngfelpmebemaaWalRg
namespace Go.Proofs.Ytlngfelpmebemaa
open Go Go.RowKit
set_option linter.unusedSimpArgs false
set_option linter.unusedVariables false
abbrev WriteR := Int × List Int × Unit
def rWrite : Rd WriteR := rdPair 1 (rdInt .i64) (rdPair 1 (rdSl 1 1 (rdInt .u8)) rdUnit)
abbrev GroupR := List Int × Int × List WriteR × Unit
def rGroup : Rd GroupR := rdPair 1 (rdSl 1 8 (rdInt .i64)) (rdPair 1 (rdInt .u8) (rdPair 1 (rdSl 2 32 rWrite) rdUnit))
section
variable {H : Type} (enc : TypeId × Value → H) (w : World)
theorem write_opens : Opens enc Try.prog w 63 rWrite := opens_struct Try.underlying63 (opens_cons rfl (by kernel_rfl) (opens_int Try.underlying3) (opens_cons rfl (by kernel_rfl) (opens_sl Try.underlying43 (by kernel_rfl) (by kernel_rfl) (opens_int Try.underlying5)) opens_nil))
theorem group_opens : Opens enc Try.prog w 37 rGroup := opens_struct Try.underlying37 (opens_cons rfl (by kernel_rfl) (opens_sl Try.underlying26 (by kernel_rfl) (by kernel_rfl) (opens_int Try.underlying3)) (opens_cons rfl (by kernel_rfl) (opens_int Try.underlying5) (opens_cons rfl (by kernel_rfl) (opens_sl Try.underlying34 (by kernel_rfl) (by kernel_rfl) (write_opens enc w)) opens_nil)))
theorem groups_opens : Opens enc Try.prog w 25 (rdSl 3 56 rGroup) := opens_sl Try.underlying25 (by kernel_rfl) (by kernel_rfl) (group_opens enc w)
theorem ints_opens : Opens enc Try.prog w 26 (rdSl 1 8 (rdInt .i64)) := opens_sl Try.underlying26 (by kernel_rfl) (by kernel_rfl) (opens_int Try.underlying3)
end
theorem bytes_in {w : World} {B : Option Addr} {bs : List Int} (h : rdRow 1 (rdInt .u8) w B bs) : ∃ l : List UInt8, l.length = bs.length ∧ (l ≠ [] → ∃ bd, B = some bd ∧ bd.block < w.heap.size ∧ CellsAt w bd (bcells l)) := by
  refine ⟨bs.map fun x => UInt8.ofNat x.toNat, by simp, ?_⟩
  intro hne
  have h0 : 0 < bs.length := by
    rcases Nat.eq_zero_or_pos bs.length with h | h
    · exact absurd (by rw [List.eq_nil_of_length_eq_zero h]; rfl) hne
    · exact h
  obtain ⟨ad, v, hB, hc0, _⟩ := rdRow_one h 0 h0
  refine ⟨ad, hB, by have := block_lt_of_cell hc0; rwa [add_block] at this, ?_⟩
  intro j v hj
  rw [bcells_get, List.getElem?_map] at hj
  cases hx : bs[j]? with
  | none => rw [hx] at hj; simp at hj
  | some x =>
    obtain ⟨hlt, hxe⟩ := List.getElem?_eq_some_iff.1 hx
    obtain ⟨ad', u, hB', hc, hu, hwf⟩ := rdRow_one h j hlt
    obtain rfl := Option.some.inj (hB.symm.trans hB')
    rw [hx] at hj
    have hr := wf_u8 hwf
    rw [hxe] at hr hu
    obtain rfl : u = .int .u8 x := by simpa using hu
    rw [hc, ← hj]
    simp [bcell]
    omega
theorem ints_in {w : World} {A : Option Addr} {xs : List Int} (h : rdRow 1 (rdInt .i64) w A xs) : ZAt w A xs ∧ ∀ x ∈ xs, x ≤ 9223372036854775807 := by
  refine ⟨fun i x hx => ?_, fun x hx => ?_⟩
  · obtain ⟨hlt, rfl⟩ := List.getElem?_eq_some_iff.1 hx
    obtain ⟨ad, u, hA, hc, hu, _⟩ := rdRow_one h i hlt
    obtain rfl : u = .int .i64 xs[i] := by simpa using hu
    exact ⟨ad, hA, hc⟩
  · obtain ⟨i, hi, rfl⟩ := List.getElem_of_mem hx
    obtain ⟨_, _, _, _, _, hwf⟩ := rdRow_one h i hi
    exact (wf_i64 hwf).2
theorem writes_in {w : World} {A : Option Addr} {xs : List WriteR} (h : rdRow 2 rWrite w A xs) : ∃ ys : List Wr, ys.length = xs.length ∧ WritesI w.heap.size w A ys ∧ ∀ y ∈ ys, y.1 ≤ 9223372036854775807 := by
  have hex : ∀ i, i < xs.length → ∃ y : Wr, y.1 ≤ 9223372036854775807 ∧ ∃ ad B cap, A = some ad ∧ CellsAt w (ad.add (i * 2)) [.int .i64 y.1, .slice B y.2.length cap] ∧ y.2.length ≤ cap ∧ (y.2 ≠ [] → ∃ bd, B = some bd ∧ bd.block < w.heap.size ∧ CellsAt w bd (bcells y.2)) := by
    intro i hi
    obtain ⟨ad, es, h1, h2, h3, h4⟩ := h i _ (List.getElem?_eq_getElem hi)
    match es, h2 with
    | [a, b], _ =>
      obtain ⟨⟨ha, hwf⟩, ⟨B, cap, hb, hc1, hc2, _, hr⟩, _⟩ := h4
      simp at ha hb
      obtain ⟨l, hl, hby⟩ := bytes_in hr
      refine ⟨(xs[i].1, l), (wf_i64 hwf).2, ad, B, cap, h1, ?_, by rw [hl]; exact hc1, hby⟩
      rw [hl, ← ha, ← hb]
      exact h3
  haveI : Inhabited Wr := ⟨(0, [])⟩
  obtain ⟨f, hf⟩ := Go.Deep.choose_lt hex
  refine ⟨(List.range xs.length).map f, by simp, ?_, ?_⟩
  · intro i x hx
    have hi : i < xs.length := by have := (List.getElem?_eq_some_iff.1 hx).1; simpa using this
    rw [List.getElem?_map, List.getElem?_range hi] at hx
    cases hx
    exact (hf i hi).2
  · intro x hx
    obtain ⟨i, hi, rfl⟩ := List.mem_map.1 hx
    exact (hf i (by simpa using hi)).1
/-- A group that came in. -/
structure Gp where
  at_ : List Int
  x : Int
  odd : List Wr
def GpIn (w : World) (cs : List Value) (G : Gp) : Prop := ∃ AA ca AO co, cs = [.slice AA G.at_.length ca, .int .u8 G.x, .slice AO G.odd.length co] ∧ ZAt w AA G.at_ ∧ WritesI w.heap.size w AO G.odd ∧ (∀ y ∈ G.odd, y.1 ≤ 9223372036854775807) ∧ (∀ z ∈ G.at_, z ≤ 9223372036854775807) ∧ G.at_.length ≤ 140737488351232 ∧ G.odd.length ≤ 140737488351232
theorem group_in {w : World} {es : List Value} {y : GroupR} (hl : es.length = 3) (h : rGroup w es y) : ∃ G, GpIn w es G := by
  match es, hl with
  | [a, b, c], _ =>
    obtain ⟨⟨AA, ca, ha, hl0, hb0, _, hr0⟩, ⟨hb, _⟩, ⟨AO, co, hc, hl1, hb1, _, hr1⟩, _⟩ := h
    simp at ha hb hc
    obtain ⟨ys, hyl, hys, hyb⟩ := writes_in hr1
    obtain ⟨hz, hzb⟩ := ints_in hr0
    refine ⟨⟨y.1, y.2.1, ys⟩, AA, ca, AO, co, ?_, hz, hys, hyb, hzb, by show y.1.length ≤ _; omega, by show ys.length ≤ _; omega⟩
    rw [ha, hb, hc]
    show _ = [Value.slice AA y.1.length ca, .int .u8 y.2.1, .slice AO ys.length co]
    rw [hyl]
theorem groups_in {w : World} {A : Option Addr} {xs : List GroupR} (h : rdRow 3 rGroup w A xs) : ∃ Gs : List Gp, Gs.length = xs.length ∧ ∀ (i : Nat) (G : Gp), Gs[i]? = some G → ∃ ad cs, A = some ad ∧ CellsAt w (ad.add (i * 3)) cs ∧ GpIn w cs G := by
  have hex : ∀ i, i < xs.length → ∃ G : Gp, ∃ ad cs, A = some ad ∧ CellsAt w (ad.add (i * 3)) cs ∧ GpIn w cs G := by
    intro i hi
    obtain ⟨ad, es, h1, h2, h3, h4⟩ := h i _ (List.getElem?_eq_getElem hi)
    obtain ⟨G, hG⟩ := group_in h2 h4
    exact ⟨G, ad, es, h1, h3, hG⟩
  haveI : Inhabited Gp := ⟨⟨[], 0, []⟩⟩
  obtain ⟨f, hf⟩ := Go.Deep.choose_lt hex
  refine ⟨(List.range xs.length).map f, by simp, fun i G hG => ?_⟩
  have hi : i < xs.length := by have := (List.getElem?_eq_some_iff.1 hG).1; simpa using this
  rw [List.getElem?_map, List.getElem?_range hi] at hG
  cases hG
  exact hf i hi
def Gp.made (G : Gp) : List Wr := madeP G.x G.at_ G.odd
theorem Gp.made_length (G : Gp) : G.made.length = G.at_.length + G.odd.length := by unfold Gp.made madeP; rw [List.length_append, madeTo_length]
theorem Gp.made_hi {w : World} {cs : List Value} {G : Gp} (h : GpIn w cs G) : ∀ x ∈ G.made, x.1 ≤ 9223372036854775807 := by
  obtain ⟨_, _, _, _, _, _, _, h1, h2, _⟩ := h
  intro x hx
  unfold Gp.made madeP madeTo at hx
  rcases List.mem_append.1 hx with hx | hx
  · obtain ⟨i, hi, rfl⟩ := List.mem_map.1 hx
    have hi : i < G.at_.length := by simpa using hi
    show G.at_.getD i 0 ≤ _
    rw [List.getD_eq_getElem?_getD, List.getElem?_eq_getElem hi]
    exact h2 _ (List.getElem_mem hi)
  · exact h1 x hx
end Go.Proofs.Ytlngfelpmebemaa
