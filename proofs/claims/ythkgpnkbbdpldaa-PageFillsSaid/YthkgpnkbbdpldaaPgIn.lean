/-
  What arguments of the laws read as: bytes, records.
-/
import Derived.Test.YthkgpnkbbdpldaaProg
import Derived.Test.YthkgpnkbbdpldaaPg
import Derived.Test.YthkgpnkbbdpldaaPgFree
namespace Go.Proofs.Ythkgpnkbbdpldaa
open Go.RowKit
set_option linter.unusedSimpArgs false
set_option linter.unusedVariables false
/-- Bytes that came in. -/
theorem bytes_in {w : World} {B : Option Addr} {bs : List Int} (h : rdRow 1 (rdInt .u8) w B bs) : ∃ l : List UInt8, l.length = bs.length ∧ BytesAt w B l := by
  refine ⟨bs.map fun x => UInt8.ofNat x.toNat, by simp, ?_⟩
  intro h0
  rw [List.length_map] at h0
  obtain ⟨ad, v, hB, _, _⟩ := rdRow_one h 0 h0
  refine ⟨ad, hB, ?_⟩
  intro j v hj
  rw [bcells_get, List.getElem?_map] at hj
  cases hx : bs[j]? with
  | none => rw [hx] at hj; simp at hj
  | some x =>
    obtain ⟨hlt, hxe⟩ := List.getElem?_eq_some_iff.1 hx
    obtain ⟨ad', u, hB', hc, hu, hwf⟩ := rdRow_one h j hlt
    obtain rfl := Option.some.inj (hB.symm.trans hB')
    rw [hx] at hj
    have hr := wf_u8 hwf
    rw [hxe] at hr hu
    obtain rfl : u = .int .u8 x := by simpa using hu
    rw [hc, ← hj]
    simp [bcell]
    omega
def rdRec : Rd (ByteArray × List Int × Unit) := rdPair 1 rdStr (rdPair 1 (rdSl 1 1 (rdInt .u8)) rdUnit)
theorem recs_in {w : World} {A : Option Addr} {xs : List (ByteArray × List Int × Unit)} (h : rdRow 2 rdRec w A xs) : ∃ ys : List Rec, ys.length = xs.length ∧ PairsAt w A ys ∧ Fit ys := by
  have hex : ∀ i, i < xs.length → ∃ y : Rec, y.1.size ≤ 140737488351232 ∧ y.2.length ≤ 140737488351232 ∧ ∃ ad B cap, A = some ad ∧ CellsAt w (ad.add (i * 2)) [.string y.1, .slice B y.2.length cap] ∧ y.2.length ≤ cap ∧ BytesAt w B y.2 := by
    intro i hi
    obtain ⟨ad, es, h1, h2, h3, h4⟩ := h i _ (List.getElem?_eq_getElem hi)
    match es, h2 with
    | [a, b], _ =>
      obtain ⟨⟨ha, hs⟩, ⟨B, cap, hb, hc1, hc2, _, hr⟩, _⟩ := h4
      simp at ha hb
      obtain ⟨l, hl, hby⟩ := bytes_in hr
      refine ⟨(xs[i].1, l), hs, by rw [hl]; omega, ad, B, cap, h1, ?_, by rw [hl]; exact hc1, hby⟩
      rw [hl, ← ha, ← hb]
      exact h3
  haveI : Inhabited Rec := ⟨(ByteArray.empty, [])⟩
  obtain ⟨f, hf⟩ := Go.Deep.choose_lt hex
  refine ⟨(List.range xs.length).map f, by simp, ?_, ?_⟩
  · intro i x hx
    have hi : i < xs.length := by have := (List.getElem?_eq_some_iff.1 hx).1; simpa using this
    rw [List.getElem?_map, List.getElem?_range hi] at hx
    cases hx
    exact (hf i hi).2.2
  · intro x hx
    obtain ⟨i, hi, rfl⟩ := List.mem_map.1 hx
    exact ⟨(hf i (by simpa using hi)).1, (hf i (by simpa using hi)).2.1⟩
theorem rec_opens {H : Type} (enc : TypeId × Value → H) (w : World) : Opens enc Try.prog w 37 rdRec :=
  opens_struct Try.underlying37 (opens_cons rfl (by kernel_rfl) (opens_str Try.underlying9)
    (opens_cons rfl (by kernel_rfl) (opens_sl Try.underlying25 (by kernel_rfl) (by kernel_rfl) (opens_int Try.underlying5)) opens_nil))
theorem recs_opens {H : Type} (enc : TypeId × Value → H) (w : World) : Opens enc Try.prog w 22 (rdSl 2 40 rdRec) :=
  opens_sl Try.underlying22 (by kernel_rfl) (by kernel_rfl) (rec_opens enc w)
theorem bytes_opens {H : Type} (enc : TypeId × Value → H) (w : World) : Opens enc Try.prog w 25 (rdSl 1 1 (rdInt .u8)) :=
  opens_sl Try.underlying25 (by kernel_rfl) (by kernel_rfl) (opens_int Try.underlying5)
end Go.Proofs.Ythkgpnkbbdpldaa
