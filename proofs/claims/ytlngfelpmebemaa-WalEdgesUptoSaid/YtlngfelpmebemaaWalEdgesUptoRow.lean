/-
  WalEdges, where what comes in is of bulk at most 1048576: there is one write by which a group comes to be; for every such input.
-/
import Derived.Test.YtlngfelpmebemaaRows
import Derived.Test.YtlngfelpmebemaaWalEd
import Derived.Test.YtlngfelpmebemaaRd
import Derived.WalkKit
import Derived.ProofKit
import Derived.OpenShut
import Derived.ShutString
import Derived.ChangeOld
import Derived.Below
import Derived.SizedLaws
import Derived.JoinedCond
import Derived.Deep.CondSized
import Derived.ChangeArms
namespace Go.Proofs.Ytlngfelpmebemaa.walEdges
open Go.ChangeShapes Go.WideShapes Go.ChangeAt Go.RowKit
open Go.ChangeMaps (open_string shut_string)
set_option linter.unusedVariables false
set_option linter.unusedSimpArgs false
theorem own : ownKnob Try.prog.godebug = none := by kernel_rfl
theorem laidOut : laidOutB Try.prog = true := by kernel_rfl
theorem one_le {H : Type} (d : DataW H) : 1 ≤ Rows.uptoBulk d := by
  cases d with
  | lit l => cases l <;> simp [Rows.uptoBulk]
  | nil => simp [Rows.uptoBulk]
  | ptr d => simp [Rows.uptoBulk]
  | slice elems spare => simp [Rows.uptoBulk]
  | agg parts => simp [Rows.uptoBulk]
  | iface t d => simp [Rows.uptoBulk]
  | map entries => simp [Rows.uptoBulk]
  | held h => simp [Rows.uptoBulk]
theorem length_le {H : Type} : ∀ (l : List (DataW H)), l.length ≤ Rows.uptoBulkAll l
  | [] => by simp
  | d :: l => by
    have := one_le d
    have := length_le l
    simp only [Rows.uptoBulkAll, List.length_cons]
    omega
theorem part_le {H : Type} {d : DataW H} {l : List (DataW H)} (h : d ∈ l) : Rows.uptoBulk d ≤ Rows.uptoBulkAll l := by
  induction l with
  | nil => cases h
  | cons x r ih =>
    simp only [Rows.uptoBulkAll]
    cases List.mem_cons.1 h with
    | inl e => subst e; omega
    | inr e => have := ih e; omega
/-- A slice is no longer than its reading's bulk. -/
theorem bulk_slice {H : Type} {enc : TypeId × Value → H} {w : World} {t e : TypeId} (ht : Try.prog.underlying t = some (.slice e)) {fuel : Nat} {A : Option Addr} {n c : Nat} {x : DataW H × List MemPlace}
    (h : DataW.trod enc Try.prog w 0 (fun _ => true) true fuel t [.slice A n c] = some x) : n ≤ Rows.uptoBulk x.1 := by
  rcases DataW.trod_slice ht h with ⟨hc, _⟩ | ⟨a, len, cap, elems, rest, n', _, hc, hx, _, _, _, hel, _⟩
  · simp at hc
    omega
  · simp at hc
    obtain ⟨_, rfl, _⟩ := hc
    subst hx
    have := length_le (elems.map (·.1))
    rw [List.length_map] at this
    show n ≤ Rows.uptoBulk (.slice (elems.map (·.1)) (rest.map (·.1)))
    simp only [Rows.uptoBulk]
    omega
theorem bulk_group {H : Type} {enc : TypeId × Value → H} {w : World} {AA AO : Option Addr} {n1 c1 n2 c2 : Nat} {z : Int} {d : DataW H} {p : List MemPlace}
    (h : DataW.Trod enc Try.prog w 0 (fun _ => true) true 37 (.agg #[.slice AA n1 c1, .int .u8 z, .slice AO n2 c2]) d p) : n1 ≤ Rows.uptoBulk d ∧ n2 ≤ Rows.uptoBulk d := by
  obtain ⟨fuel, hf⟩ := h
  obtain ⟨xs, n, _, hx, _, hxl, hfs⟩ := DataW.trod_struct Try.underlying37 hf
  have h0 := hfs 0 _ rfl
  have h2 := hfs 2 _ rfl
  have hx3 : xs.length = 3 := hxl
  have e0 : xs[0]? = some (xs[0]'(by omega)) := List.getElem?_eq_getElem (by omega)
  have e2 : xs[2]? = some (xs[2]'(by omega)) := List.getElem?_eq_getElem (by omega)
  have k0 := bulk_slice Try.underlying26 (show DataW.trod enc Try.prog w 0 (fun _ => true) true n 26 [.slice AA n1 c1] = some _ from h0.trans e0)
  have k2 := bulk_slice Try.underlying34 (show DataW.trod enc Try.prog w 0 (fun _ => true) true n 34 [.slice AO n2 c2] = some _ from h2.trans e2)
  have hd : d = .agg (xs.map (·.1)) := congrArg (·.1) hx
  have m0 := part_le (List.mem_map.2 ⟨xs[0]'(by omega), List.getElem_mem _, rfl⟩ : (xs[0]'(by omega)).1 ∈ xs.map (·.1))
  have m2 := part_le (List.mem_map.2 ⟨xs[2]'(by omega), List.getElem_mem _, rfl⟩ : (xs[2]'(by omega)).1 ∈ xs.map (·.1))
  rw [hd]
  simp only [Rows.uptoBulk]
  omega
set_option maxRecDepth 100000 in
theorem lifted (os : Os) (started : os.Started) (H : Type) (enc : TypeId × Value → H) (F : Stop.Interp) :
    ReturnsInHanded {} Try.checked os 6 .any ((Rows.OpenSpec.upto Rows.walEdgesSpec).pre6 enc Try.prog Try.f6 Rows.walEdgesUptoRow.domain false) (((Rows.OpenSpec.upto Rows.walEdgesSpec).at F).post enc Try.prog Try.f6 false true false false) := by
  refine returnsInHanded_of_cond_sized (C := Try.checked) (s := Rows.OpenSpec.upto Rows.walEdgesSpec) (k := Rows.uptoSmall) rfl own started (by kernel_rfl) Try.func6
    (OpenSpec.witness (enc := enc) (C := Try.checked) (s := Rows.OpenSpec.upto Rows.walEdgesSpec) (k := Rows.uptoSmall) rfl false ⟨#[], #[.agg #[.slice none 0 0, .int .u8 0, .slice none 0 0]], []⟩ 8 (by kernel_rfl) (by kernel_rfl) (by kernel_rfl)
      (x := ([.agg [.nil, .lit (.int .u8 0), .nil]], [], [])) (by kernel_rfl) rfl (by kernel_rfl)) ?_
  intro W base args ds gs before hval0 hW hcnd hk hsz0 _
  have hsz : (DataW.weightsEach Try.prog (Try.f6.params.toList ++ Rows.walEdgesSpec.plain.varTypes Try.prog) (ds ++ gs)).all (· ≤ reachBytes) = true := hsz0
  have hval : ∀ (j : Nat) t v, Try.f6.params[j]? = some t → args[j]? = some v → Value.okWide Try.prog W .any base t v := hval0
  have hW' := hW
  obtain ⟨p, q, hA0, hV, rfl, hfz, hnd⟩ := hW
  have hA : DataW.TrodAll enc Try.prog W 0 (fun _ => true) true Try.f6.params.toList args.toList ds p := hA0
  rw [Try.params6] at hA hval hsz
  obtain ⟨v0, vs0, d0, ds0, p0, q0, hargs, rfl, rfl, h0, r0⟩ := trodAll_cons hA
  obtain ⟨rfl, rfl, rfl⟩ := trodAll_nil r0
  obtain rfl : args = #[v0] := by cases args; simp_all
  obtain ⟨rfl, rfl⟩ := trodVars_none hV
  have k0 := h0
  have lt0 : ∀ x ∈ p0, x.block < W.heap.size := by obtain ⟨m, hm⟩ := k0; exact DataW.trod_lt m _ _ _ hm
  obtain ⟨y0, r0_⟩ := opens_arg (group_opens enc W) h0 (weights_each hsz (j := 0) (t := 37) rfl rfl)
  obtain ⟨cs0, rfl, hz0⟩ := okWide_struct Try.underlying37 (hval 0 37 v0 rfl rfl)
  obtain ⟨G, AA, ca, AO, co, hcs, hza, hwo, hi1, hi2, _⟩ := group_in (show cs0.toList.length = 3 by rw [Array.length_toList]; exact hz0.trans (by kernel_rfl)) r0_
  have hgi : GpIn W cs0.toList G := ⟨AA, ca, AO, co, hcs, hza, hwo, hi1, hi2, by assumption⟩
  obtain rfl : cs0 = #[.slice AA G.at_.length ca, .int .u8 G.x, .slice AO G.odd.length co] := Array.toList_inj.1 hcs
  have hb : Rows.uptoBulkAll [d0] ≤ 1048576 := by
    have h9 : Rows.uptoBulkAll ([d0] ++ []) ≤ 1048576 := of_decide_eq_true hk
    exact h9
  have hb1 : Rows.uptoBulk d0 ≤ 1048576 := by
    simp only [Rows.uptoBulkAll] at hb
    omega
  obtain ⟨hn1, hn2⟩ := bulk_group k0
  clear hA0 hval0 hsz0 hsz
  refine (walEdges_walk AA ca G.at_ G.x AO co G.odd W hza hwo (Gp.made_hi hgi) (by omega) (by omega)).mono fun e W' ⟨he, ho⟩ => ?_
  have bel := ho.nil_below
  subst he
  exact ⟨_, rfl, _, _, _, [], _, [], hW', trodAll_mk1 (shut_bool Try.underlying4 _), (trodAll_cons_mk (Below.trod laidOut (by kernel_rfl) (of_decide_eq_true (by kernel_rfl)) k0 bel lt0) trodAll_mk0), rfl, bel.frame _, fun h => by cases h⟩
theorem proved : Rows.WalEdgesUptoSaid :=
  OpenClaim.holds_of_cond 6 Try.f6 rfl rfl rfl rfl rfl rfl rfl ⟨rfl, rfl, rfl, rfl, rfl⟩ rfl rfl rfl rfl rfl (by kernel_rfl) Try.func6 (by kernel_rfl)
    (of_decide_eq_true (by kernel_rfl)) (by unfold Func.isWrapper; first | (rw [if_pos (by decide +kernel)]; kernel_rfl) | (rw [if_neg (by decide +kernel)]; exact ⟨rfl, rfl⟩))
    (fun os started H enc _ F => lifted os started H enc F)
#print axioms proved
end Go.Proofs.Ytlngfelpmebemaa.walEdges
namespace Go.Proofs.Ytlngfelpmebemaa
/-- The row, under a short name, for the claim. -/
theorem walEdgesUpto_holds : Rows.WalEdgesUptoSaid := walEdges.proved
end Go.Proofs.Ytlngfelpmebemaa
