import Derived.Test.YtejecmjajdhiiaaDoorLo5
import Derived.Below
import Derived.ChangeOld
import Derived.LaidLaws
import Derived.LaidOnce
import Derived.Lay
import Derived.Lib.LaidU8T
import Derived.OpenShut
import Derived.PinnedBridge
import Derived.ProofKit
import Derived.SevenTiedAt
import Derived.Shelf.Lay
import Derived.ShutString
import Derived.SizedLaws
import Derived.Test.YtejecmjajdhiiaaDoorCards
import Derived.Test.YtejecmjajdhiiaaDoorRows
import Derived.Test.YtejecmjajdhiiaaDoorTie
import Derived.WalkKit
set_option linter.unusedVariables false
set_option linter.unusedSimpArgs false
namespace Go.Proofs.YtejecmjajdhiiaaDoorW.PrintWords
end Go.Proofs.YtejecmjajdhiiaaDoorW.PrintWords
namespace Go.Proofs.YtejecmjajdhiiaaDoorW.PrintLast
end Go.Proofs.YtejecmjajdhiiaaDoorW.PrintLast
namespace Go.Proofs.YtejecmjajdhiiaaDoorW.PrintMore
end Go.Proofs.YtejecmjajdhiiaaDoorW.PrintMore
/-! ### LedgerChecksRow -/
namespace Go.Proofs.YtejecmjajdhiiaaDoor.ledgerChecks
open Go.ChangeShapes Go.WideShapes Go.ChangeAt Go.RowKit Go.Shelf Go.Lib Go.Proofs.YtejecmjajdhiiaaDoor.Print
open Go.ChangeMaps (open_string shut_string)
set_option linter.unusedVariables false
set_option linter.unusedSimpArgs false
theorem own : ownKnob Tryd.prog.godebug = none := by kernel_rfl
theorem laidOut : laidOutB Tryd.prog = true := by kernel_rfl
set_option maxRecDepth 100000 in
theorem lifted (os : Os) (started : os.Started) (H : Type) (enc : TypeId × Value → H) :
    ReturnsInHanded {} Tryd.checked os 3 .any (fun w args => (Rows.ledgerChecksSpec.pre enc Tryd.prog Tryd.f3 [] false w args ∧ laidMetH Tryd.prog Rows.ledgerChecksRow.laid w) ∧ sizedMet enc Tryd.prog Tryd.f3 (OpenSpec.ofChange Rows.ledgerChecksSpec) false w args) (Rows.ledgerChecksSpec.post enc Tryd.prog Tryd.f3 false true false false) := by
  refine returnsInHanded_of_change_and (C := Tryd.checked) (X := fun w _ => laidMetH Tryd.prog Rows.ledgerChecksRow.laid w) (fun _ _ _ hh h => h.of_heap hh) own started (by kernel_rfl) Tryd.func3
    (ChangeSpec.witness_shaped (enc := enc) (C := Tryd.checked) (os := os) (X := fun w _ => laidMetH Tryd.prog Rows.ledgerChecksRow.laid w) false (World.laidAll Tryd.prog os Rows.ledgerChecksRow.laid) #[.slice none 0 0, .agg #[.string ByteArray.empty, .int .i64 0, .slice none 0 0]] 8 (World.laidAll_os _ _ _)
      (World.shaped_of_ZipB (by kernel_rfl) (by kernel_rfl)) (by kernel_rfl) (by kernel_rfl) (by kernel_rfl)
      (by rw [MakeChecks.laidMetH_plain _ _ _ (by kernel_rfl)]; exact laidMet_laidAll _ (by kernel_rfl) (by kernel_rfl))) ?_
  intro W base args ds gs before hval0 hW hcnd hsz0 hL0 _
  have hL : laidMet Tryd.prog Rows.ledgerChecksRow.laid W := by
    have h := hL0
    rw [MakeChecks.laidMetH_plain _ _ _ (by kernel_rfl)] at h
    exact h
  have hT : Tabs W := utf8Tabs_of_readsT (U8Types.of196 Tryd.laysValid) ⟨by kernel_rfl, by kernel_rfl, by kernel_rfl, by kernel_rfl, by kernel_rfl, by kernel_rfl, by kernel_rfl⟩ (Pinned.utf8First_eq ▸ Lib.laidMet.reads hL (.tail _ (.head _))) ((show Rows.laid_unicode_utf8_acceptRanges = acceptData from rfl) ▸ Lib.laidMet.reads hL (.head _))
  have hsz : (DataW.weightsEach Tryd.prog (Tryd.f3.params.toList ++ Rows.ledgerChecksSpec.plain.varTypes Tryd.prog) (ds ++ gs)).all (· ≤ reachBytes) = true := hsz0
  have hval : ∀ (j : Nat) t v, Tryd.f3.params[j]? = some t → args[j]? = some v → Value.okWide Tryd.prog W .any base t v := hval0
  have hW' := hW
  obtain ⟨p, q, hA0, hV, rfl, hfz, hnd⟩ := hW
  have hA : DataW.TrodAll enc Tryd.prog W 0 (fun _ => true) true Tryd.f3.params.toList args.toList ds p := hA0
  rw [Tryd.params3] at hA hval hsz
  obtain ⟨v0, vs0, d0, ds0, p0, q0, hargs, rfl, rfl, h0, r0⟩ := trodAll_cons hA
  obtain ⟨v1, vs1, d1, ds1, p1, q1, rfl, rfl, rfl, h1, r1⟩ := trodAll_cons r0
  obtain ⟨rfl, rfl, rfl⟩ := trodAll_nil r1
  obtain rfl : args = #[v0, v1] := by cases args; simp_all
  obtain ⟨rfl, rfl⟩ := trodVars_none hV
  have k0 := h0
  have lt0 : ∀ x ∈ p0, x.block < W.heap.size := by obtain ⟨m, hm⟩ := k0; exact DataW.trod_lt m _ _ _ hm
  obtain ⟨y0, r0_⟩ := opens_arg (vess_opens enc W) h0 (weights_each hsz (j := 0) (t := 22) rfl rfl)
  obtain ⟨A0, len0, cap0, rfl⟩ := okWide_slice Tryd.underlying22 (hval 0 22 v0 rfl rfl)
  obtain ⟨A0_, cap0_, e0, hl0, hb0, hm0, hr0⟩ := r0_
  simp only [Value.cells, List.cons.injEq, Value.slice.injEq, and_true] at e0
  obtain ⟨rfl, rfl, rfl⟩ := e0
  have k1 := h1
  have lt1 : ∀ x ∈ p1, x.block < W.heap.size := by obtain ⟨m, hm⟩ := k1; exact DataW.trod_lt m _ _ _ hm
  obtain ⟨y1, r1_⟩ := opens_arg (ves_opens enc W) h1 (weights_each hsz (j := 1) (t := 25) rfl rfl)
  obtain ⟨cs1, rfl, hz1⟩ := okWide_struct Tryd.underlying25 (hval 1 25 v1 rfl rfl)
  clear hA0 hval0 hsz0 hsz
  refine (ledgerChecks_walk A0 cap0 y0 cs1 y1 W hl0 hb0 hr0 hz1 r1_ hT).mono fun e W' ⟨he, bel⟩ => ?_
  subst he
  exact ⟨_, rfl, _, _, _, [], _, [], hW', trodAll_mk1 (shut_bool Tryd.underlying4 _), (trodAll_cons_mk (Below.trod laidOut (by kernel_rfl) (of_decide_eq_true (by kernel_rfl)) k0 bel lt0) (trodAll_cons_mk (Below.trod laidOut (by kernel_rfl) (of_decide_eq_true (by kernel_rfl)) k1 bel lt1) trodAll_mk0)), rfl, bel.frame _, fun h => by cases h⟩
theorem over : Rows.ledgerChecksRow.holds Tryd.pinned (OpenSpec.ofChange Rows.ledgerChecksSpec) :=
  OpenClaim.holds_of_wide 3 Tryd.f3 rfl rfl rfl rfl rfl rfl rfl ⟨rfl, rfl, rfl, rfl, rfl⟩ rfl rfl rfl rfl rfl (by kernel_rfl) Tryd.func3 (by kernel_rfl)
    (of_decide_eq_true (by kernel_rfl)) (by unfold Func.isWrapper; first | (rw [if_pos (by decide +kernel)]; kernel_rfl) | (rw [if_neg (by decide +kernel)]; exact ⟨rfl, rfl⟩))
    (fun os started H enc _ => lifted os started H enc)
theorem card_holds : Claim7.holds Tryd.pinned (.plain (OpenSpec.ofChange Rows.ledgerChecksSpec)) Rows.ledgerChecksCard :=
  Claim7.holds_tied_plain_at .later [] [.data, .pinned] true (true, "1e2c74985228763f400c529450084ef6c0ff92b2eeb5cdba4427b354947f12d5") false over (fun _ h => by cases h) (by kernel_rfl) (fun _ h => by cases h) ledgerChecks_row_tie rfl ⟨rfl, rfl⟩ (by kernel_rfl) rfl
    (fun f fn hf hfn => by
      obtain rfl : f = 3 := Option.some.inj ((show Tryd.prog.funcNamed "malthouse/malthouselaw13.LedgerChecks" = some 3 by kernel_rfl).symm.trans hf) |>.symm
      obtain rfl : fn = Tryd.f3 := (Option.some.inj (Tryd.func3.symm.trans hfn)).symm
      exact ⟨by kernel_rfl, fun j t ht => by
        rw [Tryd.params3] at ht
        have hm : t ∈ [22, 25] := by simpa using Array.mem_of_getElem? ht
        have hall : ([22, 25].all fun u => !Tryd.prog.wantsStandIn u) = true := by kernel_rfl
        exact (show Tryd.prog.wantsStandIn t = false by simpa using List.all_eq_true.1 hall t hm)⟩)
    (by kernel_rfl)
theorem proved : Rows.LedgerChecksCardSaid := card_holds
#print axioms proved
end Go.Proofs.YtejecmjajdhiiaaDoor.ledgerChecks
namespace Go.Proofs.YtejecmjajdhiiaaDoor
/-- The card, under a short name, for the claim. -/
theorem ledgerChecks_holds : Rows.LedgerChecksCardSaid := ledgerChecks.proved
end Go.Proofs.YtejecmjajdhiiaaDoor
