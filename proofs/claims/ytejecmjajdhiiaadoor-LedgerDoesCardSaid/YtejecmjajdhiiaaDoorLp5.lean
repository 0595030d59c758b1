import Derived.Test.YtejecmjajdhiiaaDoorLp4
import Derived.Below
import Derived.ChangeOld
import Derived.LaidLaws
import Derived.LaidOnce
import Derived.Lay
import Derived.Lib.LaidU8T
import Derived.OpenShut
import Derived.PinnedBridge
import Derived.ProofKit
import Derived.SevenTiedAt
import Derived.Shelf.Lay
import Derived.ShutString
import Derived.SizedLaws
import Derived.Test.YtejecmjajdhiiaaDoorCards
import Derived.Test.YtejecmjajdhiiaaDoorProg
import Derived.Test.YtejecmjajdhiiaaDoorRows
import Derived.Test.YtejecmjajdhiiaaDoorTie
import Derived.WalkKit
set_option linter.unusedVariables false
set_option linter.unusedSimpArgs false
namespace Go.Proofs.YtejecmjajdhiiaaDoorW.PrintWords
end Go.Proofs.YtejecmjajdhiiaaDoorW.PrintWords
namespace Go.Proofs.YtejecmjajdhiiaaDoorW.PrintLast
end Go.Proofs.YtejecmjajdhiiaaDoorW.PrintLast
namespace Go.Proofs.YtejecmjajdhiiaaDoorW.PrintMore
end Go.Proofs.YtejecmjajdhiiaaDoorW.PrintMore
/-! ### LgRef -/
namespace Go.Proofs.YtejecmjajdhiiaaDoor.Print
open Go.RowKit Go.Proofs.YtejecmjajdhiiaaDoorW.PrintWords Go.Proofs.YtejecmjajdhiiaaDoorW.PrintLast Go.Proofs.YtejecmjajdhiiaaDoorW.PrintMore
set_option linter.unusedSimpArgs false
set_option linter.unusedVariables false
/-- Names are short. -/
structure Slim (l : List S25) : Prop where
  name : ∀ x ∈ l, x.f0.size ≤ 200
  lots : ∀ x ∈ l, ∀ y ∈ x.f2, y.f0.size ≤ 200
theorem slim_of {l : List S25} (h : lightM l = true) : Slim l := by
  unfold lightM at h
  simp only [Bool.and_eq_true, decide_eq_true_eq, List.all_eq_true] at h
  refine ⟨fun x hx => ?_, fun x hx y hy => ?_⟩
  · have h2 := h.2 x hx
    unfold vesL at h2
    simp only [Bool.and_eq_true, decide_eq_true_eq, List.all_eq_true] at h2
    exact h2.1.2
  · have h2 := h.2 x hx
    unfold vesL at h2
    simp only [Bool.and_eq_true, decide_eq_true_eq, List.all_eq_true] at h2
    exact of_decide_eq_true (h2.2 y hy)
theorem refname (s : ByteArray) (hs : s.size ≤ 200) (K : Nat) (hK : 220 ≤ K) : malthouseref01_Name.f K s = some (nameB s) := by
  have := ref_name_is s (by omega) (K - s.size - 20)
  rwa [show K - s.size - 20 + s.size + 20 = K by omega] at this
theorem names_beq (a b : ByteArray) : a.toList = b.toList ↔ a = b := by
  constructor
  · intro h
    have := bytes_beq a b
    rw [h, beq_self_eq_true] at this
    exact of_decide_eq_true this.symm
  · rintro rfl
    rfl
theorem lots_loop (L : List S37) (hL : ∀ x ∈ L, x.f0.size ≤ 200) (hl : L.length ≤ 1000000) : ∀ (f i K : Nat) (left cap : Int), -9223372036854775808 ≤ cap → cap ≤ 9223372036854775807 → L.length ≤ i + f → i ≤ L.length → f + 300 ≤ K → (left = cap ∨ 0 ≤ left ∧ left ≤ cap) →
    malthouseref13_lots.l0 K L left (i : Int) = some (leftM left (prevOf L i) (L.drop i)).isSome := by
  intro f
  induction f with
  | zero =>
    intro i K left cap c1 c2 h1 h2 hK h3
    obtain ⟨K, rfl⟩ : ∃ K', K = K' + 1 := ⟨K - 1, by omega⟩
    simp only [malthouseref13_lots.l0]
    rw [if_neg (by omega), List.drop_eq_nil_of_le (by omega)]
    rfl
  | succ f ih =>
    intro i K left cap c1 c2 h1 h2 hK h3
    obtain ⟨K, rfl⟩ : ∃ K', K = K' + 1 := ⟨K - 1, by omega⟩
    simp only [malthouseref13_lots.l0]
    by_cases hi : i < L.length
    · have e : rd_T37 L (i : Int) = L[i] := getD_at L _ i hi
      rw [if_pos (by omega), if_pos (by omega), e, refname _ (hL _ (List.getElem_mem hi)) K (by omega), List.drop_eq_getElem_cons hi]
      simp only [Option.bind_some]
      obtain ⟨x, hx⟩ : ∃ x, L[i] = x := ⟨_, rfl⟩
      rw [hx]
      have hx2 : L[i]? = some x := by rw [List.getElem?_eq_getElem hi, hx]
      have hnext : leftM left (prevOf L i) (x :: L.drop (i + 1)) = if lotB left (prevOf L i) x = true then leftM (left - x.f1) (some x.f0) (L.drop (i + 1)) else none := rfl
      rw [hnext]
      have hp : prevOf L (i + 1) = some x.f0 := by show (L[i]?).map (·.f0) = _; rw [hx2]; rfl
      cases hn : nameB x.f0
      · rw [if_neg (by simp), if_neg (by unfold lotB; simp [hn])]
        rfl
      rw [if_pos rfl]
      by_cases h4 : x.f1 < 1
      · rw [if_pos h4, if_neg (by unfold lotB; simp only [Bool.and_eq_true, decide_eq_true_eq]; omega)]
        rfl
      rw [if_neg h4]
      by_cases h5 : x.f1 > left
      · rw [if_pos h5, if_neg (by unfold lotB; simp only [Bool.and_eq_true, decide_eq_true_eq]; omega)]
        rfl
      rw [if_neg h5]
      have hstep := ih (i + 1) K (left - x.f1) cap c1 c2 (by omega) (by omega) (by omega) (by right; omega)
      rw [hp] at hstep
      rw [wrap_small (left - x.f1) (by omega) (by omega), wrap_small ((i : Int) + 1) (by omega) (by omega), show (i : Int) + 1 = ((i + 1 : Nat) : Int) by omega, hstep]
      cases i with
      | zero =>
        rw [if_neg (by omega), if_pos (by unfold lotB; simp only [Bool.and_eq_true, decide_eq_true_eq]; exact ⟨⟨⟨hn, by omega⟩, by omega⟩, by simp [prevOf]⟩)]
      | succ i =>
        have e2 : rd_T37 L (wrap64 (((i + 1 : Nat) : Int) - 1)) = L[i] := by
          rw [wrap_small _ (by omega) (by omega), show ((i + 1 : Nat) : Int) - 1 = (i : Int) by omega]
          exact getD_at L _ i (by omega)
        have hpi : prevOf L (i + 1) = some L[i].f0 := by show (L[i]?).map (·.f0) = _; rw [List.getElem?_eq_getElem (by omega)]; rfl
        rw [if_pos (by omega), e2, wrap_small _ (by omega) (by omega), if_pos (by omega), if_pos (by omega)]
        by_cases h6 : x.f0 = L[i].f0
        · rw [if_pos ((names_beq _ _).2 h6), if_neg (by unfold lotB; rw [hpi, h6]; simp)]
          rfl
        · rw [if_neg (fun h => h6 ((names_beq _ _).1 h)), if_pos (by unfold lotB; simp only [Bool.and_eq_true, decide_eq_true_eq]; exact ⟨⟨⟨hn, by omega⟩, by omega⟩, by rw [hpi]; simpa using fun h => h6 h.symm⟩)]
    · rw [if_neg (by omega), List.drop_eq_nil_of_le (by omega)]
      rfl
theorem lots_is (L : List S37) (cap : Int) (c1 : -9223372036854775808 ≤ cap) (c2 : cap ≤ 9223372036854775807) (hL : ∀ x ∈ L, x.f0.size ≤ 200) (hl : L.length ≤ 60) (K : Nat) (hK : 400 ≤ K) : malthouseref13_lots.f K L cap = some (leftM cap none L).isSome := by
  unfold malthouseref13_lots.f
  have := lots_loop L hL (by omega) L.length 0 K cap cap c1 c2 (by omega) (by omega) (by omega) (.inl rfl)
  rw [List.drop_zero] at this
  exact this
theorem place_loop (l : List S25) (a : ByteArray) (hl : l.length ≤ 1000) : ∀ (f i K : Nat), l.length ≤ i + f → f + 1 ≤ K → malthouseref13_Place.l0 K l a (i : Int) = some (firstFrom (vesselIs a) i (l.drop i)) := by
  intro f
  induction f with
  | zero =>
    intro i K h1 hK
    obtain ⟨K, rfl⟩ : ∃ K', K = K' + 1 := ⟨K - 1, by omega⟩
    simp only [malthouseref13_Place.l0]
    rw [if_neg (by omega), List.drop_eq_nil_of_le (by omega)]
    rfl
  | succ f ih =>
    intro i K h1 hK
    obtain ⟨K, rfl⟩ : ∃ K', K = K' + 1 := ⟨K - 1, by omega⟩
    simp only [malthouseref13_Place.l0]
    by_cases hi : i < l.length
    · have e : rd_T25 l (i : Int) = l[i] := getD_at l _ i hi
      rw [if_pos (by omega), if_pos (by omega), e, firstFrom_drop _ l i hi]
      by_cases h : l[i].f0.toList = a.toList
      · rw [if_pos h, if_pos (by unfold vesselIs; rw [h]; exact beq_self_eq_true _)]
      · rw [if_neg h, if_neg (by unfold vesselIs; simpa using h), wrap_small _ (by omega) (by omega), show (i : Int) + 1 = ((i + 1 : Nat) : Int) by omega]
        exact ih (i + 1) K (by omega) (by omega)
    · rw [if_neg (by omega), List.drop_eq_nil_of_le (by omega)]
      rfl
theorem place_is (l : List S25) (a : ByteArray) (hl : l.length ≤ 60) (K : Nat) (hK : 100 ≤ K) : malthouseref13_Place.f K l a = some (firstFrom (vesselIs a) 0 l) := by
  unfold malthouseref13_Place.f
  have := place_loop l a (by omega) l.length 0 K (by omega) (by omega)
  rw [List.drop_zero] at this
  exact this
theorem first_le (l : List S25) (x : S25) : ∀ (k i : Nat), l[i]? = some x → firstFrom (vesselIs x.f0) k l ≤ ((k + i : Nat) : Int) ∧ 0 ≤ firstFrom (vesselIs x.f0) k l := by
  have hv : vesselIs x.f0 x = true := by unfold vesselIs; simp
  induction l with
  | nil => intro k i h; simp at h
  | cons y l ih =>
    intro k i h
    unfold firstFrom
    by_cases hy : vesselIs x.f0 y = true
    · rw [if_pos hy]
      omega
    · rw [if_neg hy]
      cases i with
      | zero =>
        obtain rfl := Option.some.inj h
        exact absurd hv hy
      | succ i =>
        have := ih (k + 1) i h
        omega
theorem rcheck_loop (l : List S25) (hl : Lite l) (hs : Slim l) : ∀ (f i K : Nat), l.length ≤ i + f → i ≤ l.length → 2 * f + 500 ≤ K → malthouseref13_Check.l0 K l (i : Int) = some (checkGo l i (l.drop i)) := by
  have hln := hl.len
  intro f
  induction f with
  | zero =>
    intro i K h1 h2 hK
    obtain ⟨K, rfl⟩ : ∃ K', K = K' + 1 := ⟨K - 1, by omega⟩
    simp only [malthouseref13_Check.l0]
    rw [if_neg (by omega), List.drop_eq_nil_of_le (by omega)]
    rfl
  | succ f ih =>
    intro i K h1 h2 hK
    obtain ⟨K, rfl⟩ : ∃ K', K = K' + 1 + 1 := ⟨K - 2, by omega⟩
    simp only [malthouseref13_Check.l0]
    by_cases hi : i < l.length
    · have e : rd_T25 l (i : Int) = l[i] := getD_at l _ i hi
      have hx2 : l[i]? = some l[i] := List.getElem?_eq_getElem hi
      have hxl := hl.all _ (List.getElem_mem hi)
      have hxn := hs.name _ (List.getElem_mem hi)
      have hxo := hs.lots _ (List.getElem_mem hi)
      rw [List.drop_eq_getElem_cons hi]
      obtain ⟨x, hx⟩ : ∃ x, l[i] = x := ⟨_, rfl⟩
      rw [hx] at e hx2 hxl hxn hxo ⊢
      rw [if_pos (by omega), if_pos (by omega), e, refname _ hxn (K + 1) (by omega)]
      simp only [Option.bind_some]
      have hc : checkGo l i (x :: l.drop (i + 1)) = if vesB x = true then (if firstFrom (vesselIs x.f0) 0 l < i then 5 else if 5 < x.f2.length then 2 else checkGo l (i + 1) (l.drop (i + 1))) else 1 := rfl
      rw [hc]
      have hflag : (if nameB x.f0 = true then (if x.f1 < 1 then malthouseref13_Check.j1 (K + 1) l (i : Int) true else malthouseref13_Check.j1 (K + 1) l (i : Int) (decide (x.f1 > 1125899906842624))) else malthouseref13_Check.j1 (K + 1) l (i : Int) true) = malthouseref13_Check.j1 (K + 1) l (i : Int) (!(nameB x.f0 && decide (1 ≤ x.f1) && decide (x.f1 ≤ 1125899906842624))) := by
        cases hn : nameB x.f0
        · rw [if_neg (by simp)]; simp
        · rw [if_pos rfl]
          by_cases h1 : x.f1 < 1
          · rw [if_pos h1]
            have : ¬ 1 ≤ x.f1 := by omega
            simp [this]
          · rw [if_neg h1]
            have h1' : 1 ≤ x.f1 := by omega
            by_cases h2 : x.f1 > 1125899906842624
            · have : ¬ x.f1 ≤ 1125899906842624 := by omega
              simp [h2, this]
            · have h2' : x.f1 ≤ 1125899906842624 := by omega
              simp [h1', h2, h2']
      rw [hflag]
      simp only [malthouseref13_Check.j1]
      cases hb : (nameB x.f0 && decide (1 ≤ x.f1) && decide (x.f1 ≤ 1125899906842624))
      · rw [if_pos (by simp), if_neg (by unfold vesB; rw [hb]; simp)]
      · rw [if_neg (by simp), if_pos (by omega), if_pos (by omega), e, lots_is x.f2 x.f1 hxl.lo hxl.hi hxo hxl.len K (by omega)]
        simp only [Option.bind_some]
        cases hq : (leftM x.f1 none x.f2).isSome
        · rw [if_neg (by simp), if_neg (by unfold vesB; rw [hb, hq]; simp)]
        · have hv : vesB x = true := by unfold vesB; rw [hb, hq]; rfl
          rw [if_pos rfl, if_pos hv, place_is l x.f0 (by omega) K (by omega)]
          simp only [Option.bind_some]
          have hfl := first_le l x 0 i hx2
          by_cases h5 : firstFrom (vesselIs x.f0) 0 l < i
          · rw [if_neg (by omega), if_pos h5]
          · rw [if_pos (by omega), if_neg h5]
            by_cases h6 : 5 < x.f2.length
            · rw [if_pos (by omega), if_pos h6]
            · rw [if_neg (by omega), if_neg h6, wrap_small _ (by omega) (by omega), show (i : Int) + 1 = ((i + 1 : Nat) : Int) by omega]
              exact ih (i + 1) K (by omega) (by omega) (by omega)
    · rw [if_neg (by omega), List.drop_eq_nil_of_le (by omega)]
      rfl
theorem rcheck_is {l : List S25} (hl : Lite l) (hs : Slim l) (K : Nat) (hK : 700 ≤ K) : malthouseref13_Check.f K l = some (checkM l) := by
  have hln := hl.len
  unfold malthouseref13_Check.f checkM
  by_cases h6 : 6 < l.length
  · rw [if_pos (by omega), if_pos h6]
  · rw [if_neg (by omega), if_neg h6]
    have := rcheck_loop l hl hs l.length 0 K (by omega) (by omega) (by omega)
    rw [List.drop_zero] at this
    exact this
theorem grams_loop (L : List S37) (hl : L.length ≤ 60) (hL : ∀ y ∈ L, 0 ≤ y.f1 ∧ y.f1 ≤ 1125899906842624) : ∀ (f i K : Nat) (s : Int), L.length ≤ i + f → f + 1 ≤ K → 0 ≤ s → s + f * 1125899906842624 ≤ 4611686018427387904 → malthouseref13_grams.l0 K L s (i : Int) = some (s + sumL (L.drop i)) := by
  intro f
  induction f with
  | zero =>
    intro i K s h1 hK h2 h3
    obtain ⟨K, rfl⟩ : ∃ K', K = K' + 1 := ⟨K - 1, by omega⟩
    simp only [malthouseref13_grams.l0]
    rw [if_neg (by omega), List.drop_eq_nil_of_le (by omega)]
    show some s = some (s + 0)
    rw [Int.add_zero]
  | succ f ih =>
    intro i K s h1 hK h2 h3
    obtain ⟨K, rfl⟩ : ∃ K', K = K' + 1 := ⟨K - 1, by omega⟩
    simp only [malthouseref13_grams.l0]
    by_cases hi : i < L.length
    · have e : rd_T37 L (i : Int) = L[i] := getD_at L _ i hi
      have hy := hL _ (List.getElem_mem hi)
      rw [if_pos (by omega), if_pos (by omega), e, wrap_small (s + L[i].f1) (by omega) (by omega), wrap_small _ (by omega) (by omega), show (i : Int) + 1 = ((i + 1 : Nat) : Int) by omega, ih (i + 1) K (s + L[i].f1) (by omega) (by omega) (by omega) (by omega), List.drop_eq_getElem_cons hi, sumL_cons]
      congr 1
      omega
    · rw [if_neg (by omega), List.drop_eq_nil_of_le (by omega)]
      show some s = some (s + 0)
      rw [Int.add_zero]
theorem grams_is {l : List S25} (hl : Lite l) (hg : Good l) {i : Nat} {x : S25} (hx : l[i]? = some x) (K : Nat) (hK : 100 ≤ K) : malthouseref13_grams.f K x.f2 = some (sumL x.f2) := by
  obtain ⟨q1, q2, q3, q4, q5⟩ := (vesB_iff _).1 (hg.all i _ hx).1
  have hxl := (hl.all x (List.mem_of_getElem? hx)).len
  unfold malthouseref13_grams.f
  have h := grams_loop x.f2 hxl (fun y hy => by have := fine_low _ _ q4 y hy; omega) x.f2.length 0 K 0 (by omega) (by omega) (by omega) (by omega)
  rw [List.drop_zero, Int.zero_add] at h
  exact h
end Go.Proofs.YtejecmjajdhiiaaDoor.Print
/-! ### LgCon -/
namespace Go.Proofs.YtejecmjajdhiiaaDoor.Print
open Go.RowKit Go.Proofs.YtejecmjajdhiiaaDoorW.PrintWords Go.Proofs.YtejecmjajdhiiaaDoorW.PrintLast Go.Proofs.YtejecmjajdhiiaaDoorW.PrintMore
set_option linter.unusedSimpArgs false
set_option linter.unusedVariables false
/-- Vessels that can be read. -/
def VAt (w : World) (A : Option Addr) (c : Nat) (l : List S25) : Prop := l.length ≤ c ∧ Kd.C k25 w A l.length l
def LAt (w : World) (A : Option Addr) (c : Nat) (l : List S37) : Prop := l.length ≤ c ∧ Kd.C k37 w A l.length l
theorem VAt.only {w w' : World} {A : Option Addr} {c : Nat} {l : List S25} (h : VAt w A c l) (ho : Only [] w w') : VAt w' A c l := ⟨h.1, Kd.C_below h.2 ho.nil_below⟩
theorem LAt.only {w w' : World} {A : Option Addr} {c : Nat} {l : List S37} (h : LAt w A c l) (ho : Only [] w w') : LAt w' A c l := ⟨h.1, Kd.C_below h.2 ho.nil_below⟩
theorem VAt.elem {w : World} {A : Option Addr} {c : Nat} {l : List S25} (h : VAt w A c l) {i : Nat} {x : S25} (hx : l[i]? = some x) :
    ∃ ad A2 c2, A = some ad ∧ LAt w A2 c2 x.f2 ∧ CellsAt w (ad.add (i * 3)) [.string x.f0, .int .i64 x.f1, .slice A2 x.f2.length c2] := by
  obtain ⟨hi, rfl⟩ := List.getElem?_eq_some_iff.1 hx
  obtain ⟨ad, cs, rfl, _, hK, hcs⟩ := Kd.C_cells h.2 i hi
  obtain ⟨A2, c2, rfl, hl2, hk2⟩ := k25_open hK
  exact ⟨ad, A2, c2, rfl, ⟨hl2, hk2⟩, hcs⟩
theorem LAt.nil (w : World) : LAt w none 0 [] := ⟨Nat.le_refl _, Kd.C_nil _ _⟩
section
variable {w : World} {A B : Option Addr} {c d : Nat} {l m : List S25}
theorem awake_c (w : World) (hT : Tabs w) : Calls Tryd.prog 10 #[] w fun e w' => e = .returned (.bool true) ∧ Only [] w w' :=
  (malthouselaw13_awake.calls true w hT rfl).mono fun _ _ h => ⟨h.1, .of_below h.2⟩
theorem light_c (h : VAt w A c l) : Calls Tryd.prog 11 #[.slice A l.length c] w fun e w' => e = .returned (.bool (lightM l)) ∧ Only [] w w' :=
  (malthouseref13_Light.calls 5000 A c l _ w h.2 h.1 (light_is l 5000 (by omega))).mono fun _ _ h => ⟨h.1, .of_below h.2.below⟩
theorem charge_c (h : VAt w A c l) (hT : Tabs w) (hl : Lite l) (a b : ByteArray) (n : Int) (hb : b.size ≤ 1000000000) :
    Calls Tryd.prog 23 #[.slice A l.length c, .string a, .string b, .int .i64 n] w fun e w' => ∃ B d, e = .returned (.tuple #[.slice B (chargeM l a b n).1.length d, .int .i64 (chargeM l a b n).2]) ∧ VAt w' B d (chargeM l a b n).1 ∧ Only [] w w' := by
  have h1 := charge_value hl a b n hb
  generalize chargeM l a b n = R at *
  obtain ⟨r1, r2⟩ := R
  refine (ledger_Charge.calls A c l a b n r1 r2 w h.2 h.1 hT h1).mono ?_
  rintro e w' ⟨v, rfl, hS, hb2⟩
  obtain ⟨B, d, rfl, h3, h4⟩ := Kd.S_reads hS
  exact ⟨B, d, rfl, ⟨h3, h4⟩, .of_below hb2⟩
theorem move_c (h : VAt w A c l) (hT : Tabs w) (hl : Lite l) (a b : ByteArray) (n : Int) :
    Calls Tryd.prog 26 #[.slice A l.length c, .string a, .string b, .int .i64 n] w fun e w' => ∃ B d, e = .returned (.tuple #[.slice B (moveM l a b n).1.length d, .int .i64 (moveM l a b n).2]) ∧ VAt w' B d (moveM l a b n).1 ∧ Only [] w w' := by
  have h1 := move_value hl a b n
  generalize moveM l a b n = R at *
  obtain ⟨r1, r2⟩ := R
  refine (ledger_Move.calls A c l a b n r1 r2 w h.2 h.1 hT h1).mono ?_
  rintro e w' ⟨v, rfl, ⟨B, d, rfl, h3, hF⟩, hb2⟩
  exact ⟨B, d, rfl, ⟨h3, Kd.F_now hF⟩, .of_below hb2⟩
/-- A row of lots of one's own, its cells told. -/
theorem lots_own {w : World} {base : Nat} {ok : Nat → Prop} {v : Value} {o : List S37} (h : Kd.R k37 37 w base ok v o) : w.ownsRow base 37 2 v o.length (lotRow o) := by
  obtain ⟨_, inner, ho, hr⟩ := h
  have e : inner = lotRow o := reps_flat lotCells 2 (fun _ => rfl) (fun x cs h => k37_open (k37.K_of_M h)) hr
  rw [← e]
  exact ho
theorem draw_c (h : VAt w A c l) (hT : Tabs w) (hl : Lite l) (a : ByteArray) (n : Int) :
    Calls Tryd.prog 18 #[.slice A l.length c, .string a, .int .i64 n] w fun e w' => ∃ B d C q, e = .returned (.tuple #[.slice B (drawM l a n).1.length d, .slice C (drawM l a n).2.1.length q, .int .i64 (drawM l a n).2.2]) ∧ VAt w' B d (drawM l a n).1 ∧
      (LAt w' C q (drawM l a n).2.1 ∧ w'.ownsRow w.heap.size 37 2 (.slice C (drawM l a n).2.1.length q) (drawM l a n).2.1.length (lotRow (drawM l a n).2.1)) ∧ Only [] w w' := by
  have h1 := draw_value hl a n
  generalize drawM l a n = R at *
  obtain ⟨r1, r2, r3⟩ := R
  refine (ledger_Draw.calls A c l a n r1 r2 r3 w h.2 h.1 hT h1).mono ?_
  rintro e w' ⟨v, u, rfl, ⟨B, d, rfl, h3, hF⟩, hR, hb2⟩
  have h5 := lots_own hR
  obtain ⟨C, q, rfl, h6, h7⟩ := Kd.R_reads hR
  exact ⟨B, d, C, q, rfl, ⟨h3, Kd.F_now hF⟩, ⟨⟨h6, h7⟩, h5⟩, .of_below hb2⟩
theorem same_c (h : VAt w A c l) (k : VAt w B d l) (hl : Lite l) : Calls Tryd.prog 19 #[.slice A l.length c, .slice B l.length d] w fun e w' => e = .returned (.bool true) ∧ Only [] w w' :=
  (malthouseref13_Same.calls 1000 A c l B d l _ w h.2 h.1 k.2 k.1 (same_is 60 (by omega) l (by have := hl.len; omega) (fun x hx => (hl.all x hx).len) 1000 (by have := hl.len; omega))).mono fun _ _ h => ⟨h.1, .of_below h.2.below⟩
theorem lots_c {l : List S37} (h : LAt w A c l) (k : LAt w B d l) (hl : l.length ≤ 1000) : Calls Tryd.prog 20 #[.slice A l.length c, .slice B l.length d] w fun e w' => e = .returned (.bool true) ∧ Only [] w w' :=
  (malthouseref13_Lots.calls 2000 A c l B d l true w h.2 h.1 k.2 k.1 (by unfold malthouseref13_Lots.f; rw [if_pos rfl]; exact lots_refl l (by omega) l.length 0 2000 (by omega) (by omega))).mono fun _ _ h => ⟨h.1, .of_below h.2.below⟩
end
end Go.Proofs.YtejecmjajdhiiaaDoor.Print
/-! ### RdKd -/
namespace Go.Proofs.YtejecmjajdhiiaaDoor
open Go.RowKit Go.Proofs.YtejecmjajdhiiaaDoorW.PrintWords
/-- A row that came in, its elements turned. -/
theorem C_of_row {α β : Type} {n : Nat} {R : Rd α} {d : Kd β} (g : α → β) {w : World} {A : Option Addr} {xs : List α} (hn : d.sz = n) (hm : xs.length ≤ 9223372036854775807) (hx : rdRow n R w A xs) (hc : ∀ es x, es.length = n → R w es x → d.K w (g x) es) :
    Kd.C d w A (xs.map g).length (xs.map g) := by
  subst hn
  refine ⟨rfl, by rw [List.length_map]; omega, fun h0 => ?_⟩
  rw [List.length_map] at h0
  obtain ⟨ad, es, hA, _, _, _⟩ := hx 0 _ (List.getElem?_eq_getElem h0)
  refine ⟨ad, hA, fun j p hj => ?_⟩
  rw [List.getElem?_map] at hj
  cases hx' : xs[j]? with
  | none => rw [hx'] at hj; simp at hj
  | some x =>
    rw [hx'] at hj
    obtain rfl := Option.some.inj hj
    obtain ⟨ad', es', hA', hl, hcs, hR⟩ := hx j x hx'
    obtain rfl := Option.some.inj (hA.symm.trans hA')
    refine ⟨es', hl, hc es' x hl hR, fun i u hu => ?_⟩
    have := hcs i u hu
    rwa [Go.Deep.add_add] at this
/-- What holds of every element's reading. -/
theorem row_all {α : Type} {n : Nat} {R : Rd α} {w : World} {A : Option Addr} {xs : List α} (P : α → Prop) (hx : rdRow n R w A xs) (hc : ∀ es x, R w es x → P x) : ∀ x ∈ xs, P x := by
  intro x h
  obtain ⟨j, hj⟩ := List.getElem?_of_mem h
  obtain ⟨_, es, _, _, _, hR⟩ := hx j x hj
  exact hc es x hR
theorem len2 {es : List Value} (h : es.length = 2) : ∃ a b, es = [a, b] := by match es, h with | [a, b], _ => exact ⟨a, b, rfl⟩
theorem len3 {es : List Value} (h : es.length = 3) : ∃ a b c, es = [a, b, c] := by match es, h with | [a, b, c], _ => exact ⟨a, b, c, rfl⟩
theorem len5 {es : List Value} (h : es.length = 5) : ∃ a b c d e, es = [a, b, c, d, e] := by match es, h with | [a, b, c, d, e], _ => exact ⟨a, b, c, d, e, rfl⟩
end Go.Proofs.YtejecmjajdhiiaaDoor
/-! ### LgIn -/
namespace Go.Proofs.YtejecmjajdhiiaaDoor.Print
open Go.RowKit Go.Proofs.YtejecmjajdhiiaaDoorW.PrintWords Go.Proofs.YtejecmjajdhiiaaDoorW.PrintLast Go.Proofs.YtejecmjajdhiiaaDoorW.PrintMore
set_option linter.unusedSimpArgs false
set_option linter.unusedVariables false
abbrev LotR := ByteArray × Int × Unit
def rLot : Rd LotR := rdPair 1 rdStr (rdPair 1 (rdInt .i64) rdUnit)
def gLot (x : LotR) : S37 := ⟨x.1, x.2.1⟩
abbrev VesR := ByteArray × Int × List LotR × Unit
def rVes : Rd VesR := rdPair 1 rdStr (rdPair 1 (rdInt .i64) (rdPair 1 (rdSl 2 24 rLot) rdUnit))
def gVes (x : VesR) : S25 := ⟨x.1, x.2.1, x.2.2.1.map gLot⟩
section
variable {H : Type} (enc : TypeId × Value → H) (w : World)
theorem lot_opens : Opens enc Tryd.prog w 37 rLot := opens_struct Tryd.underlying37 (opens_cons rfl (by kernel_rfl) (opens_str Tryd.underlying9) (opens_cons rfl (by kernel_rfl) (opens_int Tryd.underlying3) opens_nil))
theorem ves_opens : Opens enc Tryd.prog w 25 rVes := opens_struct Tryd.underlying25 (opens_cons rfl (by kernel_rfl) (opens_str Tryd.underlying9) (opens_cons rfl (by kernel_rfl) (opens_int Tryd.underlying3) (opens_cons rfl (by kernel_rfl) (opens_sl Tryd.underlying23 (by kernel_rfl) (by kernel_rfl) (lot_opens enc w)) opens_nil)))
theorem vess_opens : Opens enc Tryd.prog w 22 (rdSl 3 48 rVes) := opens_sl Tryd.underlying22 (by kernel_rfl) (by kernel_rfl) (ves_opens enc w)
end
theorem lot_K {w : World} {es : List Value} {x : LotR} (hl : es.length = 2) (h : rLot w es x) : k37.K w (gLot x) es := by
  obtain ⟨a, b, rfl⟩ := len2 hl
  obtain ⟨⟨h1, _⟩, ⟨h2, _⟩, _⟩ := h
  simp at h1 h2
  subst h1 h2
  exact k37_mk w (gLot x)
theorem C_lotr {w : World} {A : Option Addr} {xs : List LotR} (hm : xs.length ≤ 9223372036854775807) (hx : rdRow 2 rLot w A xs) : Kd.C k37 w A (xs.map gLot).length (xs.map gLot) := C_of_row gLot rfl hm hx (fun _ _ hl h => lot_K hl h)
theorem ves_K {w : World} {es : List Value} {x : VesR} (hl : es.length = 3) (h : rVes w es x) : k25.K w (gVes x) es := by
  obtain ⟨a, b, c, rfl⟩ := len3 hl
  obtain ⟨⟨h1, _⟩, ⟨h2, _⟩, ⟨A0, c0, e1, hl1, _, hm1, hr1⟩, _⟩ := h
  simp at h1 h2 e1
  subst h1 h2 e1
  have k1 := C_lotr (by omega) hr1
  have e : x.2.2.1.length = (gVes x).f2.length := by show _ = (x.2.2.1.map gLot).length; rw [List.length_map]
  rw [e]
  exact k25_mk w (gVes x) (by rw [← e]; exact hl1) k1
theorem C_vesr {w : World} {A : Option Addr} {xs : List VesR} (hm : xs.length ≤ 9223372036854775807) (hx : rdRow 3 rVes w A xs) : Kd.C k25 w A (xs.map gVes).length (xs.map gVes) := C_of_row gVes rfl hm hx (fun _ _ hl h => ves_K hl h)
theorem wf_i64 {n : Int} (h : (Lit.int .i64 n).wf = true) : -9223372036854775808 ≤ n ∧ n ≤ 9223372036854775807 := by
  simp only [Lit.wf, Bool.and_eq_true, decide_eq_true_eq] at h
  exact ⟨h.1, h.2⟩
theorem ves_range {w : World} {A : Option Addr} {xs : List VesR} (hx : rdRow 3 rVes w A xs) : ∀ x ∈ xs.map gVes, -9223372036854775808 ≤ x.f1 ∧ x.f1 ≤ 9223372036854775807 := by
  intro x h
  obtain ⟨y, hy, rfl⟩ := List.mem_map.1 h
  refine row_all (fun y : VesR => -9223372036854775808 ≤ (gVes y).f1 ∧ (gVes y).f1 ≤ 9223372036854775807) hx (fun es z hz => ?_) y hy
  obtain ⟨_, ⟨_, h2⟩, _⟩ := hz
  exact wf_i64 h2
end Go.Proofs.YtejecmjajdhiiaaDoor.Print
/-! ### LgWalk4 -/
namespace Go.Proofs.YtejecmjajdhiiaaDoor.Print
open Go.RowKit Go.Proofs.YtejecmjajdhiiaaDoorW.PrintWords Go.Proofs.YtejecmjajdhiiaaDoorW.PrintLast Go.Proofs.YtejecmjajdhiiaaDoorW.PrintMore
set_option linter.unusedSimpArgs false
set_option linter.unusedVariables false
theorem own_LAt {w : World} {base : Nat} {A : Option Addr} {c : Nat} {o : List S37} (h : w.ownsRow base 37 2 (.slice A o.length c) o.length (lotRow o)) (hm : o.length ≤ 1000000000) : LAt w A c o := by
  obtain ⟨A', c', e, h1⟩ := ownsRow_len h
  obtain ⟨rfl, rfl⟩ : A = A' ∧ c = c' := by simpa using e
  exact ⟨h1, C_lots hm (fun h0 => ownsRow_at h h0)⟩
theorem lot_at {w : World} {base g c : Nat} {o : List S37} (h : w.ownsRow base 37 2 (.slice (some ⟨g, 0, none⟩) o.length c) o.length (lotRow o)) {k : Nat} {q : S37} (hq : o[k]? = some q) : w.cell? ⟨g, k * 2, none⟩ = some (.string q.f0) ∧ w.cell? ⟨g, k * 2 + 1, none⟩ = some (.int .i64 q.f1) :=
  ⟨ownsRow_get h (flat_get lotCells 2 (fun _ => rfl) (k := 0) hq rfl), ownsRow_get h (flat_get lotCells 2 (fun _ => rfl) (k := 1) hq rfl)⟩
theorem own_frozen {w : World} {base : Nat} {e : TypeId} {size n c g : Nat} {xs : List Value} (h : w.ownsRow base e size (.slice (some ⟨g, 0, none⟩) n c) n xs) (j : Nat) : w.frozen? ⟨g, j, none⟩ = false := by
  rcases h.2 with ⟨h1, _⟩ | ⟨g', cap, cur, hv, hb, hg, hn, hm, hs, ht⟩
  · cases h1
  · obtain ⟨rfl, rfl⟩ : g = g' ∧ c = cap := by simpa using hv
    exact frozen_of_row w g j _ _ hg
end Go.Proofs.YtejecmjajdhiiaaDoor.Print
/-! ### LgWalk5 -/
namespace Go.Proofs.YtejecmjajdhiiaaDoor.Print
open Go.RowKit Go.Proofs.YtejecmjajdhiiaaDoorW.PrintWords Go.Proofs.YtejecmjajdhiiaaDoorW.PrintLast Go.Proofs.YtejecmjajdhiiaaDoorW.PrintMore
set_option linter.unusedSimpArgs false
set_option linter.unusedVariables false
theorem cell_f0 {w : World} {ad : Addr} {k n : Nat} {cs : List Value} {u : Value} (h : CellsAt w (ad.add (k * n)) cs) (hu : cs[0]? = some u) : w.cell? (ad.add (k * n)) = some u := cellsAt_head h hu
theorem cell_fj {w : World} {ad : Addr} {k n : Nat} {cs : List Value} {u : Value} (h : CellsAt w (ad.add (k * n)) cs) (j : Nat) (hj : 0 < j) (hu : cs[j]? = some u) : w.cell? ⟨(ad.add (k * n)).block, (ad.add (k * n)).off + j, none⟩ = some u := cellsAt_field h j hj hu
end Go.Proofs.YtejecmjajdhiiaaDoor.Print
/-! ### LgWalkB -/
namespace Go.Proofs.YtejecmjajdhiiaaDoor.Print
open Go.RowKit Go.Proofs.YtejecmjajdhiiaaDoorW.PrintWords Go.Proofs.YtejecmjajdhiiaaDoorW.PrintLast Go.Proofs.YtejecmjajdhiiaaDoorW.PrintMore
set_option linter.unusedVariables false
theorem vess_at {A0 : Option Addr} {cap0 : Nat} {y0 : List VesR} {w : World} (hl0 : y0.length ≤ cap0) (hb0 : cap0 * 48 ≤ 140737488351232) (hr0 : rdRow 3 rVes w A0 y0) : VAt w A0 cap0 (y0.map gVes) := ⟨by simpa using hl0, C_vesr (by omega) hr0⟩
end Go.Proofs.YtejecmjajdhiiaaDoor.Print
/-! ### LgWalk1 -/
namespace Go.Proofs.YtejecmjajdhiiaaDoor.Print
open Go.RowKit Go.Proofs.YtejecmjajdhiiaaDoorW.PrintWords Go.Proofs.YtejecmjajdhiiaaDoorW.PrintLast Go.Proofs.YtejecmjajdhiiaaDoorW.PrintMore
set_option linter.unusedSimpArgs false
set_option linter.unusedVariables false
attribute [local go_sem high] beq_self_eq_true
theorem infoVs : (Tryd.prog.info? 25).map (fun i => (i.zero, i.size, i.bytes)) = some (some (.agg #[.string ⟨#[]⟩, .int .i64 0, .slice none 0 0]), 3, 48) := by kernel_rfl
section
variable {w : World} {A : Option Addr} {c : Nat} {l : List S25}
theorem rcheck_c (h : VAt w A c l) (hl : Lite l) (hs : Slim l) : Calls Tryd.prog 13 #[.slice A l.length c] w fun e w' => e = .returned (.int .i64 (checkM l)) ∧ Only [] w w' :=
  (malthouseref13_Check.calls 700 A c l _ w h.2 h.1 (rcheck_is hl hs 700 (by omega))).mono fun _ _ h => ⟨h.1, .of_below h.2⟩
end
end Go.Proofs.YtejecmjajdhiiaaDoor.Print
/-! ### LgDo1 -/
namespace Go.Proofs.YtejecmjajdhiiaaDoor.Print
open Go.RowKit Go.Proofs.YtejecmjajdhiiaaDoorW.PrintWords Go.Proofs.YtejecmjajdhiiaaDoorW.PrintLast Go.Proofs.YtejecmjajdhiiaaDoorW.PrintMore
set_option linter.unusedSimpArgs false
set_option linter.unusedVariables false
set_option maxHeartbeats 8000000 in
set_option maxRecDepth 100000 in
theorem with_c {w : World} {A B : Option Addr} {c d : Nat} {l : List S25} {m : List S37} (h : VAt w A c l) (hm : LAt w B d m) (hl : Lite l) {k : Nat} {x : S25} (hx : l[k]? = some x) :
    Calls Tryd.prog 44 #[.slice A l.length c, .int .i64 k, .slice B m.length d] w fun e w' => ∃ C q, e = .returned (.slice C l.length q) ∧ VAt w' C q (l.set k (turned x m)) ∧ Only [] w w' := by
  obtain ⟨hs, hsl, hfl, hin⟩ := flat_v h.2
  have hkl := (List.getElem?_eq_some_iff.1 hx).1
  have HIN := Lib.hid hin
  have HM := Lib.hid hm
  have HX := Lib.hid hx
  have HFL := Lib.hid hfl
  have HSL := Lib.hid hsl
  have HLN := Lib.hid hl.len
  have HONE := Lib.hid (vCells_one l hs (fun u hu => by
    obtain ⟨j, hj, rfl⟩ := List.getElem_of_mem hu
    obtain ⟨A1, c1, e1, _⟩ := hin j _ _ (List.getElem?_eq_getElem (by omega)) (List.getElem?_eq_getElem hj)
    rw [e1]
    rfl))
  have hl50 := hl.len
  have hkk : (k : Int) < l.length := by omega
  have hk0 : (0 : Int) ≤ k := by omega
  clear h hm hx hfl hin hsl hl
  go_enter Tryd.func44, Tryd.ntmps44
  go_wp2_with (at_builtin; refine wpList_append_row rfl _ _ 22 rfl w.heap.size 25 3 48 (.agg #[.string ⟨#[]⟩, .int .i64 0, .slice none 0 0]) Tryd.underlying22 infoVs rfl (by omega) (.slice none 0 0) 0 [] rfl (ownsRow_nil _ _ _ _) A l.length c (vCells l hs) rfl (vCells_length _ _ HSL.out) HFL.out HONE.out (by unfold maxLen; omega) (by omega) (Nat.le_refl _) ?_; intro A4 c4 w4 hown ho hblk; rw [Nat.zero_add, List.nil_append] at hown; have HS := Lib.hid ((St.nil w).made (show Only [] w w4 from ho) hown); clear hown ho hblk; rw [Nat.zero_add]; refine (fun (h : Hid _) => h.out) ?_)
  refine Lib.hid ?_
  simp only [List.nil_append] at HS
  obtain ⟨g, c5, hv, hc5⟩ := ownsRow_some (HS.out.row 0 rfl) (by omega)
  obtain ⟨rfl, rfl⟩ : A4 = some ⟨g, 0, none⟩ ∧ c4 = c5 := by simpa using hv
  clear hv
  go_wp2_with (with_reducible refine wpList_storeR rfl 23 (.tmp 14) (.tmp 12) rfl HS.out 0 rfl (k * 3 + 2) _ rfl rfl [.slice B m.length d] rfl (by kernel_rfl) (by simp; omega) (by simp [Value.oneCell']) ?_; intro w5 HS5)
  go_ret
  have h3 := HS5.out
  obtain ⟨u0, hu0⟩ : ∃ u, hs[k]? = some u := ⟨_, List.getElem?_eq_getElem (by rw [HSL.out]; exact hkl)⟩
  rw [List.set_cons_zero, splice_set _ _ _ (by rw [vCells_length _ _ HSL.out]; omega), vCells_set HX.out hu0] at h3
  refine ⟨some ⟨g, 0, none⟩, c4, rfl, ⟨by rw [List.length_set]; exact hc5, ?_⟩, h3.only⟩
  refine C_ves (hs := hs.set k (.slice B m.length d)) (by rw [List.length_set, List.length_set]; exact HSL.out) (by rw [List.length_set]; omega) (fun _ => ⟨_, rfl, ?_⟩) (fun j y u hj hu => ?_)
  · rw [vCells_turned _ HX.out]
    obtain ⟨ad, e, hc⟩ := ownsRow_at (h3.row 0 rfl) (by omega)
    obtain rfl := Option.some.inj e
    exact hc
  · by_cases hjk : j = k
    · subst hjk
      rw [List.getElem?_set_self hkl] at hj
      rw [List.getElem?_set_self (by rw [HSL.out]; exact hkl)] at hu
      obtain rfl := Option.some.inj hj
      obtain rfl := Option.some.inj hu
      exact ⟨B, d, rfl, HM.out.1, Kd.C_below HM.out.2 h3.only.nil_below⟩
    · rw [List.getElem?_set_ne (Ne.symm hjk)] at hj hu
      obtain ⟨A1, c1, e1, e2, e3⟩ := HIN.out j y u hj hu
      exact ⟨A1, c1, e1, e2, Kd.C_below e3 h3.only.nil_below⟩
set_option maxHeartbeats 8000000 in
set_option maxRecDepth 100000 in
theorem copy_c {w : World} {A : Option Addr} {c : Nat} {l : List S25} (h : VAt w A c l) (hl : Lite l) :
    Calls Tryd.prog 22 #[.slice A l.length c] w fun e w' => ∃ C q, e = .returned (.slice C l.length q) ∧ VAt w' C q l ∧ Only [] w w' := by
  obtain ⟨hs, hsl, hfl, hin⟩ := flat_v h.2
  have HIN := Lib.hid hin
  have HV := Lib.hid h
  have HFL := Lib.hid hfl
  have HSL := Lib.hid hsl
  have HL := Lib.hid hl
  have HONE := Lib.hid (vCells_one l hs (fun u hu => by
    obtain ⟨j, hj, rfl⟩ := List.getElem_of_mem hu
    obtain ⟨A1, c1, e1, _⟩ := hin j _ _ (List.getElem?_eq_getElem (by omega)) (List.getElem?_eq_getElem hj)
    rw [e1]
    rfl))
  have hl50 := hl.len
  clear h hfl hin hl
  go_enter Tryd.func22, Tryd.ntmps22
  go_wp2_with (at_builtin; refine wpList_append_row rfl _ _ 22 rfl w.heap.size 25 3 48 (.agg #[.string ⟨#[]⟩, .int .i64 0, .slice none 0 0]) Tryd.underlying22 infoVs rfl (by omega) (.slice none 0 0) 0 [] rfl (ownsRow_nil _ _ _ _) A l.length c (vCells l hs) rfl (vCells_length _ _ HSL.out) HFL.out HONE.out (by unfold maxLen; omega) (by omega) (Nat.le_refl _) ?_; intro A1 c1 w4 hown ho hblk; rw [Nat.zero_add, List.nil_append] at hown; have HS := Lib.hid ((St.nil w).made (show Only [] w w4 from ho) hown); clear hown ho hblk; rw [Nat.zero_add]; refine (fun (h : Hid _) => h.out) ?_)
  refine Lib.hid ?_
  simp only [List.nil_append] at HS
  go_wp2
  go_loopw [4] (fun si wr => ∃ (i : Nat) (us : List Value), si = .int .i64 i ∧ i ≤ l.length ∧ us.length = i ∧ Hid (St w (.row (.slice A1 l.length c1) 25 3 l.length (vCells l (us ++ hs.drop i)) :: lotRes us (l.take i)) wr)) (fun si _ => l.length - (intOf si).toNat)
  case atStart => exact ⟨0, [], rfl, by omega, rfl, by simpa [lotRes] using HS⟩
  case round =>
    clear HS
    obtain ⟨i, us, rfl, hil, hul, HS⟩ := hrel
    by_cases hlt : i < l.length
    · have hlt' : (i : Int) < l.length := by omega
      have hi0 : (0 : Int) ≤ i := by omega
      have hx : l[i]? = some l[i] := List.getElem?_eq_getElem hlt
      obtain ⟨g, c2, hv, _⟩ := ownsRow_some (HS.out.row 0 rfl) (by omega)
      obtain ⟨rfl, rfl⟩ : A1 = some ⟨g, 0, none⟩ ∧ c1 = c2 := by simpa using hv
      clear hv
      obtain ⟨ad, A3, c3, rfl, hLA, hcs⟩ := (HV.out.only HS.out.only).elem hx
      have m2 := cell_fj hcs 2 (by omega) rfl
      have HFT := Lib.hid (flat_lots hLA.2)
      have hl60 : l[i].f2.length ≤ 60 := (HL.out.all _ (List.getElem_mem hlt)).len
      have hu0 : (us ++ hs.drop i)[i]? = some hs[i] := by rw [List.getElem?_append_right (by omega), hul, Nat.sub_self, List.getElem?_drop, Nat.add_zero, List.getElem?_eq_getElem (by omega)]
      have HU0 := Lib.hid hu0
      have HX := Lib.hid hx
      clear hcs hLA hu0 hx
      have HI0 := Lib.hid (show ∀ (A4 : Option Addr) (c4 : Nat), (Res.row (.slice (some ⟨g, 0, none⟩) l.length c1) 25 3 l.length (vCells l (us ++ hs.drop i)) :: (lotRes us (l.take i) ++ [Res.row (.slice A4 l[i].f2.length c4) 37 2 l[i].f2.length (lotRow l[i].f2)]))[0]? = some (.row (.slice (some ⟨g, 0, none⟩) l.length c1) 25 3 l.length (vCells l (us ++ hs.drop i))) from fun _ _ => rfl)
      go_wp2_with (first
        | (at_builtin; refine wpList_append_row rfl _ _ 23 rfl wr.heap.size 37 2 24 (.agg #[.string ⟨#[]⟩, .int .i64 0]) Tryd.underlying23 infoLt rfl (by omega) (.slice none 0 0) 0 [] rfl (ownsRow_nil _ _ _ _) A3 l[i].f2.length c3 (lotRow l[i].f2) rfl (lotRow_length _) HFT.out (lotRow_one _) (by unfold maxLen; omega) (by omega) (Nat.le_refl _) ?_; intro A4 c4 w2 hown ho hblk; rw [Nat.zero_add, List.nil_append] at hown; have HS2 := Lib.hid (HS.out.made (show Only [] wr w2 from ho) hown); simp only [List.cons_append] at HS2; clear hown ho hblk; rw [Nat.zero_add])
        | (with_reducible refine wpList_storeR rfl 23 (.tmp 22) (.tmp 20) rfl HS2.out 0 (HI0.out A4 c4) (i * 3 + 2) _ rfl rfl [.slice A4 l[i].f2.length c4] rfl (by kernel_rfl) (by simp; omega) (by simp [Value.oneCell']) ?_; intro w3 HS3))
      have h3 := HS3.out
      rw [List.set_cons_zero, splice_set _ _ _ (by rw [vCells_length _ _ (by simp; omega)]; omega), vCells_set HX.out HU0.out] at h3
      have e1 : (us ++ hs.drop i).set i (.slice A4 l[i].f2.length c4) = (us ++ [.slice A4 l[i].f2.length c4]) ++ hs.drop (i + 1) := by
        rw [List.set_append_right _ _ (by omega), hul, Nat.sub_self, List.drop_eq_getElem_cons (by omega), List.set_cons_zero]
        simp
      have e2 : lotRes (us ++ [.slice A4 l[i].f2.length c4]) (l.take (i + 1)) = lotRes us (l.take i) ++ [Res.row (.slice A4 l[i].f2.length c4) 37 2 l[i].f2.length (lotRow l[i].f2)] := by
        rw [List.take_succ_eq_append_getElem hlt]
        unfold lotRes
        rw [List.zipWith_append (by rw [List.length_take]; omega)]
        rfl
      have HN := Lib.hid (show St w (.row (.slice (some ⟨g, 0, none⟩) l.length c1) 25 3 l.length (vCells l ((us ++ [.slice A4 l[i].f2.length c4]) ++ hs.drop (i + 1))) :: lotRes (us ++ [.slice A4 l[i].f2.length c4]) (l.take (i + 1))) w3 by rw [e2, ← e1]; exact h3)
      clear h3 e1 e2 HS2 HS3 HS
      go_roundw
      case rel => exact ⟨i + 1, us ++ [.slice A4 l[i].f2.length c4], by go_num, by omega, by simp [hul], HN⟩
      case measure => simp [intOf]; omega
    · obtain rfl : i = l.length := by omega
      have hlt' : ¬ (l.length : Int) < l.length := by omega
      go_wp2
      go_ret
      have h := HS.out
      rw [List.drop_eq_nil_of_le (by omega), List.append_nil, List.take_length] at h
      have hS := S_of_St (M := []) (ok := fun _ => True) (by rw [List.append_nil]; exact h) hul (fun _ _ _ _ _ => trivial)
      obtain ⟨_, h5, h6⟩ := Kd.S_reads' hS
      exact ⟨A1, c1, rfl, ⟨h5, h6⟩, h.only⟩
end Go.Proofs.YtejecmjajdhiiaaDoor.Print
/-! ### LgCon2 -/
namespace Go.Proofs.YtejecmjajdhiiaaDoor.Print
open Go.RowKit Go.Proofs.YtejecmjajdhiiaaDoorW.PrintWords Go.Proofs.YtejecmjajdhiiaaDoorW.PrintLast Go.Proofs.YtejecmjajdhiiaaDoorW.PrintMore
set_option linter.unusedSimpArgs false
set_option linter.unusedVariables false
theorem LAt.elem {w : World} {A : Option Addr} {c : Nat} {l : List S37} (h : LAt w A c l) {i : Nat} {x : S37} (hx : l[i]? = some x) :
    ∃ ad, A = some ad ∧ CellsAt w (ad.add (i * 2)) [.string x.f0, .int .i64 x.f1] := by
  obtain ⟨hi, rfl⟩ := List.getElem?_eq_some_iff.1 hx
  obtain ⟨ad, cs, rfl, _, hK, hcs⟩ := Kd.C_cells h.2 i hi
  obtain rfl := k37_open hK
  exact ⟨ad, rfl, hcs⟩
abbrev OpR := Int × ByteArray × ByteArray × ByteArray × Int × Unit
def rOp : Rd OpR := rdPair 1 (rdInt .i64) (rdPair 1 rdStr (rdPair 1 rdStr (rdPair 1 rdStr (rdPair 1 (rdInt .i64) rdUnit))))
def gOp (x : OpR) : S41 := ⟨x.1, x.2.1, x.2.2.1, x.2.2.2.1, x.2.2.2.2.1⟩
section
variable {H : Type} (enc : TypeId × Value → H) (w : World)
theorem op_opens : Opens enc Tryd.prog w 41 rOp := opens_struct Tryd.underlying41 (opens_cons rfl (by kernel_rfl) (opens_int Tryd.underlying3) (opens_cons rfl (by kernel_rfl) (opens_str Tryd.underlying9) (opens_cons rfl (by kernel_rfl) (opens_str Tryd.underlying9) (opens_cons rfl (by kernel_rfl) (opens_str Tryd.underlying9) (opens_cons rfl (by kernel_rfl) (opens_int Tryd.underlying3) opens_nil)))))
end
end Go.Proofs.YtejecmjajdhiiaaDoor.Print
/-! ### Print16 -/
namespace Go.Proofs.YtejecmjajdhiiaaDoor.Print
open Go.RowKit Go.Proofs.YtejecmjajdhiiaaDoorW.PrintWords Go.Proofs.YtejecmjajdhiiaaDoorW.PrintLast Go.Proofs.YtejecmjajdhiiaaDoorW.PrintMore
attribute [local go_sem] min_two
set_option linter.unusedVariables false
set_option linter.unusedSimpArgs false
mutual
def malthouseref13_parted.l0 : Nat → List (S37) → Int → List (S37) → List (S37) → Int → Option ((List (S37)) × (List (S37)))
  | 0, _, _, _, _, _ => none
  | k + 1, x0, x1, x6, x7, x8 => if x8 < (x0.length : Int) then (if 0 ≤ x8 then (if ((rd_T37 x0 x8).f1) > x1 then (malthouseref13_parted.j1 k x0 x1 x6 x7 x8 x1) else (malthouseref13_parted.j1 k x0 x1 x6 x7 x8 ((rd_T37 x0 x8).f1))) else (none)) else (some (x6, x7))
def malthouseref13_parted.j1 : Nat → List (S37) → Int → List (S37) → List (S37) → Int → Int → Option ((List (S37)) × (List (S37)))
  | 0, _, _, _, _, _, _ => none
  | k + 1, x0, x1, x6, x7, x8, x9 => if x9 > 0 then (if 0 ≤ x8 then (if x8 < (x0.length : Int) then (if x7.length < 5864062014805 then ((some (x7 ++ [(⟨(rd_T37 x0 x8).f0, x9⟩ : S37)] : List (S37))).bind fun y262 => (if ((rd_T37 x0 x8).f1) > x9 then (if x6.length < 5864062014805 then (malthouseref13_parted.l0 k x0 (wrap64 (x1 - x9)) (x6 ++ [(⟨(rd_T37 x0 x8).f0, wrap64 (((rd_T37 x0 x8).f1) - x9)⟩ : S37)]) y262 (wrap64 (x8 + 1))) else (none)) else (malthouseref13_parted.l0 k x0 (wrap64 (x1 - x9)) x6 y262 (wrap64 (x8 + 1))))) else (none)) else (none)) else (none)) else (if 0 ≤ x8 then (if x8 < (x0.length : Int) then (if ((rd_T37 x0 x8).f1) > x9 then (if x6.length < 5864062014805 then (malthouseref13_parted.l0 k x0 (wrap64 (x1 - x9)) (x6 ++ [(⟨(rd_T37 x0 x8).f0, wrap64 (((rd_T37 x0 x8).f1) - x9)⟩ : S37)]) x7 (wrap64 (x8 + 1))) else (none)) else (malthouseref13_parted.l0 k x0 (wrap64 (x1 - x9)) x6 x7 (wrap64 (x8 + 1)))) else (none)) else (none))
end
def malthouseref13_parted.f (k : Nat) (l0 : List (S37)) (a1 : Int) : Option ((List (S37)) × (List (S37))) := malthouseref13_parted.l0 k l0 a1 ([] : List (S37)) ([] : List (S37)) 0
def malthouseref13_parted.T12 : Bool × List (List Nat × List Nat) := (true, [([], []), ([], []), ([], []), ([1, 2], [1, 2]), ([3], [3]), ([4], [4]), ([], []), ([], []), ([6, 7], [6, 7]), ([8], [8]), ([9], [9]), ([], []), ([10, 11], [10, 11]), ([5, 12], [5, 12]), ([13], [13]), ([0, 14], [0, 14]), ([15, 15, 0, 1, 2, 3, 4, 5, 6, 7, 8, 9, 10, 11, 12, 13, 14, 15], [0, 15])])
def malthouseref13_parted.B12 : List Nat := [0, 0, 0, 6, 14, 30, 0, 0, 192, 448, 960, 0, 4032, 8190, 16382, 32767, 65535]
theorem malthouseref13_parted.tab12 : rtab .any (opsOf Tryd.f45 12) = malthouseref13_parted.T12 := by kernel_rfl
theorem malthouseref13_parted.bits12 : waitsOk malthouseref13_parted.T12.2 malthouseref13_parted.B12 = true := by kernel_rfl
set_option maxHeartbeats 8000000 in
set_option maxRecDepth 100000 in
theorem malthouseref13_parted.calls (k : Nat) (A0 : Option Addr) (c0 : Nat) (l0 : List (S37)) (a1 : Int) (r1 : List (S37)) (r2 : List (S37)) (w : World) (hr0 : Kd.C k37 w A0 l0.length l0) (hc0 : l0.length ≤ c0) (h : malthouseref13_parted.f k l0 a1 = some (r1, r2)) :
    Calls Tryd.prog 45 #[.slice A0 l0.length c0, .int .i64 a1] w fun e w' => ∃ v0_ v1_ : Value, e = .returned (.tuple #[v0_, v1_]) ∧ Kd.R k37 37 w' w.heap.size (fun k_ => some k_ ≠ (v1_ : Value).ownBlock) v0_ r1 ∧ Kd.R k37 37 w' w.heap.size (fun k_ => some k_ ≠ (v0_ : Value).ownBlock) v1_ r2 ∧ Below w.heap.size w w' := by
  have hu37 := Tryd.underlying37
  have HR0 := Aside0.mk hr0
  have HC0 := Aside0.mk hc0
  clear hr0 hc0
  have HB := Aside0.mk (Below.refl w.heap.size w)
  have H : (malthouseref13_parted.l0 k l0 a1 ([] : List (S37)) ([] : List (S37)) 0) = some (r1, r2) := h
  clear h
  have H' := Aside0.mk H
  clear H
  go_enter Tryd.func45, Tryd.ntmps45
  go_wp2
  go_loopg [1, 6, 7, 8] k (fun kq v1 v6 v7 v8 w' => ∃ (x1_1 : Int) (x6_1 : List (S37)) (x7_1 : List (S37)) (x8_1 : Int), v1 = .int .i64 x1_1 ∧ v8 = .int .i64 x8_1 ∧ Aside0 (malthouseref13_parted.l0 kq l0 x1_1 x6_1 x7_1 x8_1 = some (r1, r2)) ∧ Aside0 (kq ≤ k) ∧ Aside0 (Kd.R k37 37 w' w.heap.size (fun k_ => some k_ ≠ (v7 : Value).ownBlock) v6 x6_1) ∧ Aside0 (Kd.R k37 37 w' w.heap.size (fun k_ => some k_ ≠ (v6 : Value).ownBlock) v7 x7_1) ∧ Aside0 (Below w.heap.size w w'))
  case atStart => exact ⟨(a1), (([] : List (S37))), (([] : List (S37))), (0), (by first | rfl | (simp; done) | (simp [*]; done)), (by first | rfl | (simp; done) | (simp [*]; done)), H', ⟨Nat.le_refl _⟩, ⟨by first | exact Kd.R_nil _ _ _ _ _ | exact Kd.N_nil _ _ _ _ _ | exact Kd.V_nil _ _ _ _ _ | exact Kd.Q_nil _ _ _ _ _ | exact Kd.S_nil _ _ _ _ _⟩, ⟨by first | exact Kd.R_nil _ _ _ _ _ | exact Kd.N_nil _ _ _ _ _ | exact Kd.V_nil _ _ _ _ _ | exact Kd.Q_nil _ _ _ _ _ | exact Kd.S_nil _ _ _ _ _⟩, ⟨by repeat (first | (with_reducible first | exact HB.out | apply below_alloc | apply pw_below_drewN | apply below_drew1) | exact HB.out)⟩⟩
  case round =>
    clear H'
    try clear p2
    obtain ⟨x1_1, x6_1, x7_1, x8_1, rfl, rfl, HA, HK1, HO_6, HO_7, HB⟩ := hrel
    cases gk with
    | zero => exact absurd HA.out (by simp [malthouseref13_parted.l0])
    | succ k1 =>
      have H := HA.out
      clear HA
      simp only [malthouseref13_parted.l0] at H
      by_cases c3 : x8_1 < (l0.length : Int)
      · rw [if_pos c3] at H
        have c3b0 : decide (x8_1 < (l0.length : Int)) = true := decide_eq_true c3
        clear c3
        by_cases c4 : 0 ≤ x8_1
        · rw [if_pos c4] at H
          have c4b0 : decide (0 ≤ x8_1) = true := decide_eq_true c4
          clear c4
          have HC5 := Aside0.mk H
          clear H
          have p260 : 0 ≤ (x8_1 : Int) := of_decide_eq_true (by first | (with_reducible assumption) | assumption)
          have q260 : x8_1 < (l0.length : Int) := of_decide_eq_true (by first | (with_reducible assumption) | assumption)
          obtain ⟨ad260, e260, hx260_0, hx260_1⟩ := at_T37 HR0.out x8_1 p260 q260
          cases e260
          replace hx260_0 := (HB.out.cell (World.block_lt_of_cell? w _ hx260_0)).trans hx260_0
          replace hx260_1 := (HB.out.cell (World.block_lt_of_cell? w _ hx260_1)).trans hx260_1
          replace p260 := eq_true p260
          replace q260 := eq_true q260
          go_upto_if 23 with (fail)
          go_cut [9] (fun v9 wc => ∃ (kq : Nat) (x9_4 : Int), v9 = .int .i64 x9_4 ∧ Aside0 (malthouseref13_parted.j1 kq l0 x1_1 x6_1 x7_1 x8_1 x9_4 = some (r1, r2)) ∧ Aside0 (kq ≤ k1) ∧ Aside0 (Kd.R k37 37 wc w.heap.size (fun k_ => some k_ ≠ (u7 : Value).ownBlock) u6 x6_1) ∧ Aside0 (Kd.R k37 37 wc w.heap.size (fun k_ => some k_ ≠ (u6 : Value).ownBlock) u7 x7_1) ∧ Aside0 (Below w.heap.size w wc))
          case first =>
            have H := HC5.out
            clear HC5
            by_cases c6 : ((rd_T37 l0 x8_1).f1) > x1_1
            · rw [if_pos c6] at H
              have c6b0 : decide (x1_1 < ((rd_T37 l0 x8_1).f1)) = true := decide_eq_true c6
              clear c6
              (first | rw [c6b0] | (simp only [i64_w, i32_w]; rw [c6b0]) | skip)
              have H' := Aside0.mk H
              clear H
              go_wp2
              go_meet
              case rel => exact ⟨_, (x1_1), (by first | rfl | (simp; done) | (simp [*]; done)), H', ⟨by have := HK1.out; first | omega | exact Nat.le_refl _⟩, ⟨by (with_reducible repeat (first | apply Kd.R_alloc | apply Kd.R_drewN | apply Kd.R_drew)); exact HO_6.out⟩, ⟨by (with_reducible repeat (first | apply Kd.R_alloc | apply Kd.R_drewN | apply Kd.R_drew)); exact HO_7.out⟩, ⟨by repeat (first | (with_reducible first | exact HB.out | apply below_alloc | apply pw_below_drewN | apply below_drew1) | exact HB.out)⟩⟩
            · rw [if_neg c6] at H
              have c6b0 : decide (x1_1 < ((rd_T37 l0 x8_1).f1)) = false := decide_eq_false c6
              clear c6
              (first | rw [c6b0] | (simp only [i64_w, i32_w]; rw [c6b0]) | skip)
              have H' := Aside0.mk H
              clear H
              go_wp2
              go_meet
              case rel => exact ⟨_, ((rd_T37 l0 x8_1).f1), (by first | rfl | (simp; done) | (simp [*]; done)), H', ⟨by have := HK1.out; first | omega | exact Nat.le_refl _⟩, ⟨by (with_reducible repeat (first | apply Kd.R_alloc | apply Kd.R_drewN | apply Kd.R_drew)); exact HO_6.out⟩, ⟨by (with_reducible repeat (first | apply Kd.R_alloc | apply Kd.R_drewN | apply Kd.R_drew)); exact HO_7.out⟩, ⟨by repeat (first | (with_reducible first | exact HB.out | apply below_alloc | apply pw_below_drewN | apply below_drew1) | exact HB.out)⟩⟩
          case rest =>
            clear HC5
            try clear p2
            try clear q2
            try clear hx2
            try clear c3
            try clear c3b0
            try clear c4
            try clear c4b0
            try clear c6
            try clear c6b0
            try clear hx260_0
            try clear hx260_1
            try clear p2
            try clear p260
            try clear q260
            obtain ⟨kq, x9_4, rfl, HA, HJ4, HO_6, HO_7, HB⟩ := hcut
            cases kq with
            | zero => exact absurd HA.out (by simp [malthouseref13_parted.j1])
            | succ kj4 =>
              have H := HA.out
              clear HA
              simp only [malthouseref13_parted.j1] at H
              by_cases c7 : x9_4 > 0
              · rw [if_pos c7] at H
                have c7b0 : decide (0 < x9_4) = true := decide_eq_true c7
                clear c7
                by_cases c8 : 0 ≤ x8_1
                · rw [if_pos c8] at H
                  have c8b0 : decide (0 ≤ x8_1) = true := decide_eq_true c8
                  clear c8
                  by_cases c9 : x8_1 < (l0.length : Int)
                  · rw [if_pos c9] at H
                    have c9b0 : decide (x8_1 < (l0.length : Int)) = true := decide_eq_true c9
                    clear c9
                    by_cases c10 : x7_1.length < 5864062014805
                    · rw [if_pos c10] at H
                      have LMc10 := Aside0.mk c10
                      clear c10
                      obtain ⟨y262, hy262⟩ : ∃ y_ : List (S37), y_ = (x7_1 ++ [(⟨(rd_T37 l0 x8_1).f0, x9_4⟩ : S37)]) := ⟨_, rfl⟩
                      replace H : (if ((rd_T37 l0 x8_1).f1) > x9_4 then (if x6_1.length < 5864062014805 then (malthouseref13_parted.l0 kj4 l0 (wrap64 (x1_1 - x9_4)) (x6_1 ++ [(⟨(rd_T37 l0 x8_1).f0, wrap64 (((rd_T37 l0 x8_1).f1) - x9_4)⟩ : S37)]) y262 (wrap64 (x8_1 + 1))) else (none)) else (malthouseref13_parted.l0 kj4 l0 (wrap64 (x1_1 - x9_4)) x6_1 y262 (wrap64 (x8_1 + 1)))) = some (r1, r2) := by first | (rw [hy262]; with_reducible exact H) | (have H2_ := (Option.bind_some _ _).symm.trans H; rw [hy262]; with_reducible exact H2_) | (have H2_ := (Option.bind_some _ _).symm.trans H; with_reducible exact H2_) | with_reducible exact H | (rw [hy262]; exact H) | exact H
                      have Ny262 := Aside0.mk hy262
                      clear hy262
                      by_cases c11 : ((rd_T37 l0 x8_1).f1) > x9_4
                      · rw [if_pos c11] at H
                        have c11b0 : decide (x9_4 < ((rd_T37 l0 x8_1).f1)) = true := decide_eq_true c11
                        clear c11
                        by_cases c12 : x6_1.length < 5864062014805
                        · rw [if_pos c12] at H
                          have LMc12 := Aside0.mk c12
                          clear c12
                          obtain ⟨y268, hy268⟩ : ∃ y_ : List (S37), y_ = (x6_1 ++ [(⟨(rd_T37 l0 x8_1).f0, wrap64 (((rd_T37 l0 x8_1).f1) - x9_4)⟩ : S37)]) := ⟨_, rfl⟩
                          replace H : (malthouseref13_parted.l0 kj4 l0 (wrap64 (x1_1 - x9_4)) y268 y262 (wrap64 (x8_1 + 1))) = some (r1, r2) := by first | (rw [hy268]; with_reducible exact H) | (have H2_ := (Option.bind_some _ _).symm.trans H; rw [hy268]; with_reducible exact H2_) | (have H2_ := (Option.bind_some _ _).symm.trans H; with_reducible exact H2_) | with_reducible exact H | (rw [hy268]; exact H) | exact H
                          have Ny268 := Aside0.mk hy268
                          clear hy268
                          have H' := Aside0.mk H
                          clear H
                          have p261 : 0 ≤ (x8_1 : Int) := of_decide_eq_true (by first | (with_reducible assumption) | assumption)
                          have q261 : x8_1 < (l0.length : Int) := of_decide_eq_true (by first | (with_reducible assumption) | assumption)
                          obtain ⟨ad261, e261, hx261_0, hx261_1⟩ := at_T37 HR0.out x8_1 p261 q261
                          obtain rfl : ad260 = ad261 := (by injection e261)
                          replace hx261_0 := (HB.out.cell (World.block_lt_of_cell? w _ hx261_0)).trans hx261_0
                          replace hx261_1 := (HB.out.cell (World.block_lt_of_cell? w _ hx261_1)).trans hx261_1
                          replace p261 := eq_true p261
                          replace q261 := eq_true q261
                          try go_wp2_with (first | ((with_reducible refine gate_builtin (b := .append) (xs := #[.tmp 27, .tmp 35]) rfl ?_); at_builtin; refine Kd.R_append k37 (w0 := w) w.heap.size rfl (.tmp 27) (.tmp 35) 23 37 (.agg #[(.string ⟨#[]⟩), (.int .i64 0)]) 24 rfl Tryd.underlying23 info37 rfl (by decide) (by omega) u7 x7_1 (⟨(rd_T37 l0 x8_1).f0, x9_4⟩ : S37) [.string ((rd_T37 l0 x8_1).f0), .int .i64 x9_4] (fun k_ => some k_ ≠ (u6 : Value).ownBlock) (fun _ => False) rfl rfl ?aP (fun _ hk => hk.elim) ?aF ?aO ?aB ?aS ?aL ?_; (case aP => exact k37_mkM _ _ _ (⟨(rd_T37 l0 x8_1).f0, x9_4⟩ : S37)); (case aB => exact (by repeat (first | (with_reducible first | exact HB.out | apply below_alloc | apply pw_below_drewN | apply below_drew1) | exact HB.out))); (case aF => exact (fun k_ hk => Kd.fresh' (Kd.R_lt (by (with_reducible repeat (first | apply Kd.R_alloc | apply Kd.R_drewN | apply Kd.R_drew)); exact HO_6.out)) k_ hk)); (case aO => exact (by (with_reducible repeat (first | apply Kd.R_alloc | apply Kd.R_drewN | apply Kd.R_drew)); exact HO_7.out)); (case aS => exact (below_size (by repeat (first | (with_reducible first | exact HB.out | apply below_alloc | apply pw_below_drewN | apply below_drew1) | exact HB.out)))); (case aL => have := LMc10.out; omega); intro v263 w13 ho hb hg hat; rw [← Ny262.out] at ho; have n0_ := Aside0.mk (Kd.R_after (ok := (fun _ => True)) (by (with_reducible repeat (first | apply Kd.R_alloc | apply Kd.R_drewN | apply Kd.R_drew)); exact Kd.R_mono HO_6.out (fun _ hk => ⟨trivial, hk⟩)) hg hat); have n1_ := Aside0.mk (hb); have n2_ := Aside0.mk (ho); clear HO_6; clear HB; clear HO_7; have HO_6 := n0_; have HB := n1_; have HO264 := n2_; clear n0_ n1_ n2_; clear ho hb hg hat; have p265 : 0 ≤ (x8_1 : Int) := of_decide_eq_true (by first | (with_reducible assumption) | assumption); have q265 : x8_1 < (l0.length : Int) := of_decide_eq_true (by first | (with_reducible assumption) | assumption); obtain ⟨ad265, e265, hx265_0, hx265_1⟩ := at_T37 HR0.out x8_1 p265 q265; obtain rfl : ad260 = ad265 := (by injection e265); replace hx265_0 := (HB.out.cell (World.block_lt_of_cell? w _ hx265_0)).trans hx265_0; replace hx265_1 := (HB.out.cell (World.block_lt_of_cell? w _ hx265_1)).trans hx265_1; replace p265 := eq_true p265; replace q265 := eq_true q265))
                          have n0_ := Aside0.mk (Kd.R_drew HO_6.out)
                          have n1_ := Aside0.mk (Kd.R_drew HO264.out)
                          have n2_ := Aside0.mk (below_drew1 HB.out)
                          clear HO_6
                          clear HO264
                          clear HB
                          have HO_6 := n0_
                          have HO264 := n1_
                          have HB := n2_
                          clear n0_ n1_ n2_
                          have p266 : 0 ≤ (x8_1 : Int) := of_decide_eq_true (by first | (with_reducible assumption) | assumption)
                          have q266 : x8_1 < (l0.length : Int) := of_decide_eq_true (by first | (with_reducible assumption) | assumption)
                          obtain ⟨ad266, e266, hx266_0, hx266_1⟩ := at_T37 HR0.out x8_1 p266 q266
                          have hw266_1 := hx266_1
                          have hw266_0 := hx266_0
                          obtain rfl : ad260 = ad266 := (by injection e266)
                          replace hx266_0 := (HB.out.cell (World.block_lt_of_cell? w _ hx266_0)).trans hx266_0
                          replace hx266_1 := (HB.out.cell (World.block_lt_of_cell? w _ hx266_1)).trans hx266_1
                          replace p266 := eq_true p266
                          replace q266 := eq_true q266
                          have p267 : 0 ≤ (x8_1 : Int) := of_decide_eq_true (by first | (with_reducible assumption) | assumption)
                          have q267 : x8_1 < (l0.length : Int) := of_decide_eq_true (by first | (with_reducible assumption) | assumption)
                          obtain ⟨ad267, e267, hx267_0, hx267_1⟩ := at_T37 HR0.out x8_1 p267 q267
                          have hw267_1 := hx267_1
                          have hw267_0 := hx267_0
                          obtain rfl : ad260 = ad267 := (by injection e267)
                          replace hx267_0 := (HB.out.cell (World.block_lt_of_cell? w _ hx267_0)).trans hx267_0
                          replace hx267_1 := (HB.out.cell (World.block_lt_of_cell? w _ hx267_1)).trans hx267_1
                          replace p267 := eq_true p267
                          replace q267 := eq_true q267
                          refine start_ (n := 17) (S := fun w' => w'.cell? (ad260.add ((x8_1).toNat * 2)) = some (.string ((rd_T37 l0 x8_1).f0)) ∧ w'.cell? ⟨(ad260.add ((x8_1).toNat * 2)).block, (ad260.add ((x8_1).toNat * 2)).off + 1, none⟩ = some (.int .i64 ((rd_T37 l0 x8_1).f1)) ∧ w'.cell? (ad260.add ((x8_1).toNat * 2)) = some (.string ((rd_T37 l0 x8_1).f0)) ∧ w'.cell? ⟨(ad260.add ((x8_1).toNat * 2)).block, (ad260.add ((x8_1).toNat * 2)).off + 1, none⟩ = some (.int .i64 ((rd_T37 l0 x8_1).f1))) (ds := []) #[false, false, false, false, false, false, false, false, false, false, false, false, false, false, false, false, false] (by kernel_rfl) rfl rfl ⟨((HB.out.cell (World.block_lt_of_cell? w _ hw266_0)).trans hw266_0), ((HB.out.cell (World.block_lt_of_cell? w _ hw266_1)).trans hw266_1), ((HB.out.cell (World.block_lt_of_cell? w _ hw267_0)).trans hw267_0), ((HB.out.cell (World.block_lt_of_cell? w _ hw267_1)).trans hw267_1)⟩ (fun hHeld => ?_); refine with_tabW malthouseref13_parted.tab12 malthouseref13_parted.bits12 (fun HT_ HW_ => ?_)
                          generalize w13.drew = w14 at HO_6 HO264 HB hx266_0 hx266_1 hx267_0 hx267_1 hHeld ⊢
                          refine pure_ (i := 0) (N := some 44) (v := ?_) (a' := ?_) #[true, false, false, false, false, false, false, false, false, false, false, false, false, false, false, false, false] rfl rfl (any_of HT_.out (by kernel_rfl)) (fun _ _ _ h => h) (Or.inl ⟨by rfl, ?_⟩) ?_ ?_
                          rotate_left
                          · intro w'
                            go_simp
                            with_reducible rfl
                          rotate_left
                          · simp only [Act.put, List.setIfInBounds_toArray, List.set_cons_zero, List.set_cons_succ, i64_w, i32_w]
                            rfl
                          refine pure_ (i := 1) (N := some 45) (v := ?_) (a' := ?_) #[true, true, false, false, false, false, false, false, false, false, false, false, false, false, false, false, false] rfl rfl (any_of HT_.out (by kernel_rfl)) (fun _ _ _ h => h) (Or.inl ⟨by rfl, ?_⟩) ?_ ?_
                          rotate_left
                          · intro w'
                            go_simp
                            with_reducible rfl
                          rotate_left
                          · simp only [Act.put, List.setIfInBounds_toArray, List.set_cons_zero, List.set_cons_succ, i64_w, i32_w]
                            rfl
                          refine pure_ (i := 2) (N := some 46) (v := ?_) (a' := ?_) #[true, true, true, false, false, false, false, false, false, false, false, false, false, false, false, false, false] rfl rfl (any_of HT_.out (by kernel_rfl)) (fun _ _ _ h => h) (Or.inl ⟨by rfl, ?_⟩) ?_ ?_
                          rotate_left
                          · intro w'
                            go_simp
                            with_reducible rfl
                          rotate_left
                          · simp only [Act.put, List.setIfInBounds_toArray, List.set_cons_zero, List.set_cons_succ, i64_w, i32_w]
                            rfl
                          refine pure_ (i := 3) (N := some 47) (v := ?_) (a' := ?_) #[true, true, true, true, false, false, false, false, false, false, false, false, false, false, false, false, false] rfl rfl (any_of HT_.out (by kernel_rfl)) (fun _ _ _ h => h) (Or.inl ⟨by rfl, ?_⟩) ?_ ?_
                          rotate_left
                          · intro w'
                            go_simp
                            with_reducible rfl
                          rotate_left
                          · simp only [Act.put, List.setIfInBounds_toArray, List.set_cons_zero, List.set_cons_succ, i64_w, i32_w]
                            rfl
                          refine pure_ (i := 4) (N := some 48) (v := ?_) (a' := ?_) #[true, true, true, true, true, false, false, false, false, false, false, false, false, false, false, false, false] rfl rfl (any_of HT_.out (by kernel_rfl)) (fun _ _ _ h => h) (Or.inl ⟨by rfl, ?_⟩) ?_ ?_
                          rotate_left
                          · intro w'
                            go_simp
                            with_reducible rfl
                          rotate_left
                          · simp only [Act.put, List.setIfInBounds_toArray, List.set_cons_zero, List.set_cons_succ, i64_w, i32_w]
                            rfl
                          refine pure_ (i := 6) (N := some 50) (v := ?_) (a' := ?_) #[true, true, true, true, true, false, true, false, false, false, false, false, false, false, false, false, false] rfl rfl (any_of HT_.out (by kernel_rfl)) (fun _ _ _ h => h) (Or.inl ⟨by rfl, ?_⟩) ?_ ?_
                          rotate_left
                          · intro w'
                            go_simp
                            with_reducible rfl
                          rotate_left
                          · simp only [Act.put, List.setIfInBounds_toArray, List.set_cons_zero, List.set_cons_succ, i64_w, i32_w]
                            rfl
                          refine pure_ (i := 7) (N := some 51) (v := ?_) (a' := ?_) #[true, true, true, true, true, false, true, true, false, false, false, false, false, false, false, false, false] rfl rfl (any_of HT_.out (by kernel_rfl)) (fun _ _ _ h => h) (Or.inl ⟨by rfl, ?_⟩) ?_ ?_
                          rotate_left
                          · intro w'
                            go_simp
                            with_reducible rfl
                          rotate_left
                          · simp only [Act.put, List.setIfInBounds_toArray, List.set_cons_zero, List.set_cons_succ, i64_w, i32_w]
                            rfl
                          refine pure_ (i := 8) (N := some 52) (v := ?_) (a' := ?_) #[true, true, true, true, true, false, true, true, true, false, false, false, false, false, false, false, false] rfl rfl (any_of HT_.out (by kernel_rfl)) (fun _ _ _ h => h) (Or.inl ⟨by rfl, ?_⟩) ?_ ?_
                          rotate_left
                          · intro w'
                            go_simp
                            with_reducible rfl
                          rotate_left
                          · simp only [Act.put, List.setIfInBounds_toArray, List.set_cons_zero, List.set_cons_succ, i64_w, i32_w]
                            rfl
                          refine pure_ (i := 9) (N := some 53) (v := ?_) (a' := ?_) #[true, true, true, true, true, false, true, true, true, true, false, false, false, false, false, false, false] rfl rfl (any_of HT_.out (by kernel_rfl)) (fun _ _ _ h => h) (Or.inl ⟨by rfl, ?_⟩) ?_ ?_
                          rotate_left
                          · intro w'
                            go_simp
                            with_reducible rfl
                          rotate_left
                          · simp only [Act.put, List.setIfInBounds_toArray, List.set_cons_zero, List.set_cons_succ, i64_w, i32_w]
                            rfl
                          refine pure_ (i := 11) (N := some 55) (v := ?_) (a' := ?_) #[true, true, true, true, true, false, true, true, true, true, false, true, false, false, false, false, false] rfl rfl (any_of HT_.out (by kernel_rfl)) (fun _ _ _ h => h) (Or.inl ⟨by rfl, ?_⟩) ?_ ?_
                          rotate_left
                          · intro w'
                            go_simp
                            with_reducible rfl
                          rotate_left
                          · simp only [Act.put, List.setIfInBounds_toArray, List.set_cons_zero, List.set_cons_succ, i64_w, i32_w]
                            rfl
                          refine take_ (i := 5) (N := some 49) (v := ?_) (a' := ?_) #[true, true, true, true, true, true, true, true, true, true, false, true, false, false, false, false, false] rfl rfl (take_ofW HT_.out HW_.out (by kernel_rfl)) (fun _ _ _ h => h) (Or.inl ⟨by rfl, ?_⟩) hHeld ?_ ?_
                          rotate_left
                          · rintro w' ⟨s0, s1, s2, s3⟩
                            go_simp
                            with_reducible rfl
                          rotate_left
                          · simp only [Act.put, List.setIfInBounds_toArray, List.set_cons_zero, List.set_cons_succ, i64_w, i32_w]
                            rfl
                          refine take_ (i := 10) (N := some 54) (v := ?_) (a' := ?_) #[true, true, true, true, true, true, true, true, true, true, true, true, false, false, false, false, false] rfl rfl (take_ofW HT_.out HW_.out (by kernel_rfl)) (fun _ _ _ h => h) (Or.inl ⟨by rfl, ?_⟩) hHeld ?_ ?_
                          rotate_left
                          · rintro w' ⟨s0, s1, s2, s3⟩
                            go_simp
                            with_reducible rfl
                          rotate_left
                          · simp only [Act.put, List.setIfInBounds_toArray, List.set_cons_zero, List.set_cons_succ, i64_w, i32_w]
                            rfl
                          refine pure_ (i := 12) (N := some 56) (v := ?_) (a' := ?_) #[true, true, true, true, true, true, true, true, true, true, true, true, true, false, false, false, false] rfl rfl (any_of HT_.out (by kernel_rfl)) (fun _ _ _ h => h) (Or.inl ⟨by rfl, ?_⟩) ?_ ?_
                          rotate_left
                          · intro w'
                            go_simp
                            with_reducible rfl
                          rotate_left
                          · simp only [Act.put, List.setIfInBounds_toArray, List.set_cons_zero, List.set_cons_succ, i64_w, i32_w]
                            rfl
                          refine pure_ (i := 13) (N := some 57) (v := ?_) (a' := ?_) #[true, true, true, true, true, true, true, true, true, true, true, true, true, true, false, false, false] rfl rfl (any_of HT_.out (by kernel_rfl)) (fun _ _ _ h => h) (Or.inl ⟨by rfl, ?_⟩) ?_ ?_
                          rotate_left
                          · intro w'
                            go_simp
                            with_reducible rfl
                          rotate_left
                          · simp only [Act.put, List.setIfInBounds_toArray, List.set_cons_zero, List.set_cons_succ, i64_w, i32_w]
                            rfl
                          refine one_ (i := 14) (N := some 58) #[true, true, true, true, true, true, true, true, true, true, true, true, true, true, true, false, false] rfl rfl (one_of HT_.out (by kernel_rfl)) (by decide) (fun K hK => ?_)
                          refine value_ (w1 := ?_) (v := ?_) (by rfl) rfl ?_ ?_
                          rotate_left 2
                          · go_simp
                            constructor
                            · rfl
                            · rfl
                          refine hK.out _ _ ⟨(World.cell?_alloc_lt _ _ _ (World.block_lt_of_cell? _ _ (((HB.out.cell (World.block_lt_of_cell? w _ hw266_0)).trans hw266_0)))).trans (((HB.out.cell (World.block_lt_of_cell? w _ hw266_0)).trans hw266_0)), (World.cell?_alloc_lt _ _ _ (World.block_lt_of_cell? _ _ (((HB.out.cell (World.block_lt_of_cell? w _ hw266_1)).trans hw266_1)))).trans (((HB.out.cell (World.block_lt_of_cell? w _ hw266_1)).trans hw266_1)), (World.cell?_alloc_lt _ _ _ (World.block_lt_of_cell? _ _ (((HB.out.cell (World.block_lt_of_cell? w _ hw267_0)).trans hw267_0)))).trans (((HB.out.cell (World.block_lt_of_cell? w _ hw267_0)).trans hw267_0)), (World.cell?_alloc_lt _ _ _ (World.block_lt_of_cell? _ _ (((HB.out.cell (World.block_lt_of_cell? w _ hw267_1)).trans hw267_1)))).trans (((HB.out.cell (World.block_lt_of_cell? w _ hw267_1)).trans hw267_1))⟩ (fun hHeld => ?_)
                          clear hK K
                          refine norm_ (a' := ?_) ?_ ?_
                          rotate_left
                          · show Act.put _ (some 58) _ = _
                            simp only [Act.put, List.setIfInBounds_toArray, List.set_cons_zero, List.set_cons_succ, i64_w, i32_w]
                            rfl
                          refine one_ (i := 15) (N := some 59) #[true, true, true, true, true, true, true, true, true, true, true, true, true, true, true, true, false] rfl rfl (one_of HT_.out (by kernel_rfl)) (by decide) (fun K hK => ?_)
                          refine Kd.R_append_step k37 (w0 := w) w.heap.size (by rfl) (.tmp 44) (.tmp 58) 23 37 (.agg #[(.string ⟨#[]⟩), (.int .i64 0)]) 24 rfl Tryd.underlying23 info37 rfl (by decide) (by omega) u6 x6_1 (⟨(rd_T37 l0 x8_1).f0, wrap64 (((rd_T37 l0 x8_1).f1) - x9_4)⟩ : S37) [.string ((rd_T37 l0 x8_1).f0), .int .i64 (wrap64 (((rd_T37 l0 x8_1).f1) - x9_4))] (fun k_ => some k_ ≠ (v263 : Value).ownBlock) (fun _ => False) rfl rfl ?aP (fun _ hk => hk.elim) ?aF ?aO ?aB ?aS ?aL ?_
                          (case aP => exact k37_mkM _ _ _ (⟨(rd_T37 l0 x8_1).f0, wrap64 (((rd_T37 l0 x8_1).f1) - x9_4)⟩ : S37))
                          (case aB => exact (by repeat (first | (with_reducible first | exact HB.out | apply below_alloc | apply pw_below_drewN | apply below_drew1) | exact HB.out)))
                          (case aF => exact (fun k_ hk => Kd.fresh' (Kd.R_lt (by (with_reducible repeat (first | apply Kd.R_alloc | apply Kd.R_drewN | apply Kd.R_drew)); exact HO264.out)) k_ hk))
                          (case aO => exact (by (with_reducible repeat (first | apply Kd.R_alloc | apply Kd.R_drewN | apply Kd.R_drew)); exact Kd.R_mono HO_6.out (fun _ hk => hk.2)))
                          (case aS => exact (below_size (by repeat (first | (with_reducible first | exact HB.out | apply below_alloc | apply pw_below_drewN | apply below_drew1) | exact HB.out))))
                          (case aL => have := LMc12.out; omega)
                          intro v269 w15 ho hb hg hat
                          rw [← Ny268.out] at ho
                          have n0_ := Aside0.mk (Kd.R_after (ok := (fun _ => True)) (by (with_reducible repeat (first | apply Kd.R_alloc | apply Kd.R_drewN | apply Kd.R_drew)); exact Kd.R_mono HO264.out (fun _ hk => ⟨trivial, hk⟩)) hg hat)
                          have n1_ := Aside0.mk (hb)
                          have n2_ := Aside0.mk (ho)
                          clear HO264
                          clear HB
                          clear HO_6
                          have HO264 := n0_
                          have HB := n1_
                          have HO270 := n2_
                          clear n0_ n1_ n2_
                          clear ho hb hg hat
                          refine hK.out _ _ ⟨((HB.out.cell (World.block_lt_of_cell? w _ hw266_0)).trans hw266_0), ((HB.out.cell (World.block_lt_of_cell? w _ hw266_1)).trans hw266_1), ((HB.out.cell (World.block_lt_of_cell? w _ hw267_0)).trans hw267_0), ((HB.out.cell (World.block_lt_of_cell? w _ hw267_1)).trans hw267_1)⟩ (fun hHeld => ?_)
                          clear hK K
                          refine norm_ (a' := ?_) ?_ ?_
                          rotate_left
                          · show Act.put _ (some 59) _ = _
                            simp only [Act.put, List.setIfInBounds_toArray, List.set_cons_zero, List.set_cons_succ, i64_w, i32_w]
                            rfl
                          refine pure_ (i := 16) (N := some 6) (v := ?_) (a' := ?_) #[true, true, true, true, true, true, true, true, true, true, true, true, true, true, true, true, true] rfl rfl (any_of HT_.out (by kernel_rfl)) (fun _ _ _ h => h) (Or.inl ⟨by rfl, ?_⟩) ?_ ?_
                          rotate_left
                          · intro w'
                            go_simp
                            with_reducible rfl
                          rotate_left
                          · simp only [Act.put, List.setIfInBounds_toArray, List.set_cons_zero, List.set_cons_succ, i64_w, i32_w]
                            rfl
                          refine done_ (done_of HT_.out (by kernel_rfl)) ?_
                          try go_wp2
                          go_roundg kj4
                          case measure => have := HK1.out; have := HJ4.out; omega
                          case rel => exact ⟨(wrap64 (x1_1 - x9_4)), (y268), (y262), (wrap64 (x8_1 + 1)), (by first | rfl | (simp; done) | (simp [*]; done)), (by first | rfl | (simp; done) | (simp [*]; done)), H', ⟨by have := HK1.out; have := HJ4.out; omega⟩, ⟨by (with_reducible repeat (first | apply Kd.R_alloc | apply Kd.R_drewN | apply Kd.R_drew)); exact HO270.out⟩, ⟨by (with_reducible repeat (first | apply Kd.R_alloc | apply Kd.R_drewN | apply Kd.R_drew)); exact Kd.R_mono HO264.out (fun _ hk => hk.2)⟩, ⟨by repeat (first | (with_reducible first | exact HB.out | apply below_alloc | apply pw_below_drewN | apply below_drew1) | exact HB.out)⟩⟩
                        · rw [if_neg c12] at H
                          exact absurd H (by simp)
                      · rw [if_neg c11] at H
                        have c11b0 : decide (x9_4 < ((rd_T37 l0 x8_1).f1)) = false := decide_eq_false c11
                        clear c11
                        have H' := Aside0.mk H
                        clear H
                        have p261 : 0 ≤ (x8_1 : Int) := of_decide_eq_true (by first | (with_reducible assumption) | assumption)
                        have q261 : x8_1 < (l0.length : Int) := of_decide_eq_true (by first | (with_reducible assumption) | assumption)
                        obtain ⟨ad261, e261, hx261_0, hx261_1⟩ := at_T37 HR0.out x8_1 p261 q261
                        obtain rfl : ad260 = ad261 := (by injection e261)
                        replace hx261_0 := (HB.out.cell (World.block_lt_of_cell? w _ hx261_0)).trans hx261_0
                        replace hx261_1 := (HB.out.cell (World.block_lt_of_cell? w _ hx261_1)).trans hx261_1
                        replace p261 := eq_true p261
                        replace q261 := eq_true q261
                        go_wp2_with (first | ((with_reducible refine gate_builtin (b := .append) (xs := #[.tmp 27, .tmp 35]) rfl ?_); at_builtin; refine Kd.R_append k37 (w0 := w) w.heap.size rfl (.tmp 27) (.tmp 35) 23 37 (.agg #[(.string ⟨#[]⟩), (.int .i64 0)]) 24 rfl Tryd.underlying23 info37 rfl (by decide) (by omega) u7 x7_1 (⟨(rd_T37 l0 x8_1).f0, x9_4⟩ : S37) [.string ((rd_T37 l0 x8_1).f0), .int .i64 x9_4] (fun k_ => some k_ ≠ (u6 : Value).ownBlock) (fun _ => False) rfl rfl ?aP (fun _ hk => hk.elim) ?aF ?aO ?aB ?aS ?aL ?_; (case aP => exact k37_mkM _ _ _ (⟨(rd_T37 l0 x8_1).f0, x9_4⟩ : S37)); (case aB => exact (by repeat (first | (with_reducible first | exact HB.out | apply below_alloc | apply pw_below_drewN | apply below_drew1) | exact HB.out))); (case aF => exact (fun k_ hk => Kd.fresh' (Kd.R_lt (by (with_reducible repeat (first | apply Kd.R_alloc | apply Kd.R_drewN | apply Kd.R_drew)); exact HO_6.out)) k_ hk)); (case aO => exact (by (with_reducible repeat (first | apply Kd.R_alloc | apply Kd.R_drewN | apply Kd.R_drew)); exact HO_7.out)); (case aS => exact (below_size (by repeat (first | (with_reducible first | exact HB.out | apply below_alloc | apply pw_below_drewN | apply below_drew1) | exact HB.out)))); (case aL => have := LMc10.out; omega); intro v263 w16 ho hb hg hat; rw [← Ny262.out] at ho; have n0_ := Aside0.mk (Kd.R_after (ok := (fun _ => True)) (by (with_reducible repeat (first | apply Kd.R_alloc | apply Kd.R_drewN | apply Kd.R_drew)); exact Kd.R_mono HO_6.out (fun _ hk => ⟨trivial, hk⟩)) hg hat); have n1_ := Aside0.mk (hb); have n2_ := Aside0.mk (ho); clear HO_6; clear HB; clear HO_7; have HO_6 := n0_; have HB := n1_; have HO264 := n2_; clear n0_ n1_ n2_; clear ho hb hg hat; have p265 : 0 ≤ (x8_1 : Int) := of_decide_eq_true (by first | (with_reducible assumption) | assumption); have q265 : x8_1 < (l0.length : Int) := of_decide_eq_true (by first | (with_reducible assumption) | assumption); obtain ⟨ad265, e265, hx265_0, hx265_1⟩ := at_T37 HR0.out x8_1 p265 q265; obtain rfl : ad260 = ad265 := (by injection e265); replace hx265_0 := (HB.out.cell (World.block_lt_of_cell? w _ hx265_0)).trans hx265_0; replace hx265_1 := (HB.out.cell (World.block_lt_of_cell? w _ hx265_1)).trans hx265_1; replace p265 := eq_true p265; replace q265 := eq_true q265))
                        go_roundg kj4
                        case measure => have := HK1.out; have := HJ4.out; omega
                        case rel => exact ⟨(wrap64 (x1_1 - x9_4)), (x6_1), (y262), (wrap64 (x8_1 + 1)), (by first | rfl | (simp; done) | (simp [*]; done)), (by first | rfl | (simp; done) | (simp [*]; done)), H', ⟨by have := HK1.out; have := HJ4.out; omega⟩, ⟨by (with_reducible repeat (first | apply Kd.R_alloc | apply Kd.R_drewN | apply Kd.R_drew)); exact Kd.R_mono HO_6.out (fun _ hk => hk.2)⟩, ⟨by (with_reducible repeat (first | apply Kd.R_alloc | apply Kd.R_drewN | apply Kd.R_drew)); exact HO264.out⟩, ⟨by repeat (first | (with_reducible first | exact HB.out | apply below_alloc | apply pw_below_drewN | apply below_drew1) | exact HB.out)⟩⟩
                    · rw [if_neg c10] at H
                      exact absurd H (by simp)
                  · rw [if_neg c9] at H
                    exact absurd H (by simp)
                · rw [if_neg c8] at H
                  exact absurd H (by simp)
              · rw [if_neg c7] at H
                have c7b0 : decide (0 < x9_4) = false := decide_eq_false c7
                clear c7
                by_cases c17 : 0 ≤ x8_1
                · rw [if_pos c17] at H
                  have c17b0 : decide (0 ≤ x8_1) = true := decide_eq_true c17
                  clear c17
                  by_cases c18 : x8_1 < (l0.length : Int)
                  · rw [if_pos c18] at H
                    have c18b0 : decide (x8_1 < (l0.length : Int)) = true := decide_eq_true c18
                    clear c18
                    by_cases c19 : ((rd_T37 l0 x8_1).f1) > x9_4
                    · rw [if_pos c19] at H
                      have c19b0 : decide (x9_4 < ((rd_T37 l0 x8_1).f1)) = true := decide_eq_true c19
                      clear c19
                      by_cases c20 : x6_1.length < 5864062014805
                      · rw [if_pos c20] at H
                        have LMc20 := Aside0.mk c20
                        clear c20
                        obtain ⟨y274, hy274⟩ : ∃ y_ : List (S37), y_ = (x6_1 ++ [(⟨(rd_T37 l0 x8_1).f0, wrap64 (((rd_T37 l0 x8_1).f1) - x9_4)⟩ : S37)]) := ⟨_, rfl⟩
                        replace H : (malthouseref13_parted.l0 kj4 l0 (wrap64 (x1_1 - x9_4)) y274 x7_1 (wrap64 (x8_1 + 1))) = some (r1, r2) := by first | (rw [hy274]; with_reducible exact H) | (have H2_ := (Option.bind_some _ _).symm.trans H; rw [hy274]; with_reducible exact H2_) | (have H2_ := (Option.bind_some _ _).symm.trans H; with_reducible exact H2_) | with_reducible exact H | (rw [hy274]; exact H) | exact H
                        have Ny274 := Aside0.mk hy274
                        clear hy274
                        have H' := Aside0.mk H
                        clear H
                        have p271 : 0 ≤ (x8_1 : Int) := of_decide_eq_true (by first | (with_reducible assumption) | assumption)
                        have q271 : x8_1 < (l0.length : Int) := of_decide_eq_true (by first | (with_reducible assumption) | assumption)
                        obtain ⟨ad271, e271, hx271_0, hx271_1⟩ := at_T37 HR0.out x8_1 p271 q271
                        obtain rfl : ad260 = ad271 := (by injection e271)
                        replace hx271_0 := (HB.out.cell (World.block_lt_of_cell? w _ hx271_0)).trans hx271_0
                        replace hx271_1 := (HB.out.cell (World.block_lt_of_cell? w _ hx271_1)).trans hx271_1
                        replace p271 := eq_true p271
                        replace q271 := eq_true q271
                        try go_wp2
                        have n0_ := Aside0.mk (Kd.R_drew HO_6.out)
                        have n1_ := Aside0.mk (Kd.R_drew HO_7.out)
                        have n2_ := Aside0.mk (below_drew1 HB.out)
                        clear HO_6
                        clear HO_7
                        clear HB
                        have HO_6 := n0_
                        have HO_7 := n1_
                        have HB := n2_
                        clear n0_ n1_ n2_
                        have p272 : 0 ≤ (x8_1 : Int) := of_decide_eq_true (by first | (with_reducible assumption) | assumption)
                        have q272 : x8_1 < (l0.length : Int) := of_decide_eq_true (by first | (with_reducible assumption) | assumption)
                        obtain ⟨ad272, e272, hx272_0, hx272_1⟩ := at_T37 HR0.out x8_1 p272 q272
                        have hw272_1 := hx272_1
                        have hw272_0 := hx272_0
                        obtain rfl : ad260 = ad272 := (by injection e272)
                        replace hx272_0 := (HB.out.cell (World.block_lt_of_cell? w _ hx272_0)).trans hx272_0
                        replace hx272_1 := (HB.out.cell (World.block_lt_of_cell? w _ hx272_1)).trans hx272_1
                        replace p272 := eq_true p272
                        replace q272 := eq_true q272
                        have p273 : 0 ≤ (x8_1 : Int) := of_decide_eq_true (by first | (with_reducible assumption) | assumption)
                        have q273 : x8_1 < (l0.length : Int) := of_decide_eq_true (by first | (with_reducible assumption) | assumption)
                        obtain ⟨ad273, e273, hx273_0, hx273_1⟩ := at_T37 HR0.out x8_1 p273 q273
                        have hw273_1 := hx273_1
                        have hw273_0 := hx273_0
                        obtain rfl : ad260 = ad273 := (by injection e273)
                        replace hx273_0 := (HB.out.cell (World.block_lt_of_cell? w _ hx273_0)).trans hx273_0
                        replace hx273_1 := (HB.out.cell (World.block_lt_of_cell? w _ hx273_1)).trans hx273_1
                        replace p273 := eq_true p273
                        replace q273 := eq_true q273
                        refine start_ (n := 17) (S := fun w' => w'.cell? (ad260.add ((x8_1).toNat * 2)) = some (.string ((rd_T37 l0 x8_1).f0)) ∧ w'.cell? ⟨(ad260.add ((x8_1).toNat * 2)).block, (ad260.add ((x8_1).toNat * 2)).off + 1, none⟩ = some (.int .i64 ((rd_T37 l0 x8_1).f1)) ∧ w'.cell? (ad260.add ((x8_1).toNat * 2)) = some (.string ((rd_T37 l0 x8_1).f0)) ∧ w'.cell? ⟨(ad260.add ((x8_1).toNat * 2)).block, (ad260.add ((x8_1).toNat * 2)).off + 1, none⟩ = some (.int .i64 ((rd_T37 l0 x8_1).f1))) (ds := []) #[false, false, false, false, false, false, false, false, false, false, false, false, false, false, false, false, false] (by kernel_rfl) rfl rfl ⟨((HB.out.cell (World.block_lt_of_cell? w _ hw272_0)).trans hw272_0), ((HB.out.cell (World.block_lt_of_cell? w _ hw272_1)).trans hw272_1), ((HB.out.cell (World.block_lt_of_cell? w _ hw273_0)).trans hw273_0), ((HB.out.cell (World.block_lt_of_cell? w _ hw273_1)).trans hw273_1)⟩ (fun hHeld => ?_); refine with_tabW malthouseref13_parted.tab12 malthouseref13_parted.bits12 (fun HT_ HW_ => ?_)
                        generalize wc.drew = w21 at HO_6 HO_7 HB hx272_0 hx272_1 hx273_0 hx273_1 hHeld ⊢
                        refine pure_ (i := 0) (N := some 44) (v := ?_) (a' := ?_) #[true, false, false, false, false, false, false, false, false, false, false, false, false, false, false, false, false] rfl rfl (any_of HT_.out (by kernel_rfl)) (fun _ _ _ h => h) (Or.inl ⟨by rfl, ?_⟩) ?_ ?_
                        rotate_left
                        · intro w'
                          go_simp
                          with_reducible rfl
                        rotate_left
                        · simp only [Act.put, List.setIfInBounds_toArray, List.set_cons_zero, List.set_cons_succ, i64_w, i32_w]
                          rfl
                        refine pure_ (i := 1) (N := some 45) (v := ?_) (a' := ?_) #[true, true, false, false, false, false, false, false, false, false, false, false, false, false, false, false, false] rfl rfl (any_of HT_.out (by kernel_rfl)) (fun _ _ _ h => h) (Or.inl ⟨by rfl, ?_⟩) ?_ ?_
                        rotate_left
                        · intro w'
                          go_simp
                          with_reducible rfl
                        rotate_left
                        · simp only [Act.put, List.setIfInBounds_toArray, List.set_cons_zero, List.set_cons_succ, i64_w, i32_w]
                          rfl
                        refine pure_ (i := 2) (N := some 46) (v := ?_) (a' := ?_) #[true, true, true, false, false, false, false, false, false, false, false, false, false, false, false, false, false] rfl rfl (any_of HT_.out (by kernel_rfl)) (fun _ _ _ h => h) (Or.inl ⟨by rfl, ?_⟩) ?_ ?_
                        rotate_left
                        · intro w'
                          go_simp
                          with_reducible rfl
                        rotate_left
                        · simp only [Act.put, List.setIfInBounds_toArray, List.set_cons_zero, List.set_cons_succ, i64_w, i32_w]
                          rfl
                        refine pure_ (i := 3) (N := some 47) (v := ?_) (a' := ?_) #[true, true, true, true, false, false, false, false, false, false, false, false, false, false, false, false, false] rfl rfl (any_of HT_.out (by kernel_rfl)) (fun _ _ _ h => h) (Or.inl ⟨by rfl, ?_⟩) ?_ ?_
                        rotate_left
                        · intro w'
                          go_simp
                          with_reducible rfl
                        rotate_left
                        · simp only [Act.put, List.setIfInBounds_toArray, List.set_cons_zero, List.set_cons_succ, i64_w, i32_w]
                          rfl
                        refine pure_ (i := 4) (N := some 48) (v := ?_) (a' := ?_) #[true, true, true, true, true, false, false, false, false, false, false, false, false, false, false, false, false] rfl rfl (any_of HT_.out (by kernel_rfl)) (fun _ _ _ h => h) (Or.inl ⟨by rfl, ?_⟩) ?_ ?_
                        rotate_left
                        · intro w'
                          go_simp
                          with_reducible rfl
                        rotate_left
                        · simp only [Act.put, List.setIfInBounds_toArray, List.set_cons_zero, List.set_cons_succ, i64_w, i32_w]
                          rfl
                        refine pure_ (i := 6) (N := some 50) (v := ?_) (a' := ?_) #[true, true, true, true, true, false, true, false, false, false, false, false, false, false, false, false, false] rfl rfl (any_of HT_.out (by kernel_rfl)) (fun _ _ _ h => h) (Or.inl ⟨by rfl, ?_⟩) ?_ ?_
                        rotate_left
                        · intro w'
                          go_simp
                          with_reducible rfl
                        rotate_left
                        · simp only [Act.put, List.setIfInBounds_toArray, List.set_cons_zero, List.set_cons_succ, i64_w, i32_w]
                          rfl
                        refine pure_ (i := 7) (N := some 51) (v := ?_) (a' := ?_) #[true, true, true, true, true, false, true, true, false, false, false, false, false, false, false, false, false] rfl rfl (any_of HT_.out (by kernel_rfl)) (fun _ _ _ h => h) (Or.inl ⟨by rfl, ?_⟩) ?_ ?_
                        rotate_left
                        · intro w'
                          go_simp
                          with_reducible rfl
                        rotate_left
                        · simp only [Act.put, List.setIfInBounds_toArray, List.set_cons_zero, List.set_cons_succ, i64_w, i32_w]
                          rfl
                        refine pure_ (i := 8) (N := some 52) (v := ?_) (a' := ?_) #[true, true, true, true, true, false, true, true, true, false, false, false, false, false, false, false, false] rfl rfl (any_of HT_.out (by kernel_rfl)) (fun _ _ _ h => h) (Or.inl ⟨by rfl, ?_⟩) ?_ ?_
                        rotate_left
                        · intro w'
                          go_simp
                          with_reducible rfl
                        rotate_left
                        · simp only [Act.put, List.setIfInBounds_toArray, List.set_cons_zero, List.set_cons_succ, i64_w, i32_w]
                          rfl
                        refine pure_ (i := 9) (N := some 53) (v := ?_) (a' := ?_) #[true, true, true, true, true, false, true, true, true, true, false, false, false, false, false, false, false] rfl rfl (any_of HT_.out (by kernel_rfl)) (fun _ _ _ h => h) (Or.inl ⟨by rfl, ?_⟩) ?_ ?_
                        rotate_left
                        · intro w'
                          go_simp
                          with_reducible rfl
                        rotate_left
                        · simp only [Act.put, List.setIfInBounds_toArray, List.set_cons_zero, List.set_cons_succ, i64_w, i32_w]
                          rfl
                        refine pure_ (i := 11) (N := some 55) (v := ?_) (a' := ?_) #[true, true, true, true, true, false, true, true, true, true, false, true, false, false, false, false, false] rfl rfl (any_of HT_.out (by kernel_rfl)) (fun _ _ _ h => h) (Or.inl ⟨by rfl, ?_⟩) ?_ ?_
                        rotate_left
                        · intro w'
                          go_simp
                          with_reducible rfl
                        rotate_left
                        · simp only [Act.put, List.setIfInBounds_toArray, List.set_cons_zero, List.set_cons_succ, i64_w, i32_w]
                          rfl
                        refine take_ (i := 5) (N := some 49) (v := ?_) (a' := ?_) #[true, true, true, true, true, true, true, true, true, true, false, true, false, false, false, false, false] rfl rfl (take_ofW HT_.out HW_.out (by kernel_rfl)) (fun _ _ _ h => h) (Or.inl ⟨by rfl, ?_⟩) hHeld ?_ ?_
                        rotate_left
                        · rintro w' ⟨s0, s1, s2, s3⟩
                          go_simp
                          with_reducible rfl
                        rotate_left
                        · simp only [Act.put, List.setIfInBounds_toArray, List.set_cons_zero, List.set_cons_succ, i64_w, i32_w]
                          rfl
                        refine take_ (i := 10) (N := some 54) (v := ?_) (a' := ?_) #[true, true, true, true, true, true, true, true, true, true, true, true, false, false, false, false, false] rfl rfl (take_ofW HT_.out HW_.out (by kernel_rfl)) (fun _ _ _ h => h) (Or.inl ⟨by rfl, ?_⟩) hHeld ?_ ?_
                        rotate_left
                        · rintro w' ⟨s0, s1, s2, s3⟩
                          go_simp
                          with_reducible rfl
                        rotate_left
                        · simp only [Act.put, List.setIfInBounds_toArray, List.set_cons_zero, List.set_cons_succ, i64_w, i32_w]
                          rfl
                        refine pure_ (i := 12) (N := some 56) (v := ?_) (a' := ?_) #[true, true, true, true, true, true, true, true, true, true, true, true, true, false, false, false, false] rfl rfl (any_of HT_.out (by kernel_rfl)) (fun _ _ _ h => h) (Or.inl ⟨by rfl, ?_⟩) ?_ ?_
                        rotate_left
                        · intro w'
                          go_simp
                          with_reducible rfl
                        rotate_left
                        · simp only [Act.put, List.setIfInBounds_toArray, List.set_cons_zero, List.set_cons_succ, i64_w, i32_w]
                          rfl
                        refine pure_ (i := 13) (N := some 57) (v := ?_) (a' := ?_) #[true, true, true, true, true, true, true, true, true, true, true, true, true, true, false, false, false] rfl rfl (any_of HT_.out (by kernel_rfl)) (fun _ _ _ h => h) (Or.inl ⟨by rfl, ?_⟩) ?_ ?_
                        rotate_left
                        · intro w'
                          go_simp
                          with_reducible rfl
                        rotate_left
                        · simp only [Act.put, List.setIfInBounds_toArray, List.set_cons_zero, List.set_cons_succ, i64_w, i32_w]
                          rfl
                        refine one_ (i := 14) (N := some 58) #[true, true, true, true, true, true, true, true, true, true, true, true, true, true, true, false, false] rfl rfl (one_of HT_.out (by kernel_rfl)) (by decide) (fun K hK => ?_)
                        refine value_ (w1 := ?_) (v := ?_) (by rfl) rfl ?_ ?_
                        rotate_left 2
                        · go_simp
                          constructor
                          · rfl
                          · rfl
                        refine hK.out _ _ ⟨(World.cell?_alloc_lt _ _ _ (World.block_lt_of_cell? _ _ (((HB.out.cell (World.block_lt_of_cell? w _ hw272_0)).trans hw272_0)))).trans (((HB.out.cell (World.block_lt_of_cell? w _ hw272_0)).trans hw272_0)), (World.cell?_alloc_lt _ _ _ (World.block_lt_of_cell? _ _ (((HB.out.cell (World.block_lt_of_cell? w _ hw272_1)).trans hw272_1)))).trans (((HB.out.cell (World.block_lt_of_cell? w _ hw272_1)).trans hw272_1)), (World.cell?_alloc_lt _ _ _ (World.block_lt_of_cell? _ _ (((HB.out.cell (World.block_lt_of_cell? w _ hw273_0)).trans hw273_0)))).trans (((HB.out.cell (World.block_lt_of_cell? w _ hw273_0)).trans hw273_0)), (World.cell?_alloc_lt _ _ _ (World.block_lt_of_cell? _ _ (((HB.out.cell (World.block_lt_of_cell? w _ hw273_1)).trans hw273_1)))).trans (((HB.out.cell (World.block_lt_of_cell? w _ hw273_1)).trans hw273_1))⟩ (fun hHeld => ?_)
                        clear hK K
                        refine norm_ (a' := ?_) ?_ ?_
                        rotate_left
                        · show Act.put _ (some 58) _ = _
                          simp only [Act.put, List.setIfInBounds_toArray, List.set_cons_zero, List.set_cons_succ, i64_w, i32_w]
                          rfl
                        refine one_ (i := 15) (N := some 59) #[true, true, true, true, true, true, true, true, true, true, true, true, true, true, true, true, false] rfl rfl (one_of HT_.out (by kernel_rfl)) (by decide) (fun K hK => ?_)
                        refine Kd.R_append_step k37 (w0 := w) w.heap.size (by rfl) (.tmp 44) (.tmp 58) 23 37 (.agg #[(.string ⟨#[]⟩), (.int .i64 0)]) 24 rfl Tryd.underlying23 info37 rfl (by decide) (by omega) u6 x6_1 (⟨(rd_T37 l0 x8_1).f0, wrap64 (((rd_T37 l0 x8_1).f1) - x9_4)⟩ : S37) [.string ((rd_T37 l0 x8_1).f0), .int .i64 (wrap64 (((rd_T37 l0 x8_1).f1) - x9_4))] (fun k_ => some k_ ≠ (u7 : Value).ownBlock) (fun _ => False) rfl rfl ?aP (fun _ hk => hk.elim) ?aF ?aO ?aB ?aS ?aL ?_
                        (case aP => exact k37_mkM _ _ _ (⟨(rd_T37 l0 x8_1).f0, wrap64 (((rd_T37 l0 x8_1).f1) - x9_4)⟩ : S37))
                        (case aB => exact (by repeat (first | (with_reducible first | exact HB.out | apply below_alloc | apply pw_below_drewN | apply below_drew1) | exact HB.out)))
                        (case aF => exact (fun k_ hk => Kd.fresh' (Kd.R_lt (by (with_reducible repeat (first | apply Kd.R_alloc | apply Kd.R_drewN | apply Kd.R_drew)); exact HO_7.out)) k_ hk))
                        (case aO => exact (by (with_reducible repeat (first | apply Kd.R_alloc | apply Kd.R_drewN | apply Kd.R_drew)); exact HO_6.out))
                        (case aS => exact (below_size (by repeat (first | (with_reducible first | exact HB.out | apply below_alloc | apply pw_below_drewN | apply below_drew1) | exact HB.out))))
                        (case aL => have := LMc20.out; omega)
                        intro v275 w22 ho hb hg hat
                        rw [← Ny274.out] at ho
                        have n0_ := Aside0.mk (Kd.R_after (ok := (fun _ => True)) (by (with_reducible repeat (first | apply Kd.R_alloc | apply Kd.R_drewN | apply Kd.R_drew)); exact Kd.R_mono HO_7.out (fun _ hk => ⟨trivial, hk⟩)) hg hat)
                        have n1_ := Aside0.mk (hb)
                        have n2_ := Aside0.mk (ho)
                        clear HO_7
                        clear HB
                        clear HO_6
                        have HO_7 := n0_
                        have HB := n1_
                        have HO276 := n2_
                        clear n0_ n1_ n2_
                        clear ho hb hg hat
                        refine hK.out _ _ ⟨((HB.out.cell (World.block_lt_of_cell? w _ hw272_0)).trans hw272_0), ((HB.out.cell (World.block_lt_of_cell? w _ hw272_1)).trans hw272_1), ((HB.out.cell (World.block_lt_of_cell? w _ hw273_0)).trans hw273_0), ((HB.out.cell (World.block_lt_of_cell? w _ hw273_1)).trans hw273_1)⟩ (fun hHeld => ?_)
                        clear hK K
                        refine norm_ (a' := ?_) ?_ ?_
                        rotate_left
                        · show Act.put _ (some 59) _ = _
                          simp only [Act.put, List.setIfInBounds_toArray, List.set_cons_zero, List.set_cons_succ, i64_w, i32_w]
                          rfl
                        refine pure_ (i := 16) (N := some 6) (v := ?_) (a' := ?_) #[true, true, true, true, true, true, true, true, true, true, true, true, true, true, true, true, true] rfl rfl (any_of HT_.out (by kernel_rfl)) (fun _ _ _ h => h) (Or.inl ⟨by rfl, ?_⟩) ?_ ?_
                        rotate_left
                        · intro w'
                          go_simp
                          with_reducible rfl
                        rotate_left
                        · simp only [Act.put, List.setIfInBounds_toArray, List.set_cons_zero, List.set_cons_succ, i64_w, i32_w]
                          rfl
                        refine done_ (done_of HT_.out (by kernel_rfl)) ?_
                        try go_wp2
                        go_roundg kj4
                        case measure => have := HK1.out; have := HJ4.out; omega
                        case rel => exact ⟨(wrap64 (x1_1 - x9_4)), (y274), (x7_1), (wrap64 (x8_1 + 1)), (by first | rfl | (simp; done) | (simp [*]; done)), (by first | rfl | (simp; done) | (simp [*]; done)), H', ⟨by have := HK1.out; have := HJ4.out; omega⟩, ⟨by (with_reducible repeat (first | apply Kd.R_alloc | apply Kd.R_drewN | apply Kd.R_drew)); exact HO276.out⟩, ⟨by (with_reducible repeat (first | apply Kd.R_alloc | apply Kd.R_drewN | apply Kd.R_drew)); exact Kd.R_mono HO_7.out (fun _ hk => hk.2)⟩, ⟨by repeat (first | (with_reducible first | exact HB.out | apply below_alloc | apply pw_below_drewN | apply below_drew1) | exact HB.out)⟩⟩
                      · rw [if_neg c20] at H
                        exact absurd H (by simp)
                    · rw [if_neg c19] at H
                      have c19b0 : decide (x9_4 < ((rd_T37 l0 x8_1).f1)) = false := decide_eq_false c19
                      clear c19
                      have H' := Aside0.mk H
                      clear H
                      have p271 : 0 ≤ (x8_1 : Int) := of_decide_eq_true (by first | (with_reducible assumption) | assumption)
                      have q271 : x8_1 < (l0.length : Int) := of_decide_eq_true (by first | (with_reducible assumption) | assumption)
                      obtain ⟨ad271, e271, hx271_0, hx271_1⟩ := at_T37 HR0.out x8_1 p271 q271
                      obtain rfl : ad260 = ad271 := (by injection e271)
                      replace hx271_0 := (HB.out.cell (World.block_lt_of_cell? w _ hx271_0)).trans hx271_0
                      replace hx271_1 := (HB.out.cell (World.block_lt_of_cell? w _ hx271_1)).trans hx271_1
                      replace p271 := eq_true p271
                      replace q271 := eq_true q271
                      go_wp2
                      go_roundg kj4
                      case measure => have := HK1.out; have := HJ4.out; omega
                      case rel => exact ⟨(wrap64 (x1_1 - x9_4)), (x6_1), (x7_1), (wrap64 (x8_1 + 1)), (by first | rfl | (simp; done) | (simp [*]; done)), (by first | rfl | (simp; done) | (simp [*]; done)), H', ⟨by have := HK1.out; have := HJ4.out; omega⟩, ⟨by (with_reducible repeat (first | apply Kd.R_alloc | apply Kd.R_drewN | apply Kd.R_drew)); exact HO_6.out⟩, ⟨by (with_reducible repeat (first | apply Kd.R_alloc | apply Kd.R_drewN | apply Kd.R_drew)); exact HO_7.out⟩, ⟨by repeat (first | (with_reducible first | exact HB.out | apply below_alloc | apply pw_below_drewN | apply below_drew1) | exact HB.out)⟩⟩
                  · rw [if_neg c18] at H
                    exact absurd H (by simp)
                · rw [if_neg c17] at H
                  exact absurd H (by simp)
        · rw [if_neg c4] at H
          exact absurd H (by simp)
      · rw [if_neg c3] at H
        have c3b0 : decide (x8_1 < (l0.length : Int)) = false := decide_eq_false c3
        clear c3
        simp only [Option.some.injEq, Prod.mk.injEq] at H
        obtain ⟨rfl, rfl⟩ := H
        go_wp2
        go_ret2
        exact ⟨_, _, by first | rfl | (simp [errW_none, errW_some] <;> rfl) | (simp [*, errW_none, errW_some] <;> rfl), by (with_reducible repeat (first | apply Kd.R_alloc | apply Kd.R_drewN | apply Kd.R_drew)); exact HO_6.out, by (with_reducible repeat (first | apply Kd.R_alloc | apply Kd.R_drewN | apply Kd.R_drew)); exact HO_7.out, by repeat (first | (with_reducible first | exact HB.out | apply below_alloc | apply pw_below_drewN | apply below_drew1) | exact HB.out)⟩
end Go.Proofs.YtejecmjajdhiiaaDoor.Print
/-! ### LgDo2 -/
namespace Go.Proofs.YtejecmjajdhiiaaDoor.Print
open Go.RowKit Go.Proofs.YtejecmjajdhiiaaDoorW.PrintWords Go.Proofs.YtejecmjajdhiiaaDoorW.PrintLast Go.Proofs.YtejecmjajdhiiaaDoorW.PrintMore
set_option linter.unusedSimpArgs false
set_option linter.unusedVariables false
attribute [local go_sem high] beq_self_eq_true
theorem pours_next (l : List S37) {more : List S37} {i : Nat} {x : S37} (hx : more[i]? = some x) : poursM l (more.take (i + 1)) = pourM (poursM l (more.take i)) x := by
  obtain ⟨hi, rfl⟩ := List.getElem?_eq_some_iff.1 hx
  rw [List.take_succ_eq_append_getElem hi, poursM_more]
theorem pours_len (l : List S37) : ∀ (o : List S37), (poursM l o).length ≤ l.length + o.length := by
  intro o
  induction o generalizing l with
  | nil => exact Nat.le_refl _
  | cons x o ih =>
    have h1 := ih (pourM l x)
    have h2 := pourM_length l x
    show (poursM (pourM l x) o).length ≤ _
    simp only [List.length_cons]
    omega
theorem St.front1 {w0 w : World} {r : Res} {L : List Res} (h : St w0 (r :: L) w) : St w0 [r] w := (show St w0 ([r] ++ L) w from h).front
set_option maxHeartbeats 8000000 in
set_option maxRecDepth 100000 in
theorem poured_c {w : World} {A B : Option Addr} {c d : Nat} {l more : List S37} (h : LAt w A c l) (hm : LAt w B d more) (hl : l.length ≤ 60) (hml : more.length ≤ 60) (hok : poursOk l more = true) :
    Calls Tryd.prog 43 #[.slice A l.length c, .slice B more.length d] w fun e w' => ∃ C q, e = .returned (.slice C (poursM l more).length q) ∧ LAt w' C q (poursM l more) ∧ Only [] w w' := by
  have HV := Lib.hid h
  have HM := Lib.hid hm
  have HFT := Lib.hid (flat_lots h.2)
  have HOK := Lib.hid hok
  clear h hm hok
  go_enter Tryd.func43, Tryd.ntmps43
  go_wp2_with (at_builtin; refine wpList_append_row rfl _ _ 23 rfl w.heap.size 37 2 24 (.agg #[.string ⟨#[]⟩, .int .i64 0]) Tryd.underlying23 infoLt rfl (by omega) (.slice none 0 0) 0 [] rfl (ownsRow_nil _ _ _ _) A l.length c (lotRow l) rfl (lotRow_length _) HFT.out (lotRow_one _) (by unfold maxLen; omega) (by omega) (Nat.le_refl _) ?_; intro A4 c4 w4 hown ho hblk; rw [Nat.zero_add, List.nil_append] at hown; have HS := Lib.hid ((St.nil w).made (show Only [] w w4 from ho) hown); simp only [List.nil_append] at HS; clear hown ho hblk; rw [Nat.zero_add]; refine (fun (h : Hid _) => h.out) ?_)
  refine Lib.hid ?_
  go_wp2
  go_loopw [5, 6, 7] (fun v5 v6 _ wr => ∃ (i : Nat) (A7 : Option Addr) (c7 : Nat) (o : List S37), v6 = .int .i64 i ∧ v5 = .slice A7 o.length c7 ∧ i ≤ more.length ∧ Hid (o = poursM l (more.take i)) ∧ Hid (St w [.row (.slice A7 o.length c7) 37 2 o.length (lotRow o)] wr)) (fun _ v6 _ _ => more.length - (intOf v6).toNat)
  case atStart => exact ⟨0, A4, c4, l, rfl, rfl, by omega, Lib.hid rfl, HS⟩
  case round =>
    clear HS
    obtain ⟨i, A7, c7, o, rfl, rfl, hi, HO, HS⟩ := hrel
    by_cases hlt : i < more.length
    rotate_left
    · have hlt' : (more.length : Int) ≤ i := by omega
      go_wp2
      go_ret
      have h := HO.out
      rw [List.take_of_length_le (by omega)] at h
      subst h
      exact ⟨A7, c7, rfl, own_LAt (HS.out.row 0 rfl) (by have := pours_len l more; omega), HS.out.only⟩
    have hlt' : (i : Int) < more.length := by omega
    have hi0 : (0 : Int) ≤ i := by omega
    have hol : o.length ≤ 120 := by rw [HO.out]; have := pours_len l (more.take i); rw [List.length_take] at this; omega
    obtain ⟨x, hx⟩ : ∃ x, more[i]? = some x := ⟨_, List.getElem?_eq_getElem hlt⟩
    have HN := Lib.hid (pours_next l hx)
    have hpo := poursOk_at (more.take i) l x (more.drop (i + 1)) (by
      have e : more.take i ++ x :: more.drop (i + 1) = more := by
        obtain ⟨h1, h2⟩ := List.getElem?_eq_some_iff.1 hx
        rw [← h2, ← List.drop_eq_getElem_cons h1, List.take_append_drop]
      rw [e]
      exact HOK.out)
    rw [← HO.out] at hpo HN
    have HPO := Lib.hid (pourOk_last hpo)
    obtain ⟨ad, rfl, hcs⟩ := HM.out.elem hx
    obtain ⟨xn, xg⟩ := x
    have HCS := Lib.hid (show ∀ W, Only [] w W → CellsAt W (ad.add (i * 2)) [.string xn, .int .i64 xg] from fun W h => hcs.only h (by simp))
    clear hcs hpo hx HO
    rcases Nat.eq_zero_or_pos o.length with h0 | h0
    · have HK := Lib.hid h0
      have h1 := HN.out
      have hnil : o = [] := List.eq_nil_of_length_eq_zero h0
      have h2 : pourM o ⟨xn, xg⟩ = o ++ [⟨xn, xg⟩] := by rw [hnil]; rfl
      rw [h2] at h1
      replace HN := Lib.hid h1
      rw [h0]
      clear h0 h1 h2 hnil HPO
      as_aux_lemma =>
        go_wp2
        refine L.grow_start [] 16 ((0, true, true) :: (1, true, true) :: (2, true, true) :: (3, true, false) :: (4, true, false) :: (5, true, false) :: (6, true, false) :: (7, true, false) :: (8, true, false) :: (9, true, false) :: (10, true, true) :: (11, true, true) :: (12, true, true) :: (13, true, true) :: (14, true, true) :: (15, true, true) :: []) (by kernel_rfl) (([], [7], some 18) :: ([0], [18], some 19) :: ([1], [19], some 20) :: ([2], [5, 20], some 21) :: ([2], [7, 20], some 22) :: ([4, 2], [22, 20], some 23) :: ([3, 5, 2], [21, 23, 20], some 24) :: ([6, 2], [24, 20], some 25) :: ([7, 2], [25, 20], some 26) :: ([2], [1, 20], some 27) :: ([2], [6, 20], some 28) :: ([9, 10, 2], [27, 28, 20], some 29) :: ([11, 2], [29, 20], some 30) :: ([12, 2], [30, 20], some 31) :: ([8, 13, 2], [26, 31, 20], some 32) :: ([2, 14], [20, 32], some 33) :: []) (by kernel_rfl) (by kernel_rfl) (n := 16) rfl (by kernel_rfl) (fun _ _ _ _ _ h => h) (fun wg hog => ?_)
        refine L.growe_start (N := 59) (by rfl) ?_
        replace HS := Lib.hid (HS.out.keep hog)
        clear hog
        iterate 16 (first | (refine L.ge_off rfl rfl rfl (by rfl) ?_) | (refine L.ge_move rfl rfl rfl (by rfl) rfl (by simp [L.evE, L.lk, Act.eval]; rfl) ?_) | (refine L.ge_pick rfl rfl rfl (by rfl) rfl (by simp [L.evE, L.lk, Act.eval]; rfl) (by simp [L.evE, L.lk, Act.eval]; rfl) ?_) | (refine L.ge_val rfl rfl rfl (by rfl) (by intro w' hw'; simp [execOp, L.evE, L.lk, Act.eval]; go_simp; rfl) ?_))
        refine L.ge_done ?_
        simp only [L.puts, Act.put, goInt, List.setIfInBounds_toArray, List.set_cons_zero, List.set_cons_succ]
        have HRW0 := Lib.hid (show wg.ownsRow w.heap.size 37 2 (.slice A7 0 c7) 0 (lotRow o) from HK.out ▸ HS.out.row 0 rfl)
        have HRW := Lib.hid (show wg.ownsRow w.heap.size 37 2 (.slice A7 0 c7) 0 (lotRow o) from HRW0.out)
        have HCX := Lib.hid (HCS.out wg HS.out.only)
        go_wp2_with (first
          | (with_reducible refine wpList_load_at rfl 37 (.tmp 54) rfl (ad.add (i * 2)) rfl _ _ HCX.out Tryd.underlying37 rfl (by kernel_rfl) ?_)
          | (with_reducible refine wpList_one rfl 23 (.tmp 55) rfl 37 Tryd.underlying23 (.agg #[.string ⟨#[]⟩, .int .i64 0]) 2 24 infoLt (by omega) (by omega) (.agg #[.string xn, .int .i64 xg]) rfl #[.string xn, .int .i64 xg] (fill_one2 (.agg #[.string ⟨#[]⟩, .int .i64 0]) _ _ rfl rfl) ?_; refine (fun (h : Hid _) => h.out) ?_))
        refine Lib.hid ?_
        have HS5 := Lib.hid (HS.out.alloc [.string xn, .int .i64 xg] 37)
        clear HRW HCX
        simp only [List.cons_append, List.nil_append] at HS5
        generalize hW : wg.alloc (.cells #[.string xn, .int .i64 xg] 37) = W5 at *
        clear hW
        generalize wg.heap.size = b5 at *
        have HRW := Lib.hid (show W5.ownsRow w.heap.size 37 2 (.slice A7 0 c7) 0 (lotRow o) from HK.out ▸ HS5.out.row 0 rfl)
        have HS6 := Lib.hid (show St w [.row (.slice A7 0 c7) 37 2 0 (lotRow o), .blk b5 37 [.string xn, .int .i64 xg]] W5 from HK.out ▸ HS5.out)
        have HCY := Lib.hid (HS5.out.cells 1 rfl)
        go_wp2_with (at_builtin; refine wpList_append_row rfl _ _ 23 rfl w.heap.size 37 2 24 (.agg #[.string ⟨#[]⟩, .int .i64 0]) Tryd.underlying23 infoLt rfl (by omega) (.slice A7 0 c7) (0) (lotRow o) rfl HRW.out (some ⟨b5, 0, none⟩) 1 1 [.string xn, .int .i64 xg] rfl rfl (fun _ => ⟨_, rfl, HCY.out⟩) (by simp [Value.oneCell']) (by unfold maxLen; omega) (by omega) HS5.out.le ?_; intro A8 c8 w8 hown ho hblk; have HO8 := Lib.hid hown; have HS8 := Lib.hid (St.front1 (HS6.out.grow 0 rfl ho hown hblk)); clear hown ho hblk; refine (fun (h : Hid _) => h.out) ?_)
        refine Lib.hid ?_
        clear HRW HCY
        have hln : (o ++ [(⟨xn, xg⟩ : S37)]).length = 0 + 1 := by rw [List.length_append]; rw [HK.out]; rfl
        have HS9 := Lib.hid (show St w [.row (.slice A8 (o ++ [(⟨xn, xg⟩ : S37)]).length c8) 37 2 (o ++ [(⟨xn, xg⟩ : S37)]).length (lotRow (o ++ [(⟨xn, xg⟩ : S37)]))] w8 from by rw [hln, lotRow_append]; exact HS8.out)
        have HLN := Lib.hid hln
        clear hln HS8 HO8
        generalize o ++ [(⟨xn, xg⟩ : S37)] = o2 at *
        go_wp2
        go_roundw
        case rel => exact ⟨i + 1, A8, c8, o2, by go_num, by rw [HLN.out], by omega, Lib.hid HN.out.symm, HS9⟩
        case measure => simp [intOf]; omega
    obtain ⟨k, hk⟩ : ∃ k, o.length = k + 1 := ⟨o.length - 1, by omega⟩
    obtain ⟨q, hq⟩ : ∃ q, o[k]? = some q := ⟨_, List.getElem?_eq_getElem (by omega)⟩
    have hlast : o.getLast? = some q := by rw [List.getLast?_eq_getElem?, hk, Nat.add_sub_cancel]; exact hq
    have hpr := HPO.out q hlast
    have HN' : Hid (poursM l (more.take (i + 1)) = if q.f0 = xn then o.set k ⟨q.f0, q.f1 + xg⟩ else o ++ [⟨xn, xg⟩]) := Lib.hid (by rw [HN.out]; unfold pourM; rw [hlast]; simp only [hk, Nat.add_sub_cancel])
    obtain ⟨gA, cA, hgA, hcA⟩ := ownsRow_some (HS.out.row 0 rfl) h0
    obtain ⟨rfl, rfl⟩ : A7 = some ⟨gA, 0, none⟩ ∧ c7 = cA := by simpa using hgA
    have HQ := Lib.hid hq
    have hpq : q.f0 = xn → -9223372036854775808 ≤ q.f1 + xg ∧ q.f1 + xg ≤ 9223372036854775807 := hpr
    have HPQ := Lib.hid hpq
    obtain ⟨qn, qg⟩ := q
    have HRA := Lib.hid (lot_at (HS.out.row 0 rfl) HQ.out)
    have hk0 : (0 : Int) ≤ k := by omega
    have hkp : (0 : Int) < (k : Int) + 1 := by omega
    have hkA : (k : Int) < (k : Int) + 1 := by omega
    have hk120 : (k : Int) ≤ 120 := by omega
    have hwr : IntKind.i64.wrap (k : Int) = k := by unfold IntKind.wrap; simp [IntKind.bits, IntKind.signed]; omega
    clear hq hlast hpr hpq hgA HN HPO
    have HK := Lib.hid hk
    rw [hk] at hcA ⊢
    clear hk
    go_wp2
    refine L.grow_start [] 16 ((0, true, true) :: (1, true, true) :: (2, true, true) :: (3, true, false) :: (4, true, false) :: (5, true, false) :: (6, true, false) :: (7, true, false) :: (8, true, false) :: (9, true, false) :: (10, true, true) :: (11, true, true) :: (12, true, true) :: (13, true, true) :: (14, true, true) :: (15, true, true) :: []) (by kernel_rfl) (([], [7], some 18) :: ([0], [18], some 19) :: ([1], [19], some 20) :: ([2], [5, 20], some 21) :: ([2], [7, 20], some 22) :: ([4, 2], [22, 20], some 23) :: ([3, 5, 2], [21, 23, 20], some 24) :: ([6, 2], [24, 20], some 25) :: ([7, 2], [25, 20], some 26) :: ([2], [1, 20], some 27) :: ([2], [6, 20], some 28) :: ([9, 10, 2], [27, 28, 20], some 29) :: ([11, 2], [29, 20], some 30) :: ([12, 2], [30, 20], some 31) :: ([8, 13, 2], [26, 31, 20], some 32) :: ([2, 14], [20, 32], some 33) :: []) (by kernel_rfl) (by kernel_rfl) (n := 16) rfl (by kernel_rfl) (fun _ _ _ _ _ h => h) (fun wg hog => ?_)
    refine L.growe_start (N := 59) (by rfl) ?_
    have z1 : ∀ w', Only [] wg w' → w'.cell? ⟨gA, k * 2, none⟩ = some (.string qn) := fun w' h => (hog.trans h).cell HRA.out.1 (by simp)
    have z2 : ∀ w', Only [] wg w' → w'.cell? (ad.add (i * 2)) = some (.string xn) := fun w' h => cell_f0 (HCS.out w' (HS.out.only.trans (hog.trans h))) rfl
    replace HS := Lib.hid (HS.out.keep hog)
    replace HRA := Lib.hid (And.intro (hog.cell HRA.out.1 (by simp)) (hog.cell HRA.out.2 (by simp)))
    clear hog
    iterate 16 (first | (refine L.ge_off rfl rfl rfl (by rfl) ?_) | (refine L.ge_move rfl rfl rfl (by rfl) rfl (by simp [L.evE, L.lk, Act.eval, hwr]; rfl) ?_) | (refine L.ge_pick rfl rfl rfl (by rfl) rfl (by simp [L.evE, L.lk, Act.eval, hwr]; rfl) (by simp [L.evE, L.lk, Act.eval, hwr]; rfl) ?_) | (refine L.ge_val rfl rfl rfl (by rfl) (by intro w' hw'; simp [execOp, L.evE, L.lk, Act.eval, hwr]; go_simp; rfl) ?_))
    refine L.ge_done ?_
    simp only [L.puts, Act.put, goInt, List.setIfInBounds_toArray, List.set_cons_zero, List.set_cons_succ]
    clear z1 z2
    by_cases hqv : qn = xn
    · have h := HN'.out
      rw [if_pos hqv] at h
      have HNX := Lib.hid h
      have hqe : (qn.toList == xn.toList) = true := by rw [hqv]; exact beq_self_eq_true _
      obtain ⟨hq1, hq2⟩ := HPQ.out hqv
      rw [hqe]
      clear hqv hqe h HN' HPQ
      have hwr2 : IntKind.i64.wrap (qg + xg) = qg + xg := by unfold IntKind.wrap; simp [IntKind.bits, IntKind.signed]; omega
      as_aux_lemma =>
        go_wp2
        refine L.grow_start [] 17 ((0, true, false) :: (1, true, false) :: (2, true, false) :: (3, true, false) :: (4, true, false) :: (5, true, false) :: (6, true, false) :: (7, true, false) :: (8, true, false) :: (9, true, false) :: (10, true, true) :: (11, true, true) :: (12, true, true) :: (13, true, true) :: (14, true, true) :: (15, true, true) :: (16, true, true) :: (17, false, true) :: []) (by kernel_rfl) (([], [5], some 34) :: ([], [7], some 35) :: ([1], [35], some 36) :: ([], [5], some 37) :: ([], [7], some 38) :: ([4], [38], some 39) :: ([3, 5], [37, 39], some 40) :: ([6], [40], some 41) :: ([7], [41], some 42) :: ([], [1], some 43) :: ([], [6], some 44) :: ([9, 10], [43, 44], some 45) :: ([11], [45], some 46) :: ([12], [46], some 47) :: ([8, 13], [42, 47], some 48) :: ([0, 2, 0, 1, 2, 3, 4, 5, 6, 7, 8, 9, 10, 11, 12, 13, 14], [34, 36], some 49) :: ([15, 0, 1, 2, 3, 4, 5, 6, 7, 8, 9, 10, 11, 12, 13, 14], [49], some 50) :: ([16, 14, 0, 1, 2, 3, 4, 5, 6, 7, 8, 9, 10, 11, 12, 13, 14], [50, 48], none) :: []) (by kernel_rfl) (by kernel_rfl) (n := 18) rfl (by kernel_rfl) (fun _ _ _ _ _ h => h) (fun wg2 hog => ?_)
        refine L.growe_start (N := 59) (by rfl) ?_
        have z3 : ∀ w', Only [] wg2 w' → w'.cell? ⟨gA, k * 2 + 1, none⟩ = some (.int .i64 qg) := fun w' h => (hog.trans h).cell HRA.out.2 (by simp)
        have z4 : ∀ w', Only [] wg2 w' → w'.cell? ⟨(ad.add (i * 2)).block, (ad.add (i * 2)).off + 1, none⟩ = some (.int .i64 xg) := fun w' h => cell_fj (HCS.out w' (HS.out.only.trans (hog.trans h))) 1 (by omega) rfl
        have z5 := z3 wg2 (Only.refl _ _)
        have z6 := own_frozen ((HS.out.keep hog).row 0 rfl) (k * 2 + 1)
        have HG := Lib.hid hog
        clear hog
        iterate 17 (first | (refine L.ge_off rfl rfl rfl (by rfl) ?_) | (refine L.ge_move rfl rfl rfl (by rfl) rfl (by simp [L.evE, L.lk, Act.eval, hwr, hwr2]; rfl) ?_) | (refine L.ge_pick rfl rfl rfl (by rfl) rfl (by simp [L.evE, L.lk, Act.eval, hwr, hwr2]; rfl) (by simp [L.evE, L.lk, Act.eval, hwr, hwr2]; rfl) ?_) | (refine L.ge_val rfl rfl rfl (by rfl) (by intro w' hw'; simp [execOp, L.evE, L.lk, Act.eval, hwr, hwr2]; go_simp; rfl) ?_))
        refine L.ge_last (w' := wg2.setCell ⟨gA, k * 2 + 1, none⟩ (.int .i64 (qg + xg))) rfl rfl (by rfl) (by simp [execOp, L.evE, L.lk, Act.eval, hwr2]; go_simp) ?_
        simp only [L.puts, Act.put, goInt, List.setIfInBounds_toArray, List.set_cons_zero, List.set_cons_succ]
        clear z3 z4 z5 z6
        replace HS := Lib.hid ((HS.out.keep HG.out).pokeRow 0 rfl (k * 2 + 1) (.int .i64 (qg + xg)))
        have hst : (lotRow o).set (k * 2 + 1) (.int .i64 (qg + xg)) = lotRow (o.set k ⟨qn, qg + xg⟩) := flat_set lotCells 2 (fun _ => rfl) o k 1 ⟨qn, qg⟩ ⟨qn, qg + xg⟩ _ HQ.out rfl (by omega)
        rw [hst, List.set_cons_zero] at HS
        clear hst HG
        have HOL := Lib.hid (show (o.set k ⟨qn, qg + xg⟩).length = k + 1 from by rw [List.length_set]; exact HK.out)
        have HS2 := Lib.hid (show St w [.row (.slice (some ⟨gA, 0, none⟩) (o.set k ⟨qn, qg + xg⟩).length c7) 37 2 (o.set k ⟨qn, qg + xg⟩).length (lotRow (o.set k ⟨qn, qg + xg⟩))] (wg2.setCell ⟨gA, k * 2 + 1, none⟩ (.int .i64 (qg + xg))) from by rw [List.length_set]; exact HS.out)
        clear HS
        generalize wg2.setCell ⟨gA, k * 2 + 1, none⟩ (.int .i64 (qg + xg)) = w7 at *
        generalize o.set k ⟨qn, qg + xg⟩ = o2 at *
        go_wp2
        go_roundw
        case rel => exact ⟨i + 1, some ⟨gA, 0, none⟩, c7, o2, by go_num, by rw [HOL.out], by omega, Lib.hid HNX.out.symm, HS2⟩
        case measure => simp [intOf]; omega
    · have h := HN'.out
      rw [if_neg hqv] at h
      have HN := Lib.hid h
      have hqc : (qn.toList == xn.toList) = false := by rw [bytes_beq, decide_eq_false hqv]
      rw [hqc]
      clear hqc hqv h HN' HPQ
      as_aux_lemma =>
        have HRW0 := Lib.hid (show wg.ownsRow w.heap.size 37 2 (.slice (some ⟨gA, 0, none⟩) (k + 1) c7) (k + 1) (lotRow o) from HK.out ▸ HS.out.row 0 rfl)
        have HRW := Lib.hid (show wg.ownsRow w.heap.size 37 2 (.slice (some ⟨gA, 0, none⟩) (k + 1) c7) (k + 1) (lotRow o) from HRW0.out)
        have HCX := Lib.hid (HCS.out wg HS.out.only)
        go_wp2_with (first
          | (with_reducible refine wpList_load_at rfl 37 (.tmp 54) rfl (ad.add (i * 2)) rfl _ _ HCX.out Tryd.underlying37 rfl (by kernel_rfl) ?_)
          | (with_reducible refine wpList_one rfl 23 (.tmp 55) rfl 37 Tryd.underlying23 (.agg #[.string ⟨#[]⟩, .int .i64 0]) 2 24 infoLt (by omega) (by omega) (.agg #[.string xn, .int .i64 xg]) rfl #[.string xn, .int .i64 xg] (fill_one2 (.agg #[.string ⟨#[]⟩, .int .i64 0]) _ _ rfl rfl) ?_; refine (fun (h : Hid _) => h.out) ?_))
        refine Lib.hid ?_
        have HS5 := Lib.hid (HS.out.alloc [.string xn, .int .i64 xg] 37)
        clear HRW HCX
        simp only [List.cons_append, List.nil_append] at HS5
        generalize hW : wg.alloc (.cells #[.string xn, .int .i64 xg] 37) = W5 at *
        clear hW
        generalize wg.heap.size = b5 at *
        have HRW := Lib.hid (show W5.ownsRow w.heap.size 37 2 (.slice (some ⟨gA, 0, none⟩) (k + 1) c7) (k + 1) (lotRow o) from HK.out ▸ HS5.out.row 0 rfl)
        have HS6 := Lib.hid (show St w [.row (.slice (some ⟨gA, 0, none⟩) (k + 1) c7) 37 2 (k + 1) (lotRow o), .blk b5 37 [.string xn, .int .i64 xg]] W5 from HK.out ▸ HS5.out)
        have HCY := Lib.hid (HS5.out.cells 1 rfl)
        go_wp2_with (at_builtin; refine wpList_append_row rfl _ _ 23 rfl w.heap.size 37 2 24 (.agg #[.string ⟨#[]⟩, .int .i64 0]) Tryd.underlying23 infoLt rfl (by omega) (.slice (some ⟨gA, 0, none⟩) (k + 1) c7) ((k + 1)) (lotRow o) rfl HRW.out (some ⟨b5, 0, none⟩) 1 1 [.string xn, .int .i64 xg] rfl rfl (fun _ => ⟨_, rfl, HCY.out⟩) (by simp [Value.oneCell']) (by unfold maxLen; omega) (by omega) HS5.out.le ?_; intro A8 c8 w8 hown ho hblk; have HO8 := Lib.hid hown; have HS8 := Lib.hid (St.front1 (HS6.out.grow 0 rfl ho hown hblk)); clear hown ho hblk; refine (fun (h : Hid _) => h.out) ?_)
        refine Lib.hid ?_
        clear HRW HCY
        have hln : (o ++ [(⟨xn, xg⟩ : S37)]).length = (k + 1) + 1 := by rw [List.length_append]; rw [HK.out]; rfl
        have HS9 := Lib.hid (show St w [.row (.slice A8 (o ++ [(⟨xn, xg⟩ : S37)]).length c8) 37 2 (o ++ [(⟨xn, xg⟩ : S37)]).length (lotRow (o ++ [(⟨xn, xg⟩ : S37)]))] w8 from by rw [hln, lotRow_append]; exact HS8.out)
        have HLN := Lib.hid hln
        clear hln HS8 HO8
        generalize o ++ [(⟨xn, xg⟩ : S37)] = o2 at *
        go_wp2
        go_roundw
        case rel => exact ⟨i + 1, A8, c8, o2, by go_num, by rw [HLN.out], by omega, Lib.hid HN.out.symm, HS9⟩
        case measure => simp [intOf]; omega
end Go.Proofs.YtejecmjajdhiiaaDoor.Print
/-! ### LgDo3 -/
namespace Go.Proofs.YtejecmjajdhiiaaDoor.Print
open Go.RowKit Go.Proofs.YtejecmjajdhiiaaDoorW.PrintWords Go.Proofs.YtejecmjajdhiiaaDoorW.PrintLast Go.Proofs.YtejecmjajdhiiaaDoorW.PrintMore
set_option linter.unusedSimpArgs false
set_option linter.unusedVariables false
theorem parted_loop (l : List S37) (hl : l.length ≤ 60) (h1 : ∀ y ∈ l, 1 ≤ y.f1 ∧ y.f1 ≤ 1125899906842624) : ∀ (f i K : Nat) (n : Int) (A B : List S37), l.length = i + f → 2 * f + 1 ≤ K → 0 ≤ n → n ≤ 1125899906842624 → A.length + f ≤ 1000 → B.length + f ≤ 1000 →
    malthouseref13_parted.l0 K l n A B (i : Int) = some (A ++ (takeM (l.drop i) n).1, B ++ (takeM (l.drop i) n).2) := by
  intro f
  induction f with
  | zero =>
    intro i K n A B hi hK h0 h9 ha hb
    obtain ⟨K, rfl⟩ : ∃ K', K = K' + 1 := ⟨K - 1, by omega⟩
    simp only [malthouseref13_parted.l0]
    rw [if_neg (by omega), List.drop_eq_nil_of_le (by omega)]
    show some (A, B) = some (A ++ [], B ++ [])
    simp
  | succ f ih =>
    intro i K n A B hi hK h0 h9 ha hb
    obtain ⟨K, rfl⟩ : ∃ K', K = K' + 1 + 1 := ⟨K - 2, by omega⟩
    have hil : i < l.length := by omega
    have e : rd_T37 l (i : Int) = l[i] := getD_at l _ i hil
    have hx := h1 _ (List.getElem_mem hil)
    have hw : wrap64 ((i : Int) + 1) = ((i + 1 : Nat) : Int) := by rw [wrap_small _ (by omega) (by omega)]; omega
    rw [List.drop_eq_getElem_cons hil]
    simp only [malthouseref13_parted.l0]
    rw [if_pos (by omega), if_pos (by omega), e]
    generalize l[i] = x at *
    by_cases hn : x.f1 > n
    · rw [if_pos hn]
      simp only [malthouseref13_parted.j1]
      rw [e]
      have hsub : wrap64 (x.f1 - n) = x.f1 - n := wrap_small _ (by omega) (by omega)
      have hz : wrap64 (n - n) = 0 := by rw [Int.sub_self]; exact wrap_small 0 (by omega) (by omega)
      by_cases hp : n > 0
      · rw [if_pos hp, if_pos (by omega), if_pos (by omega), if_pos (by omega)]
        simp only [Option.bind_some]
        rw [if_pos hn, if_pos (by omega), hsub, hz, hw, ih (i + 1) K 0 _ _ (by omega) (by omega) (by omega) (by omega) (by simp; omega) (by simp; omega), takeM_part x _ n (by omega) (by omega), takeM_zero]
        simp
      · obtain rfl : n = 0 := by omega
        rw [if_neg hp, if_pos (by omega), if_pos (by omega), if_pos hn, if_pos (by omega), hsub, hz, hw, ih (i + 1) K 0 _ _ (by omega) (by omega) (by omega) (by omega) (by simp; omega) (by omega), takeM_zero, takeM_zero]
        simp
    · rw [if_neg hn]
      simp only [malthouseref13_parted.j1]
      rw [e, if_pos (by omega), if_pos (by omega), if_pos (by omega), if_pos (by omega)]
      simp only [Option.bind_some]
      rw [if_neg (by omega), wrap_small (n - x.f1) (by omega) (by omega), hw, ih (i + 1) K (n - x.f1) _ _ (by omega) (by omega) (by omega) (by omega) (by omega) (by simp; omega), takeM_whole x _ n (by omega) (by omega)]
      simp
theorem parted_is (l : List S37) (hl : l.length ≤ 60) (h1 : ∀ y ∈ l, 1 ≤ y.f1 ∧ y.f1 ≤ 1125899906842624) (n : Int) (h0 : 0 ≤ n) (h9 : n ≤ 1125899906842624) : malthouseref13_parted.f 1000 l n = some (takeM l n) := by
  unfold malthouseref13_parted.f
  have h := parted_loop l hl h1 l.length 0 1000 n [] [] (by omega) (by omega) h0 h9 (by simp; omega) (by simp; omega)
  rw [List.drop_zero] at h
  exact h
theorem parted_c {w : World} {A : Option Addr} {c : Nat} {l : List S37} (h : LAt w A c l) (hl : l.length ≤ 60) (h1 : ∀ y ∈ l, 1 ≤ y.f1 ∧ y.f1 ≤ 1125899906842624) (n : Int) (h0 : 0 ≤ n) (h9 : n ≤ 1125899906842624) :
    Calls Tryd.prog 45 #[.slice A l.length c, .int .i64 n] w fun e w' => ∃ B d C q, e = .returned (.tuple #[.slice B (takeM l n).1.length d, .slice C (takeM l n).2.length q]) ∧ LAt w' B d (takeM l n).1 ∧ LAt w' C q (takeM l n).2 ∧ Only [] w w' := by
  refine (malthouseref13_parted.calls 1000 A c l n _ _ w h.2 h.1 (parted_is l hl h1 n h0 h9)).mono ?_
  rintro e w' ⟨v, u, rfl, hR, hR2, hb⟩
  obtain ⟨B, d, rfl, h3, h4⟩ := Kd.R_reads hR
  obtain ⟨C, q, rfl, h5, h6⟩ := Kd.R_reads hR2
  exact ⟨B, d, C, q, rfl, ⟨h3, h4⟩, ⟨h5, h6⟩, .of_below hb⟩
end Go.Proofs.YtejecmjajdhiiaaDoor.Print
/-! ### LgDo4 -/
namespace Go.Proofs.YtejecmjajdhiiaaDoor.Print
open Go.RowKit Go.Proofs.YtejecmjajdhiiaaDoorW.PrintWords Go.Proofs.YtejecmjajdhiiaaDoorW.PrintLast Go.Proofs.YtejecmjajdhiiaaDoorW.PrintMore
set_option linter.unusedSimpArgs false
set_option linter.unusedVariables false
attribute [local go_sem high] beq_self_eq_true
theorem VAt.nil (w : World) : VAt w none 0 [] := ⟨Nat.le_refl _, Kd.C_nil _ _⟩
section
variable {w : World} {A : Option Addr} {c : Nat} {l : List S25}
theorem place_c (h : VAt w A c l) (hl : Lite l) (a : ByteArray) : Calls Tryd.prog 36 #[.slice A l.length c, .string a] w fun e w' => e = .returned (.int .i64 (firstFrom (vesselIs a) 0 l)) ∧ Only [] w w' :=
  (malthouseref13_Place.calls 100 A c l a _ w h.2 h.1 (place_is l a (by have := hl.len; omega) 100 (by omega))).mono fun _ _ h => ⟨h.1, .of_below h.2.below⟩
theorem grams_c (hl : Lite l) (hg : Good l) {i : Nat} {x : S25} (hx : l[i]? = some x) (h : LAt w A c x.f2) : Calls Tryd.prog 37 #[.slice A x.f2.length c] w fun e w' => e = .returned (.int .i64 (sumL x.f2)) ∧ Only [] w w' :=
  (malthouseref13_grams.calls 100 A c x.f2 _ w h.2 h.1 (grams_is hl hg hx 100 (by omega))).mono fun _ _ h => ⟨h.1, .of_below h.2.below⟩
theorem name_c (w : World) (a : ByteArray) (ha : a.size ≤ 200) : Calls Tryd.prog 34 #[.string a] w fun e w' => e = .returned (.bool (nameB a)) ∧ Only [] w w' :=
  (malthouseref01_Name.calls 220 a _ w (refname a ha 220 (by omega))).mono fun _ _ h => ⟨h.1, .of_below h.2⟩
end
set_option maxHeartbeats 8000000 in
set_option maxRecDepth 100000 in
theorem rdraw_c {w : World} {A : Option Addr} {c : Nat} {l : List S25} (h : VAt w A c l) (hl : Lite l) (hs : Slim l) (a : ByteArray) (n : Int) :
    Calls Tryd.prog 25 #[.slice A l.length c, .string a, .int .i64 n] w fun e w' => ∃ B d C q, e = .returned (.tuple #[.slice B (drawM l a n).1.length d, .slice C (drawM l a n).2.1.length q, .int .i64 (drawM l a n).2.2]) ∧ VAt w' B d (drawM l a n).1 ∧ LAt w' C q (drawM l a n).2.1 ∧ Only [] w w' := by
  have HV := Lib.hid h
  have HL := Lib.hid hl
  have HCK := Lib.hid (rcheck_c h hl hs)
  have HPL := Lib.hid (fun (W : World) (k : Only [] w W) => place_c (h.only k) hl a)
  clear h hs
  by_cases hg : checkM l = 0
  rotate_left
  · have hd : drawM l a n = ([], [], 1) := by unfold drawM; rw [if_neg hg]
    rw [hd]
    have hcb : (checkM l != 0) = true := bne_iff_ne.2 hg
    generalize checkM l = v at *
    clear hg hd hl
    as_aux_lemma =>
      go_enter Tryd.func25, Tryd.ntmps25
      go_wp2_with (go_at_call 13; refine HCK.out.mono ?_; rintro e w1 ⟨rfl, h1⟩; have HS1 := Lib.hid h1; clear h1)
      go_ret3
      exact ⟨_, _, _, _, rfl, VAt.nil _, LAt.nil _, HS1.out⟩
  have hG := (good_iff l).1 hg
  rw [hg] at HCK
  rcases at_cases l a with ⟨h1, h2⟩ | ⟨k, x, h1, hx, h3⟩
  · have hd : drawM l a n = ([], [], 4) := by unfold drawM; rw [if_pos hg, h2]; rfl
    rw [hd]
    generalize firstFrom (vesselIs a) 0 l = p at *
    clear hd hg h2 hl
    as_aux_lemma =>
      go_enter Tryd.func25, Tryd.ntmps25
      go_wp2_with (go_at_call 13; refine HCK.out.mono ?_; rintro e w1 ⟨rfl, h1⟩; have HS1 := Lib.hid h1; clear h1; refine (fun (h : Hid _) => h.out) ?_)
      refine Lib.hid ?_
      go_wp2_with (go_at_call 36; refine (HPL.out w1 HS1.out).mono ?_; rintro e w2 ⟨rfl, h2⟩; have HS2 := Lib.hid (HS1.out.trans h2); clear h2)
      go_ret3
      exact ⟨_, _, _, _, rfl, VAt.nil _, LAt.nil _, HS2.out⟩
  rw [h1] at HPL
  have hda := drawM_at hG (n := n) h3
  obtain ⟨p1, p2, p3, p4, p5⟩ := (vesB_iff x).1 (hG.all k x hx).1
  have hs0 := fine_sum _ _ p4
  have hx60 := (hl.all x (List.mem_of_getElem? hx)).len
  have HFL := Lib.hid (fine_low _ _ p4)
  obtain ⟨ad, A2, c2, hA, hLA, hcs⟩ := HV.out.elem hx
  have HLA := Lib.hid hLA
  have HCS := Lib.hid (show ∀ W, Only [] w W → CellsAt W (ad.add (k * 3)) [.string x.f0, .int .i64 x.f1, .slice A2 x.f2.length c2] from fun W h => hcs.only h (by simp))
  have HGR := Lib.hid (fun (W : World) (h : Only [] w W) => grams_c hl hG hx (HLA.out.only h))
  have hk : k < l.length := (List.getElem?_eq_some_iff.1 hx).1
  have hkk : (k : Int) < l.length := by omega
  have hk0 : (0 : Int) ≤ k := by omega
  subst hA
  have HX := Lib.hid hx
  have HP := Lib.hid (fun (W : World) (h : Only [] w W) (h1 : 1 ≤ n) (h2 : n ≤ sumL x.f2) => parted_c (HLA.out.only h) hx60 (fun y hy => by have := HFL.out y hy; omega) n (by omega) (by omega))
  have HWT := Lib.hid (fun (W : World) (h : Only [] w W) (B : Option Addr) (d : Nat) (m : List S37) (hm : LAt W B d m) => with_c (HV.out.only h) hm HL.out HX.out)
  clear hLA hcs hg h1 h3 hx p1
  by_cases hc : n < 1 ∨ sumL x.f2 < n
  · have hd : drawM l a n = ([], [], 130) := by rw [hda]; unfold drawV; rw [if_pos hc]
    rw [hd]
    clear hd hda
    generalize sumL x.f2 = s at *
    by_cases hn : n < 1
    · clear hc
      as_aux_lemma =>
        go_enter Tryd.func25, Tryd.ntmps25
        go_wp2_with (go_at_call 13; refine HCK.out.mono ?_; rintro e w1 ⟨rfl, h1⟩; have HS1 := Lib.hid h1; clear h1; refine (fun (h : Hid _) => h.out) ?_)
        refine Lib.hid ?_
        go_wp2_with (go_at_call 36; refine (HPL.out w1 HS1.out).mono ?_; rintro e w2 ⟨rfl, h2⟩; have HS2 := Lib.hid (HS1.out.trans h2); clear h2)
        go_ret3
        exact ⟨_, _, _, _, rfl, VAt.nil _, LAt.nil _, HS2.out⟩
    · have hsn : s < n := by omega
      have hn' : 1 ≤ n := by omega
      clear hc hn
      as_aux_lemma =>
        go_enter Tryd.func25, Tryd.ntmps25
        go_wp2_with (go_at_call 13; refine HCK.out.mono ?_; rintro e w1 ⟨rfl, h1⟩; have HS1 := Lib.hid h1; clear h1; refine (fun (h : Hid _) => h.out) ?_)
        refine Lib.hid ?_
        go_wp2_with (go_at_call 36; refine (HPL.out w1 HS1.out).mono ?_; rintro e w2 ⟨rfl, h2⟩; have HS2 := Lib.hid (HS1.out.trans h2); clear h2; refine (fun (h : Hid _) => h.out) ?_)
        refine Lib.hid ?_
        have m2 := cell_fj (HCS.out w2 HS2.out) 2 (by omega) rfl
        go_wp2_with (go_at_call 37; refine (HGR.out w2 HS2.out).mono ?_; rintro e w3 ⟨rfl, h3⟩; have HS3 := Lib.hid (HS2.out.trans h3); clear h3)
        go_ret3
        exact ⟨_, _, _, _, rfl, VAt.nil _, LAt.nil _, HS3.out⟩
  · have hd : drawM l a n = (l.set k (turned x (takeM x.f2 n).1), (takeM x.f2 n).2, 0) := by rw [hda]; unfold drawV; rw [if_neg hc]
    rw [hd]
    have hn' : 1 ≤ n := by omega
    have hsn : n ≤ sumL x.f2 := by omega
    have HPT := Lib.hid (fun (W : World) (h : Only [] w W) => HP.out W h hn' hsn)
    have HWU := Lib.hid (fun (W : World) (h : Only [] w W) (B : Option Addr) (d : Nat) (hm : LAt W B d (takeM x.f2 n).1) => HWT.out W h B d _ hm)
    have HLN := Lib.hid (show (l.set k (turned x (takeM x.f2 n).1)).length = l.length from List.length_set)
    clear hd hda hc HP HWT
    generalize sumL x.f2 = s at *
    generalize l.set k (turned x (takeM x.f2 n).1) = l2 at *
    generalize takeM x.f2 n = T at *
    obtain ⟨o1, o2⟩ := T
    dsimp only at *
    as_aux_lemma =>
      go_enter Tryd.func25, Tryd.ntmps25
      go_wp2_with (go_at_call 13; refine HCK.out.mono ?_; rintro e w1 ⟨rfl, h1⟩; have HS1 := Lib.hid h1; clear h1; refine (fun (h : Hid _) => h.out) ?_)
      refine Lib.hid ?_
      go_wp2_with (go_at_call 36; refine (HPL.out w1 HS1.out).mono ?_; rintro e w2 ⟨rfl, h2⟩; have HS2 := Lib.hid (HS1.out.trans h2); clear h2; refine (fun (h : Hid _) => h.out) ?_)
      refine Lib.hid ?_
      have m2 := cell_fj (HCS.out w2 HS2.out) 2 (by omega) rfl
      go_wp2_with (go_at_call 37; refine (HGR.out w2 HS2.out).mono ?_; rintro e w3 ⟨rfl, h3⟩; have HS3 := Lib.hid (HS2.out.trans h3); clear h3; refine (fun (h : Hid _) => h.out) ?_)
      refine Lib.hid ?_
      clear m2
      have m2 := cell_fj (HCS.out w3 HS3.out) 2 (by omega) rfl
      go_wp2_with (go_at_call 45; refine (HPT.out w3 HS3.out).mono ?_; rintro e w4 ⟨B4, d4, C4, q4, rfl, hL4, hO4, h4⟩; have HS4 := Lib.hid (HS3.out.trans h4); have HL4 := Lib.hid hL4; have HO4 := Lib.hid hO4; clear h4 hL4 hO4; refine (fun (h : Hid _) => h.out) ?_)
      refine Lib.hid ?_
      clear m2
      have HWX := Lib.hid (HWU.out w4 HS4.out _ _ HL4.out)
      go_wp2_with (go_at_call 44; refine HWX.out.mono ?_; rintro e w5 ⟨B5, d5, rfl, hV5, h5⟩; have HS5 := Lib.hid (HS4.out.trans h5); have HV5 := Lib.hid hV5; have HO5 := Lib.hid (HO4.out.only h5); clear h5 hV5)
      go_ret3
      exact ⟨B5, d5, C4, q4, by rw [HLN.out]; rfl, HV5.out, HO5.out, HS5.out⟩
set_option maxHeartbeats 8000000 in
set_option maxRecDepth 100000 in
theorem rcharge_c {w : World} {A : Option Addr} {c : Nat} {l : List S25} (h : VAt w A c l) (hl : Lite l) (hs : Slim l) (a b : ByteArray) (hb : b.size ≤ 200) (n : Int) :
    Calls Tryd.prog 24 #[.slice A l.length c, .string a, .string b, .int .i64 n] w fun e w' => ∃ B d, e = .returned (.tuple #[.slice B (chargeM l a b n).1.length d, .int .i64 (chargeM l a b n).2]) ∧ VAt w' B d (chargeM l a b n).1 ∧ Only [] w w' := by
  have HV := Lib.hid h
  have HL := Lib.hid hl
  have HNM := Lib.hid (name_c w b hb)
  have HCK := Lib.hid (fun (W : World) (k : Only [] w W) => rcheck_c (h.only k) hl hs)
  have HPL := Lib.hid (fun (W : World) (k : Only [] w W) => place_c (h.only k) hl a)
  clear h hs
  by_cases hg : checkM l = 0
  rotate_left
  · have hd : chargeM l a b n = ([], 1) := by unfold chargeM; rw [if_neg (fun h => hg h.1)]
    rw [hd]
    have hcb : (checkM l != 0) = true := bne_iff_ne.2 hg
    generalize checkM l = v at *
    generalize nameB b = nb at *
    clear hg hd hl
    as_aux_lemma =>
      go_enter Tryd.func24, Tryd.ntmps24
      go_wp2_with (go_at_call 34; refine HNM.out.mono ?_; rintro e w1 ⟨rfl, h1⟩; have HS1 := Lib.hid h1; clear h1; refine (fun (h : Hid _) => h.out) ?_)
      refine Lib.hid ?_
      go_wp2_with (go_at_call 13; refine (HCK.out w1 HS1.out).mono ?_; rintro e w2 ⟨rfl, h2⟩; have HS2 := Lib.hid (HS1.out.trans h2); clear h2)
      go_ret2
      exact ⟨_, _, rfl, VAt.nil _, HS2.out⟩
  have hG := (good_iff l).1 hg
  rw [hg] at HCK
  by_cases hnm : nameB b = true
  rotate_left
  · have hd : chargeM l a b n = ([], 1) := by unfold chargeM; rw [if_neg (fun h => hnm h.2)]
    rw [hd]
    have hnf : nameB b = false := by simpa using hnm
    rw [hnf] at HNM
    clear hg hd hl hnm hnf
    as_aux_lemma =>
      go_enter Tryd.func24, Tryd.ntmps24
      go_wp2_with (go_at_call 34; refine HNM.out.mono ?_; rintro e w1 ⟨rfl, h1⟩; have HS1 := Lib.hid h1; clear h1; refine (fun (h : Hid _) => h.out) ?_)
      refine Lib.hid ?_
      go_wp2_with (go_at_call 13; refine (HCK.out w1 HS1.out).mono ?_; rintro e w2 ⟨rfl, h2⟩; have HS2 := Lib.hid (HS1.out.trans h2); clear h2)
      go_ret2
      exact ⟨_, _, rfl, VAt.nil _, HS2.out⟩
  rw [hnm] at HNM
  have hcm : chargeM l a b n = chargeA l b n (atV l a) := by unfold chargeM; rw [if_pos ⟨hg, hnm⟩]
  rcases at_cases l a with ⟨h1, h2⟩ | ⟨k, x, h1, hx, h3⟩
  · have hd : chargeM l a b n = ([], 4) := by rw [hcm, h2]; rfl
    rw [hd]
    generalize firstFrom (vesselIs a) 0 l = p at *
    clear hd hg h2 hl hnm hcm
    as_aux_lemma =>
      go_enter Tryd.func24, Tryd.ntmps24
      go_wp2_with (go_at_call 34; refine HNM.out.mono ?_; rintro e w1 ⟨rfl, h1⟩; have HS1 := Lib.hid h1; clear h1; refine (fun (h : Hid _) => h.out) ?_)
      refine Lib.hid ?_
      go_wp2_with (go_at_call 13; refine (HCK.out w1 HS1.out).mono ?_; rintro e w2 ⟨rfl, h2⟩; have HS2 := Lib.hid (HS1.out.trans h2); clear h2; refine (fun (h : Hid _) => h.out) ?_)
      refine Lib.hid ?_
      go_wp2_with (go_at_call 36; refine (HPL.out w2 HS2.out).mono ?_; rintro e w3 ⟨rfl, h3⟩; have HS3 := Lib.hid (HS2.out.trans h3); clear h3)
      go_ret2
      exact ⟨_, _, rfl, VAt.nil _, HS3.out⟩
  rw [h1] at HPL
  rw [h3] at hcm
  have hcm : chargeM l a b n = chargeV l k x b n := hcm
  obtain ⟨p1, p2, p3, p4, p5⟩ := (vesB_iff x).1 (hG.all k x hx).1
  have hs0 := fine_sum _ _ p4
  have hx60 := (hl.all x (List.mem_of_getElem? hx)).len
  obtain ⟨ad, A2, c2, hA, hLA, hcs⟩ := HV.out.elem hx
  have HLA := Lib.hid hLA
  have HCS := Lib.hid (show ∀ W, Only [] w W → CellsAt W (ad.add (k * 3)) [.string x.f0, .int .i64 x.f1, .slice A2 x.f2.length c2] from fun W h => hcs.only h (by simp))
  have HGR := Lib.hid (fun (W : World) (h : Only [] w W) => grams_c hl hG hx (HLA.out.only h))
  have hk : k < l.length := (List.getElem?_eq_some_iff.1 hx).1
  have hkk : (k : Int) < l.length := by omega
  have hk0 : (0 : Int) ≤ k := by omega
  subst hA
  have HX := Lib.hid hx
  have HPO := Lib.hid (fun (h1 : 1 ≤ n) (h2 : sumL x.f2 + n ≤ x.f1) => pourOk_good (x := ⟨b, n⟩) p4 (by omega) (by show 1 ≤ n; omega) (by show n ≤ _; omega))
  have HWT := Lib.hid (fun (W : World) (h : Only [] w W) (B : Option Addr) (d : Nat) (m : List S37) (hm : LAt W B d m) => with_c (HV.out.only h) hm HL.out HX.out)
  clear hLA hcs hg h1 h3 hx p1 p4
  by_cases hn : n < 1
  · have hd : chargeM l a b n = ([], 130) := by rw [hcm]; unfold chargeV; rw [if_pos (.inl hn)]
    rw [hd]
    clear hd hcm
    generalize sumL x.f2 = s at *
    as_aux_lemma =>
      go_enter Tryd.func24, Tryd.ntmps24
      go_wp2_with (go_at_call 34; refine HNM.out.mono ?_; rintro e w1 ⟨rfl, h1⟩; have HS1 := Lib.hid h1; clear h1; refine (fun (h : Hid _) => h.out) ?_)
      refine Lib.hid ?_
      go_wp2_with (go_at_call 13; refine (HCK.out w1 HS1.out).mono ?_; rintro e w2 ⟨rfl, h2⟩; have HS2 := Lib.hid (HS1.out.trans h2); clear h2; refine (fun (h : Hid _) => h.out) ?_)
      refine Lib.hid ?_
      go_wp2_with (go_at_call 36; refine (HPL.out w2 HS2.out).mono ?_; rintro e w3 ⟨rfl, h3⟩; have HS3 := Lib.hid (HS2.out.trans h3); clear h3; refine (fun (h : Hid _) => h.out) ?_)
      refine Lib.hid ?_
      go_wp2
      refine L.grow_start [] 18 ((0, true, true) :: (1, true, true) :: (2, true, true) :: (3, true, false) :: (4, true, false) :: (5, true, false) :: (6, true, false) :: (7, true, false) :: (8, true, false) :: (9, true, false) :: (10, true, true) :: (11, true, true) :: (12, true, true) :: (13, true, true) :: (14, true, true) :: (15, true, true) :: (16, true, true) :: (17, true, true) :: []) (by kernel_rfl) (([], [3], some 27) :: ([0], [27], some 28) :: ([1], [28], some 29) :: ([2], [3, 29], some 30) :: ([2], [0, 29], some 31) :: ([2], [11, 29], some 32) :: ([4, 5, 2], [31, 32, 29], some 33) :: ([6, 2], [33, 29], some 34) :: ([7, 2], [34, 29], some 35) :: ([2], [0, 29], some 36) :: ([2], [11, 29], some 37) :: ([9, 10, 2], [36, 37, 29], some 38) :: ([11, 2], [38, 29], some 39) :: ([12, 2], [39, 29], some 40) :: ([13, 2, 2], [40, 29], some 41) :: ([8, 14, 2], [35, 41, 29], some 42) :: ([3, 15, 2], [30, 42, 29], some 43) :: ([2, 16], [29, 43], some 44) :: []) (by kernel_rfl) (by kernel_rfl) (n := 18) rfl (by kernel_rfl) (fun _ _ _ _ _ h => h) (fun wg hog => ?_)
      refine L.growe_start (N := 62) (by rfl) ?_
      have HSX := Lib.hid (HS3.out.trans hog)
      clear hog
      have hnd : ¬ 1 ≤ n := by omega
      iterate 18 (first | (refine L.ge_off rfl rfl rfl (by rfl) ?_) | (refine L.ge_move rfl rfl rfl (by rfl) rfl (by simp [L.evE, L.lk, Act.eval]; rfl) ?_) | (refine L.ge_pick rfl rfl rfl (by rfl) rfl (by simp [L.evE, L.lk, Act.eval]; rfl) (by simp [L.evE, L.lk, Act.eval]; rfl) ?_) | (refine L.ge_val rfl rfl rfl (by rfl) (by intro w' hw'; simp [execOp, L.evE, L.lk, Act.eval]; go_simp; rfl) ?_))
      refine L.ge_done ?_
      simp only [L.puts, Act.put, goInt, List.setIfInBounds_toArray, List.set_cons_zero, List.set_cons_succ]
      go_wp2
      go_ret2
      exact ⟨_, _, rfl, VAt.nil _, HSX.out⟩
  have hn' : 1 ≤ n := by omega
  by_cases hr : x.f1 - sumL x.f2 < n
  · have hd : chargeM l a b n = ([], 130) := by rw [hcm]; unfold chargeV; rw [if_pos (.inr hr)]
    rw [hd]
    clear hd hcm HPO
    obtain ⟨xn, xc, xl⟩ := x
    dsimp only at *
    generalize sumL xl = s at *
    as_aux_lemma =>
      go_enter Tryd.func24, Tryd.ntmps24
      go_wp2_with (go_at_call 34; refine HNM.out.mono ?_; rintro e w1 ⟨rfl, h1⟩; have HS1 := Lib.hid h1; clear h1; refine (fun (h : Hid _) => h.out) ?_)
      refine Lib.hid ?_
      go_wp2_with (go_at_call 13; refine (HCK.out w1 HS1.out).mono ?_; rintro e w2 ⟨rfl, h2⟩; have HS2 := Lib.hid (HS1.out.trans h2); clear h2; refine (fun (h : Hid _) => h.out) ?_)
      refine Lib.hid ?_
      go_wp2_with (go_at_call 36; refine (HPL.out w2 HS2.out).mono ?_; rintro e w3 ⟨rfl, h3⟩; have HS3 := Lib.hid (HS2.out.trans h3); clear h3; refine (fun (h : Hid _) => h.out) ?_)
      refine Lib.hid ?_
      go_wp2
      refine L.grow_start [] 18 ((0, true, true) :: (1, true, true) :: (2, true, true) :: (3, true, false) :: (4, true, false) :: (5, true, false) :: (6, true, false) :: (7, true, false) :: (8, true, false) :: (9, true, false) :: (10, true, true) :: (11, true, true) :: (12, true, true) :: (13, true, true) :: (14, true, true) :: (15, true, true) :: (16, true, true) :: (17, true, true) :: []) (by kernel_rfl) (([], [3], some 27) :: ([0], [27], some 28) :: ([1], [28], some 29) :: ([2], [3, 29], some 30) :: ([2], [0, 29], some 31) :: ([2], [11, 29], some 32) :: ([4, 5, 2], [31, 32, 29], some 33) :: ([6, 2], [33, 29], some 34) :: ([7, 2], [34, 29], some 35) :: ([2], [0, 29], some 36) :: ([2], [11, 29], some 37) :: ([9, 10, 2], [36, 37, 29], some 38) :: ([11, 2], [38, 29], some 39) :: ([12, 2], [39, 29], some 40) :: ([13, 2, 2], [40, 29], some 41) :: ([8, 14, 2], [35, 41, 29], some 42) :: ([3, 15, 2], [30, 42, 29], some 43) :: ([2, 16], [29, 43], some 44) :: []) (by kernel_rfl) (by kernel_rfl) (n := 18) rfl (by kernel_rfl) (fun _ _ _ _ _ h => h) (fun wg hog => ?_)
      refine L.growe_start (N := 62) (by rfl) ?_
      have HG := Lib.hid (HS3.out.trans hog)
      have z1 : ∀ w', Only [] wg w' → w'.cell? ⟨(ad.add (k * 3)).block, (ad.add (k * 3)).off + 1, none⟩ = some (.int .i64 xc) := fun w' h => cell_fj (HCS.out w' (HG.out.trans h)) 1 (by omega) rfl
      have z2 : ∀ w', Only [] wg w' → w'.cell? ⟨(ad.add (k * 3)).block, (ad.add (k * 3)).off + 2, none⟩ = some (.slice A2 xl.length c2) := fun w' h => cell_fj (HCS.out w' (HG.out.trans h)) 2 (by omega) rfl
      clear hog
      have hnd : ¬ n < 1 := by omega
      iterate 14 (first | (refine L.ge_off rfl rfl rfl (by rfl) ?_) | (refine L.ge_move rfl rfl rfl (by rfl) rfl (by simp [L.evE, L.lk, Act.eval]; rfl) ?_) | (refine L.ge_pick rfl rfl rfl (by rfl) rfl (by simp [L.evE, L.lk, Act.eval]; rfl) (by simp [L.evE, L.lk, Act.eval]; rfl) ?_) | (refine L.ge_val rfl rfl rfl (by rfl) (by intro w' hw'; simp [execOp, L.evE, L.lk, Act.eval]; go_simp; rfl) ?_))
      refine L.ge_call rfl rfl rfl (by rfl) rfl (by simp [L.evE, L.lk, Act.eval]; rfl) (by go_simp) ?_
      refine (HGR.out wg HG.out).mono ?_
      rintro e wc ⟨rfl, hc⟩
      refine ⟨_, rfl, hc, ?_⟩
      have HSX := Lib.hid (HG.out.trans hc)
      clear hc z1 z2 HG
      have hwr : IntKind.i64.wrap (xc - s) = xc - s := by unfold IntKind.wrap; simp [IntKind.bits, IntKind.signed]; omega
      iterate 3 (first | (refine L.ge_off rfl rfl rfl (by rfl) ?_) | (refine L.ge_move rfl rfl rfl (by rfl) rfl (by simp [L.evE, L.lk, Act.eval, hwr]; rfl) ?_) | (refine L.ge_pick rfl rfl rfl (by rfl) rfl (by simp [L.evE, L.lk, Act.eval, hwr]; rfl) (by simp [L.evE, L.lk, Act.eval, hwr]; rfl) ?_) | (refine L.ge_val rfl rfl rfl (by rfl) (by intro w' hw'; simp [execOp, L.evE, L.lk, Act.eval, hwr]; go_simp; rfl) ?_))
      refine L.ge_done ?_
      simp only [L.puts, Act.put, goInt, List.setIfInBounds_toArray, List.set_cons_zero, List.set_cons_succ]
      go_wp2
      go_ret2
      exact ⟨_, _, rfl, VAt.nil _, HSX.out⟩
  have HPK := Lib.hid (HPO.out hn' (by omega))
  have hr' : n ≤ x.f1 - sumL x.f2 := by omega
  have hcv : chargeV l k x b n = if 5 < (pourM x.f2 ⟨b, n⟩).length then ([], 2) else (l.set k (turned x (pourM x.f2 ⟨b, n⟩)), 0) := by unfold chargeV; rw [if_neg (by omega)]
  have HWU := Lib.hid (fun (W : World) (h : Only [] w W) (B : Option Addr) (d : Nat) (hm : LAt W B d (pourM x.f2 ⟨b, n⟩)) => HWT.out W h B d _ hm)
  have HLN := Lib.hid (show (l.set k (turned x (pourM x.f2 ⟨b, n⟩))).length = l.length from List.length_set)
  have HPP := Lib.hid (fun (W : World) (h : Only [] w W) (B : Option Addr) (d : Nat) (hm : LAt W B d [⟨b, n⟩]) => poured_c (HLA.out.only h) hm hx60 (by simp) (show poursOk x.f2 [⟨b, n⟩] = true by show (pourOk x.f2 ⟨b, n⟩ && true) = true; rw [HPK.out]; rfl))
  have HPP : Hid (∀ (W : World), Only [] w W → ∀ (B : Option Addr) (d : Nat), LAt W B d [⟨b, n⟩] → Calls Tryd.prog 43 #[.slice A2 x.f2.length c2, .slice B 1 d] W fun e w' => ∃ C q, e = .returned (.slice C (pourM x.f2 ⟨b, n⟩).length q) ∧ LAt w' C q (pourM x.f2 ⟨b, n⟩) ∧ Only [] W w') := HPP
  rw [hcm, hcv]
  clear hcm hcv HPO HPK HWT hn hr
  have h120 := pourM_length x.f2 ⟨b, n⟩
  generalize l.set k (turned x (pourM x.f2 ⟨b, n⟩)) = l2 at *
  generalize pourM x.f2 ⟨b, n⟩ = po at *
  obtain ⟨xn, xc, xl⟩ := x
  dsimp only at *
  generalize sumL xl = s at *
  by_cases h5 : 5 < po.length
  · rw [if_pos h5]
    have h5' : (5 : Int) < po.length := by omega
    as_aux_lemma =>
      go_enter Tryd.func24, Tryd.ntmps24
      go_wp2_with (go_at_call 34; refine HNM.out.mono ?_; rintro e w1 ⟨rfl, h1⟩; have HS1 := Lib.hid h1; clear h1; refine (fun (h : Hid _) => h.out) ?_)
      refine Lib.hid ?_
      go_wp2_with (go_at_call 13; refine (HCK.out w1 HS1.out).mono ?_; rintro e w2 ⟨rfl, h2⟩; have HS2 := Lib.hid (HS1.out.trans h2); clear h2; refine (fun (h : Hid _) => h.out) ?_)
      refine Lib.hid ?_
      go_wp2_with (go_at_call 36; refine (HPL.out w2 HS2.out).mono ?_; rintro e w3 ⟨rfl, h3⟩; have HS3 := Lib.hid (HS2.out.trans h3); clear h3; refine (fun (h : Hid _) => h.out) ?_)
      refine Lib.hid ?_
      go_wp2
      refine L.grow_start [] 18 ((0, true, true) :: (1, true, true) :: (2, true, true) :: (3, true, false) :: (4, true, false) :: (5, true, false) :: (6, true, false) :: (7, true, false) :: (8, true, false) :: (9, true, false) :: (10, true, true) :: (11, true, true) :: (12, true, true) :: (13, true, true) :: (14, true, true) :: (15, true, true) :: (16, true, true) :: (17, true, true) :: []) (by kernel_rfl) (([], [3], some 27) :: ([0], [27], some 28) :: ([1], [28], some 29) :: ([2], [3, 29], some 30) :: ([2], [0, 29], some 31) :: ([2], [11, 29], some 32) :: ([4, 5, 2], [31, 32, 29], some 33) :: ([6, 2], [33, 29], some 34) :: ([7, 2], [34, 29], some 35) :: ([2], [0, 29], some 36) :: ([2], [11, 29], some 37) :: ([9, 10, 2], [36, 37, 29], some 38) :: ([11, 2], [38, 29], some 39) :: ([12, 2], [39, 29], some 40) :: ([13, 2, 2], [40, 29], some 41) :: ([8, 14, 2], [35, 41, 29], some 42) :: ([3, 15, 2], [30, 42, 29], some 43) :: ([2, 16], [29, 43], some 44) :: []) (by kernel_rfl) (by kernel_rfl) (n := 18) rfl (by kernel_rfl) (fun _ _ _ _ _ h => h) (fun wg hog => ?_)
      refine L.growe_start (N := 62) (by rfl) ?_
      have HG := Lib.hid (HS3.out.trans hog)
      have z1 : ∀ w', Only [] wg w' → w'.cell? ⟨(ad.add (k * 3)).block, (ad.add (k * 3)).off + 1, none⟩ = some (.int .i64 xc) := fun w' h => cell_fj (HCS.out w' (HG.out.trans h)) 1 (by omega) rfl
      have z2 : ∀ w', Only [] wg w' → w'.cell? ⟨(ad.add (k * 3)).block, (ad.add (k * 3)).off + 2, none⟩ = some (.slice A2 xl.length c2) := fun w' h => cell_fj (HCS.out w' (HG.out.trans h)) 2 (by omega) rfl
      clear hog
      have hnd : ¬ n < 1 := by omega
      iterate 14 (first | (refine L.ge_off rfl rfl rfl (by rfl) ?_) | (refine L.ge_move rfl rfl rfl (by rfl) rfl (by simp [L.evE, L.lk, Act.eval]; rfl) ?_) | (refine L.ge_pick rfl rfl rfl (by rfl) rfl (by simp [L.evE, L.lk, Act.eval]; rfl) (by simp [L.evE, L.lk, Act.eval]; rfl) ?_) | (refine L.ge_val rfl rfl rfl (by rfl) (by intro w' hw'; simp [execOp, L.evE, L.lk, Act.eval]; go_simp; rfl) ?_))
      refine L.ge_call rfl rfl rfl (by rfl) rfl (by simp [L.evE, L.lk, Act.eval]; rfl) (by go_simp) ?_
      refine (HGR.out wg HG.out).mono ?_
      rintro e wc ⟨rfl, hc⟩
      refine ⟨_, rfl, hc, ?_⟩
      have HSX := Lib.hid (HG.out.trans hc)
      clear hc z1 z2 HG
      have hwr : IntKind.i64.wrap (xc - s) = xc - s := by unfold IntKind.wrap; simp [IntKind.bits, IntKind.signed]; omega
      iterate 3 (first | (refine L.ge_off rfl rfl rfl (by rfl) ?_) | (refine L.ge_move rfl rfl rfl (by rfl) rfl (by simp [L.evE, L.lk, Act.eval, hwr]; rfl) ?_) | (refine L.ge_pick rfl rfl rfl (by rfl) rfl (by simp [L.evE, L.lk, Act.eval, hwr]; rfl) (by simp [L.evE, L.lk, Act.eval, hwr]; rfl) ?_) | (refine L.ge_val rfl rfl rfl (by rfl) (by intro w' hw'; simp [execOp, L.evE, L.lk, Act.eval, hwr]; go_simp; rfl) ?_))
      refine L.ge_done ?_
      simp only [L.puts, Act.put, goInt, List.setIfInBounds_toArray, List.set_cons_zero, List.set_cons_succ]
      have m2 := cell_fj (HCS.out wc HSX.out) 2 (by omega) rfl
      go_wp2_with (with_reducible refine wpList_one rfl 23 (.tmp 52) rfl 37 Tryd.underlying23 (.agg #[.string ⟨#[]⟩, .int .i64 0]) 2 24 infoLt (by omega) (by omega) (.agg #[.string b, .int .i64 n]) rfl #[.string b, .int .i64 n] (fill_one2 (.agg #[.string ⟨#[]⟩, .int .i64 0]) _ _ rfl rfl) ?_; refine (fun (h : Hid _) => h.out) ?_)
      refine Lib.hid ?_
      clear m2
      have HT5 := Lib.hid ((St.nil wc).alloc [.string b, .int .i64 n] 37)
      simp only [List.nil_append] at HT5
      generalize hW : wc.alloc (.cells #[.string b, .int .i64 n] 37) = w5 at *
      clear hW
      have HS5 := Lib.hid (HSX.out.trans HT5.out.only)
      have HPX := Lib.hid (HPP.out w5 HS5.out (some ⟨wc.heap.size, 0, none⟩) 1 ⟨Nat.le_refl _, C_lots (by simp) (fun _ => ⟨_, rfl, HT5.out.cells 0 rfl⟩)⟩)
      go_wp2_with (go_at_call 43; refine HPX.out.mono ?_; rintro e w6 ⟨B6, d6, rfl, hL6, h6⟩; have HS6 := Lib.hid (HS5.out.trans h6); have HL6 := Lib.hid hL6; clear h6 hL6; refine (fun (h : Hid _) => h.out) ?_)
      refine Lib.hid ?_
      go_wp2
      go_ret2
      exact ⟨_, _, rfl, VAt.nil _, HS6.out⟩
  · rw [if_neg h5]
    have h5' : ¬ (5 : Int) < po.length := by omega
    as_aux_lemma =>
      go_enter Tryd.func24, Tryd.ntmps24
      go_wp2_with (go_at_call 34; refine HNM.out.mono ?_; rintro e w1 ⟨rfl, h1⟩; have HS1 := Lib.hid h1; clear h1; refine (fun (h : Hid _) => h.out) ?_)
      refine Lib.hid ?_
      go_wp2_with (go_at_call 13; refine (HCK.out w1 HS1.out).mono ?_; rintro e w2 ⟨rfl, h2⟩; have HS2 := Lib.hid (HS1.out.trans h2); clear h2; refine (fun (h : Hid _) => h.out) ?_)
      refine Lib.hid ?_
      go_wp2_with (go_at_call 36; refine (HPL.out w2 HS2.out).mono ?_; rintro e w3 ⟨rfl, h3⟩; have HS3 := Lib.hid (HS2.out.trans h3); clear h3; refine (fun (h : Hid _) => h.out) ?_)
      refine Lib.hid ?_
      go_wp2
      refine L.grow_start [] 18 ((0, true, true) :: (1, true, true) :: (2, true, true) :: (3, true, false) :: (4, true, false) :: (5, true, false) :: (6, true, false) :: (7, true, false) :: (8, true, false) :: (9, true, false) :: (10, true, true) :: (11, true, true) :: (12, true, true) :: (13, true, true) :: (14, true, true) :: (15, true, true) :: (16, true, true) :: (17, true, true) :: []) (by kernel_rfl) (([], [3], some 27) :: ([0], [27], some 28) :: ([1], [28], some 29) :: ([2], [3, 29], some 30) :: ([2], [0, 29], some 31) :: ([2], [11, 29], some 32) :: ([4, 5, 2], [31, 32, 29], some 33) :: ([6, 2], [33, 29], some 34) :: ([7, 2], [34, 29], some 35) :: ([2], [0, 29], some 36) :: ([2], [11, 29], some 37) :: ([9, 10, 2], [36, 37, 29], some 38) :: ([11, 2], [38, 29], some 39) :: ([12, 2], [39, 29], some 40) :: ([13, 2, 2], [40, 29], some 41) :: ([8, 14, 2], [35, 41, 29], some 42) :: ([3, 15, 2], [30, 42, 29], some 43) :: ([2, 16], [29, 43], some 44) :: []) (by kernel_rfl) (by kernel_rfl) (n := 18) rfl (by kernel_rfl) (fun _ _ _ _ _ h => h) (fun wg hog => ?_)
      refine L.growe_start (N := 62) (by rfl) ?_
      have HG := Lib.hid (HS3.out.trans hog)
      have z1 : ∀ w', Only [] wg w' → w'.cell? ⟨(ad.add (k * 3)).block, (ad.add (k * 3)).off + 1, none⟩ = some (.int .i64 xc) := fun w' h => cell_fj (HCS.out w' (HG.out.trans h)) 1 (by omega) rfl
      have z2 : ∀ w', Only [] wg w' → w'.cell? ⟨(ad.add (k * 3)).block, (ad.add (k * 3)).off + 2, none⟩ = some (.slice A2 xl.length c2) := fun w' h => cell_fj (HCS.out w' (HG.out.trans h)) 2 (by omega) rfl
      clear hog
      have hnd : ¬ n < 1 := by omega
      iterate 14 (first | (refine L.ge_off rfl rfl rfl (by rfl) ?_) | (refine L.ge_move rfl rfl rfl (by rfl) rfl (by simp [L.evE, L.lk, Act.eval]; rfl) ?_) | (refine L.ge_pick rfl rfl rfl (by rfl) rfl (by simp [L.evE, L.lk, Act.eval]; rfl) (by simp [L.evE, L.lk, Act.eval]; rfl) ?_) | (refine L.ge_val rfl rfl rfl (by rfl) (by intro w' hw'; simp [execOp, L.evE, L.lk, Act.eval]; go_simp; rfl) ?_))
      refine L.ge_call rfl rfl rfl (by rfl) rfl (by simp [L.evE, L.lk, Act.eval]; rfl) (by go_simp) ?_
      refine (HGR.out wg HG.out).mono ?_
      rintro e wc ⟨rfl, hc⟩
      refine ⟨_, rfl, hc, ?_⟩
      have HSX := Lib.hid (HG.out.trans hc)
      clear hc z1 z2 HG
      have hwr : IntKind.i64.wrap (xc - s) = xc - s := by unfold IntKind.wrap; simp [IntKind.bits, IntKind.signed]; omega
      iterate 3 (first | (refine L.ge_off rfl rfl rfl (by rfl) ?_) | (refine L.ge_move rfl rfl rfl (by rfl) rfl (by simp [L.evE, L.lk, Act.eval, hwr]; rfl) ?_) | (refine L.ge_pick rfl rfl rfl (by rfl) rfl (by simp [L.evE, L.lk, Act.eval, hwr]; rfl) (by simp [L.evE, L.lk, Act.eval, hwr]; rfl) ?_) | (refine L.ge_val rfl rfl rfl (by rfl) (by intro w' hw'; simp [execOp, L.evE, L.lk, Act.eval, hwr]; go_simp; rfl) ?_))
      refine L.ge_done ?_
      simp only [L.puts, Act.put, goInt, List.setIfInBounds_toArray, List.set_cons_zero, List.set_cons_succ]
      have m2 := cell_fj (HCS.out wc HSX.out) 2 (by omega) rfl
      go_wp2_with (with_reducible refine wpList_one rfl 23 (.tmp 52) rfl 37 Tryd.underlying23 (.agg #[.string ⟨#[]⟩, .int .i64 0]) 2 24 infoLt (by omega) (by omega) (.agg #[.string b, .int .i64 n]) rfl #[.string b, .int .i64 n] (fill_one2 (.agg #[.string ⟨#[]⟩, .int .i64 0]) _ _ rfl rfl) ?_; refine (fun (h : Hid _) => h.out) ?_)
      refine Lib.hid ?_
      clear m2
      have HT5 := Lib.hid ((St.nil wc).alloc [.string b, .int .i64 n] 37)
      simp only [List.nil_append] at HT5
      generalize hW : wc.alloc (.cells #[.string b, .int .i64 n] 37) = w5 at *
      clear hW
      have HS5 := Lib.hid (HSX.out.trans HT5.out.only)
      have HPX := Lib.hid (HPP.out w5 HS5.out (some ⟨wc.heap.size, 0, none⟩) 1 ⟨Nat.le_refl _, C_lots (by simp) (fun _ => ⟨_, rfl, HT5.out.cells 0 rfl⟩)⟩)
      go_wp2_with (go_at_call 43; refine HPX.out.mono ?_; rintro e w6 ⟨B6, d6, rfl, hL6, h6⟩; have HS6 := Lib.hid (HS5.out.trans h6); have HL6 := Lib.hid hL6; clear h6 hL6; refine (fun (h : Hid _) => h.out) ?_)
      refine Lib.hid ?_
      have HWX := Lib.hid (HWU.out w6 HS6.out _ _ HL6.out)
      go_wp2_with (go_at_call 44; refine HWX.out.mono ?_; rintro e w7 ⟨B7, d7, rfl, hV7, h7⟩; have HS7 := Lib.hid (HS6.out.trans h7); have HV7 := Lib.hid hV7; clear h7 hV7)
      go_ret2
      exact ⟨B7, d7, by rw [HLN.out]; rfl, HV7.out, HS7.out⟩
end Go.Proofs.YtejecmjajdhiiaaDoor.Print
/-! ### LgDo5 -/
namespace Go.Proofs.YtejecmjajdhiiaaDoor.Print
open Go.RowKit Go.Proofs.YtejecmjajdhiiaaDoorW.PrintWords Go.Proofs.YtejecmjajdhiiaaDoorW.PrintLast Go.Proofs.YtejecmjajdhiiaaDoorW.PrintMore
set_option linter.unusedSimpArgs false
set_option linter.unusedVariables false
attribute [local go_sem high] beq_self_eq_true
set_option maxHeartbeats 8000000 in
set_option maxRecDepth 100000 in
theorem rmove_c {w : World} {A : Option Addr} {c : Nat} {l : List S25} (h : VAt w A c l) (hl : Lite l) (hs : Slim l) (a b : ByteArray) (n : Int) :
    Calls Tryd.prog 27 #[.slice A l.length c, .string a, .string b, .int .i64 n] w fun e w' => ∃ B d, e = .returned (.tuple #[.slice B (moveM l a b n).1.length d, .int .i64 (moveM l a b n).2]) ∧ VAt w' B d (moveM l a b n).1 ∧ Only [] w w' := by
  have HV := Lib.hid h
  have HL := Lib.hid hl
  have HCK := Lib.hid (rcheck_c h hl hs)
  have HPA := Lib.hid (fun (W : World) (k : Only [] w W) => place_c (h.only k) hl a)
  have HPB := Lib.hid (fun (W : World) (k : Only [] w W) => place_c (h.only k) hl b)
  clear h hs
  by_cases hg : checkM l = 0
  rotate_left
  · have hd : moveM l a b n = ([], 1) := by unfold moveM; rw [if_neg (fun h => hg h.1)]
    rw [hd]
    have hcb : (checkM l != 0) = true := bne_iff_ne.2 hg
    generalize checkM l = v at *
    clear hg hd hl
    as_aux_lemma =>
      go_enter Tryd.func27, Tryd.ntmps27
      go_wp2_with (go_at_call 13; refine HCK.out.mono ?_; rintro e w2 ⟨rfl, h2⟩; have HS2 := Lib.hid h2; clear h2; refine (fun (h : Hid _) => h.out) ?_)
      refine Lib.hid ?_
      go_wp2
      go_ret2
      exact ⟨_, _, rfl, VAt.nil _, HS2.out⟩
  have hG := (good_iff l).1 hg
  rw [hg] at HCK
  by_cases hab : a = b
  · have hd : moveM l a b n = ([], 1) := by unfold moveM; rw [if_neg (fun h => h.2 hab)]
    rw [hd]
    subst hab
    clear hg hd hl
    as_aux_lemma =>
      go_enter Tryd.func27, Tryd.ntmps27
      go_wp2_with (go_at_call 13; refine HCK.out.mono ?_; rintro e w2 ⟨rfl, h2⟩; have HS2 := Lib.hid h2; clear h2; refine (fun (h : Hid _) => h.out) ?_)
      refine Lib.hid ?_
      go_wp2
      go_ret2
      exact ⟨_, _, rfl, VAt.nil _, HS2.out⟩
  have hqc : (a.toList == b.toList) = false := by rw [bytes_beq, decide_eq_false hab]
  have hmm : moveM l a b n = moveA l n (atV l a) (atV l b) := by unfold moveM; rw [if_pos ⟨hg, hab⟩]
  rcases at_cases l a with ⟨h1, h2⟩ | ⟨i, x, f1, hx, h3⟩
  · have hd : moveM l a b n = ([], 4) := by rw [hmm, h2]; cases atV l b <;> rfl
    rw [hd]
    generalize firstFrom (vesselIs a) 0 l = p at *
    generalize firstFrom (vesselIs b) 0 l = q at *
    clear hd hg h2 hl hab hmm
    as_aux_lemma =>
      go_enter Tryd.func27, Tryd.ntmps27
      go_wp2_with (go_at_call 13; refine HCK.out.mono ?_; rintro e w2 ⟨rfl, h2⟩; have HS2 := Lib.hid h2; clear h2; refine (fun (h : Hid _) => h.out) ?_)
      refine Lib.hid ?_
      go_wp2_with (go_at_call 36; refine (HPA.out w2 HS2.out).mono ?_; rintro e w3 ⟨rfl, h3⟩; have HS3 := Lib.hid (HS2.out.trans h3); clear h3; refine (fun (h : Hid _) => h.out) ?_)
      refine Lib.hid ?_
      go_wp2_with (go_at_call 36; refine (HPB.out w3 HS3.out).mono ?_; rintro e w4 ⟨rfl, h4⟩; have HS4 := Lib.hid (HS3.out.trans h4); clear h4; refine (fun (h : Hid _) => h.out) ?_)
      refine Lib.hid ?_
      go_wp2
      go_ret2
      exact ⟨_, _, rfl, VAt.nil _, HS4.out⟩
  rcases at_cases l b with ⟨h1, h2⟩ | ⟨k, y, f2, hy, h4⟩
  · have hd : moveM l a b n = ([], 4) := by rw [hmm, h2, h3]; rfl
    rw [hd]
    rw [f1] at HPA
    have hi0 : (0 : Int) ≤ i := by omega
    generalize firstFrom (vesselIs b) 0 l = q at *
    clear hd hg h2 h3 hl hab hmm f1
    as_aux_lemma =>
      go_enter Tryd.func27, Tryd.ntmps27
      go_wp2_with (go_at_call 13; refine HCK.out.mono ?_; rintro e w2 ⟨rfl, h2⟩; have HS2 := Lib.hid h2; clear h2; refine (fun (h : Hid _) => h.out) ?_)
      refine Lib.hid ?_
      go_wp2_with (go_at_call 36; refine (HPA.out w2 HS2.out).mono ?_; rintro e w3 ⟨rfl, h3⟩; have HS3 := Lib.hid (HS2.out.trans h3); clear h3; refine (fun (h : Hid _) => h.out) ?_)
      refine Lib.hid ?_
      go_wp2_with (go_at_call 36; refine (HPB.out w3 HS3.out).mono ?_; rintro e w4 ⟨rfl, h4⟩; have HS4 := Lib.hid (HS3.out.trans h4); clear h4; refine (fun (h : Hid _) => h.out) ?_)
      refine Lib.hid ?_
      go_wp2
      go_ret2
      exact ⟨_, _, rfl, VAt.nil _, HS4.out⟩
  have hne : k ≠ i := find_ne (l := l) (a := a) (b := b) (by rw [find_lite hl, f1]) (by rw [find_lite hl, f2]) hab
  rw [f1] at HPA
  rw [f2] at HPB
  rw [h3, h4] at hmm
  have hmm : moveM l a b n = moveV l i x k y n := hmm
  obtain ⟨p1, p2, p3, p4, p5⟩ := (vesB_iff x).1 (hG.all i x hx).1
  obtain ⟨q1, q2, q3, q4, q5⟩ := (vesB_iff y).1 (hG.all k y hy).1
  have hs0 := fine_sum _ _ p4
  have ht0 := fine_sum _ _ q4
  have hx60 := (hl.all x (List.mem_of_getElem? hx)).len
  have hy60 := (hl.all y (List.mem_of_getElem? hy)).len
  have HFL := Lib.hid (fine_low _ _ p4)
  obtain ⟨adx, A2x, c2x, hAx, hLAx, hcsx⟩ := HV.out.elem hx
  have HLAx := Lib.hid hLAx
  have HCSx := Lib.hid (show ∀ W, Only [] w W → CellsAt W (adx.add (i * 3)) [.string x.f0, .int .i64 x.f1, .slice A2x x.f2.length c2x] from fun W h => hcsx.only h (by simp))
  have HGRx := Lib.hid (fun (W : World) (h : Only [] w W) => grams_c hl hG hx (HLAx.out.only h))
  have hkx : i < l.length := (List.getElem?_eq_some_iff.1 hx).1
  have hkkx : (i : Int) < l.length := by omega
  have hk0x : (0 : Int) ≤ i := by omega
  obtain ⟨ady, A2y, c2y, hAy, hLAy, hcsy⟩ := HV.out.elem hy
  have HLAy := Lib.hid hLAy
  have HCSy := Lib.hid (show ∀ W, Only [] w W → CellsAt W (ady.add (k * 3)) [.string y.f0, .int .i64 y.f1, .slice A2y y.f2.length c2y] from fun W h => hcsy.only h (by simp))
  have HGRy := Lib.hid (fun (W : World) (h : Only [] w W) => grams_c hl hG hy (HLAy.out.only h))
  have hky : k < l.length := (List.getElem?_eq_some_iff.1 hy).1
  have hkky : (k : Int) < l.length := by omega
  have hk0y : (0 : Int) ≤ k := by omega
  subst hAx
  obtain rfl : adx = ady := Option.some.inj hAy
  have HX := Lib.hid hx
  have HY := Lib.hid hy
  have hy' : (l.set i (turned x (takeM x.f2 n).1))[k]? = some y := by rw [List.getElem?_set_ne (Ne.symm hne)]; exact hy
  have HP := Lib.hid (fun (W : World) (h : Only [] w W) (h1 : 1 ≤ n) (h2 : n ≤ sumL x.f2) => parted_c (HLAx.out.only h) hx60 (fun y hy => by have := HFL.out y hy; omega) n (by omega) (by omega))
  have HWT := Lib.hid (fun (W : World) (h : Only [] w W) (B : Option Addr) (d : Nat) (hm : LAt W B d (takeM x.f2 n).1) => with_c (HV.out.only h) hm HL.out HX.out)
  have hol := takeM_len x.f2 n
  have hout := takeM_out x.f2 none n p4
  have HPQ := Lib.hid (fun (W : World) (h : Only [] w W) (h1 : 1 ≤ n) (h2 : n ≤ sumL x.f2) (h3 : sumL y.f2 + n ≤ y.f1) (B : Option Addr) (d : Nat) (hm : LAt W B d (takeM x.f2 n).2) => poured_c (HLAy.out.only h) hm hy60 (by omega) (poursOk_good _ _ q4 (fun z hz => ⟨(hout z hz).1, (hout z hz).2.1⟩) (by rw [(takeM_sum x.f2 none n p4 (by omega) h2).1]; omega)))
  have HW2 := Lib.hid (fun (W : World) (B : Option Addr) (d : Nat) (hv : VAt W B d (l.set i (turned x (takeM x.f2 n).1))) (h1 : 1 ≤ n) (h2 : n ≤ sumL x.f2) (C : Option Addr) (q : Nat) (hm : LAt W C q (poursM y.f2 (takeM x.f2 n).2)) => with_c hv hm (draw_good HL.out hG HX.out h1 h2).1 hy')
  clear hLAx hcsx hLAy hcsy hg f1 f2 h3 h4 hx hy p1 p4 q1 q4 hy' hout hne hab hAy
  by_cases hn : n < 1
  · have hd : moveM l a b n = ([], 130) := by rw [hmm]; unfold moveV; rw [if_pos (.inl hn)]
    rw [hd]
    clear hd hmm HP HPQ HW2 HWT
    generalize sumL x.f2 = s at *
    generalize sumL y.f2 = t at *
    as_aux_lemma =>
      go_enter Tryd.func27, Tryd.ntmps27
      go_wp2_with (go_at_call 13; refine HCK.out.mono ?_; rintro e w2 ⟨rfl, h2⟩; have HS2 := Lib.hid h2; clear h2; refine (fun (h : Hid _) => h.out) ?_)
      refine Lib.hid ?_
      go_wp2_with (go_at_call 36; refine (HPA.out w2 HS2.out).mono ?_; rintro e w3 ⟨rfl, h3⟩; have HS3 := Lib.hid (HS2.out.trans h3); clear h3; refine (fun (h : Hid _) => h.out) ?_)
      refine Lib.hid ?_
      go_wp2_with (go_at_call 36; refine (HPB.out w3 HS3.out).mono ?_; rintro e w4 ⟨rfl, h4⟩; have HS4 := Lib.hid (HS3.out.trans h4); clear h4; refine (fun (h : Hid _) => h.out) ?_)
      refine Lib.hid ?_
      go_wp2
      refine L.grow_start [] 28 ((0, true, true) :: (1, true, true) :: (2, true, true) :: (3, true, false) :: (4, true, false) :: (5, true, true) :: (6, true, true) :: (7, true, true) :: (8, true, true) :: (9, true, true) :: (10, true, true) :: (11, true, true) :: (12, true, true) :: (13, true, false) :: (14, true, false) :: (15, true, false) :: (16, true, false) :: (17, true, false) :: (18, true, false) :: (19, true, false) :: (20, true, true) :: (21, true, true) :: (22, true, true) :: (23, true, true) :: (24, true, true) :: (25, true, true) :: (26, true, true) :: (27, true, true) :: []) (by kernel_rfl) (([], [3], some 35) :: ([0], [35], some 36) :: ([1], [36], some 37) :: ([2], [3, 37], some 38) :: ([2], [0, 37], some 39) :: ([2], [10, 37], some 40) :: ([4, 5, 2], [39, 40, 37], some 41) :: ([6, 2], [41, 37], some 42) :: ([7, 2], [42, 37], some 43) :: ([8, 2, 2], [43, 37], some 44) :: ([3, 9, 2], [38, 44, 37], some 45) :: ([2, 10], [37, 45], some 46) :: ([11, 9], [46], some 47) :: ([12], [3, 47], some 48) :: ([12], [0, 47], some 49) :: ([12], [11, 47], some 50) :: ([14, 15, 12], [49, 50, 47], some 51) :: ([16, 12], [51, 47], some 52) :: ([17, 12], [52, 47], some 53) :: ([12], [0, 47], some 54) :: ([12], [11, 47], some 55) :: ([19, 20, 12], [54, 55, 47], some 56) :: ([21, 12], [56, 47], some 57) :: ([22, 12], [57, 47], some 58) :: ([23, 12, 12], [58, 47], some 59) :: ([18, 24, 12], [53, 59, 47], some 60) :: ([13, 25, 12], [48, 60, 47], some 61) :: ([12, 26], [47, 61], some 62) :: []) (by kernel_rfl) (by kernel_rfl) (n := 28) rfl (by kernel_rfl) (fun _ _ _ _ _ h => h) (fun wg hog => ?_)
      refine L.growe_start (N := 90) (by rfl) ?_
      have HG := Lib.hid (HS4.out.trans hog)
      clear hog
      have hnd : ¬ 1 ≤ n := by omega
      iterate 28 (first | (refine L.ge_off rfl rfl rfl (by rfl) ?_) | (refine L.ge_move rfl rfl rfl (by rfl) rfl (by simp [L.evE, L.lk, Act.eval]; rfl) ?_) | (refine L.ge_pick rfl rfl rfl (by rfl) rfl (by simp [L.evE, L.lk, Act.eval]; rfl) (by simp [L.evE, L.lk, Act.eval]; rfl) ?_) | (refine L.ge_val rfl rfl rfl (by rfl) (by intro w' hw'; simp [execOp, L.evE, L.lk, Act.eval]; go_simp; rfl) ?_))
      refine L.ge_done ?_
      simp only [L.puts, Act.put, goInt, List.setIfInBounds_toArray, List.set_cons_zero, List.set_cons_succ]
      go_wp2
      go_ret2
      exact ⟨_, _, rfl, VAt.nil _, HG.out⟩
  have hn' : 1 ≤ n := by omega
  by_cases hr : sumL x.f2 < n
  · have hd : moveM l a b n = ([], 130) := by rw [hmm]; unfold moveV; rw [if_pos (.inr (.inl hr))]
    rw [hd]
    clear hd hmm HP HPQ HW2 HWT
    obtain ⟨xn, xc, xl⟩ := x
    obtain ⟨yn, yc, yl⟩ := y
    dsimp only at *
    generalize sumL xl = s at *
    generalize sumL yl = t at *
    as_aux_lemma =>
      go_enter Tryd.func27, Tryd.ntmps27
      go_wp2_with (go_at_call 13; refine HCK.out.mono ?_; rintro e w2 ⟨rfl, h2⟩; have HS2 := Lib.hid h2; clear h2; refine (fun (h : Hid _) => h.out) ?_)
      refine Lib.hid ?_
      go_wp2_with (go_at_call 36; refine (HPA.out w2 HS2.out).mono ?_; rintro e w3 ⟨rfl, h3⟩; have HS3 := Lib.hid (HS2.out.trans h3); clear h3; refine (fun (h : Hid _) => h.out) ?_)
      refine Lib.hid ?_
      go_wp2_with (go_at_call 36; refine (HPB.out w3 HS3.out).mono ?_; rintro e w4 ⟨rfl, h4⟩; have HS4 := Lib.hid (HS3.out.trans h4); clear h4; refine (fun (h : Hid _) => h.out) ?_)
      refine Lib.hid ?_
      go_wp2
      refine L.grow_start [] 28 ((0, true, true) :: (1, true, true) :: (2, true, true) :: (3, true, false) :: (4, true, false) :: (5, true, true) :: (6, true, true) :: (7, true, true) :: (8, true, true) :: (9, true, true) :: (10, true, true) :: (11, true, true) :: (12, true, true) :: (13, true, false) :: (14, true, false) :: (15, true, false) :: (16, true, false) :: (17, true, false) :: (18, true, false) :: (19, true, false) :: (20, true, true) :: (21, true, true) :: (22, true, true) :: (23, true, true) :: (24, true, true) :: (25, true, true) :: (26, true, true) :: (27, true, true) :: []) (by kernel_rfl) (([], [3], some 35) :: ([0], [35], some 36) :: ([1], [36], some 37) :: ([2], [3, 37], some 38) :: ([2], [0, 37], some 39) :: ([2], [10, 37], some 40) :: ([4, 5, 2], [39, 40, 37], some 41) :: ([6, 2], [41, 37], some 42) :: ([7, 2], [42, 37], some 43) :: ([8, 2, 2], [43, 37], some 44) :: ([3, 9, 2], [38, 44, 37], some 45) :: ([2, 10], [37, 45], some 46) :: ([11, 9], [46], some 47) :: ([12], [3, 47], some 48) :: ([12], [0, 47], some 49) :: ([12], [11, 47], some 50) :: ([14, 15, 12], [49, 50, 47], some 51) :: ([16, 12], [51, 47], some 52) :: ([17, 12], [52, 47], some 53) :: ([12], [0, 47], some 54) :: ([12], [11, 47], some 55) :: ([19, 20, 12], [54, 55, 47], some 56) :: ([21, 12], [56, 47], some 57) :: ([22, 12], [57, 47], some 58) :: ([23, 12, 12], [58, 47], some 59) :: ([18, 24, 12], [53, 59, 47], some 60) :: ([13, 25, 12], [48, 60, 47], some 61) :: ([12, 26], [47, 61], some 62) :: []) (by kernel_rfl) (by kernel_rfl) (n := 28) rfl (by kernel_rfl) (fun _ _ _ _ _ h => h) (fun wg hog => ?_)
      refine L.growe_start (N := 90) (by rfl) ?_
      have HG := Lib.hid (HS4.out.trans hog)
      clear hog
      have x2 : ∀ w', Only [] wg w' → w'.cell? ⟨(adx.add (i * 3)).block, (adx.add (i * 3)).off + 2, none⟩ = some (.slice A2x xl.length c2x) := fun w' h => cell_fj (HCSx.out w' (HG.out.trans h)) 2 (by omega) rfl
      have y1 : ∀ w', Only [] wg w' → w'.cell? ⟨(adx.add (k * 3)).block, (adx.add (k * 3)).off + 1, none⟩ = some (.int .i64 yc) := fun w' h => cell_fj (HCSy.out w' (HG.out.trans h)) 1 (by omega) rfl
      have y2 : ∀ w', Only [] wg w' → w'.cell? ⟨(adx.add (k * 3)).block, (adx.add (k * 3)).off + 2, none⟩ = some (.slice A2y yl.length c2y) := fun w' h => cell_fj (HCSy.out w' (HG.out.trans h)) 2 (by omega) rfl
      have hnd : ¬ n < 1 := by omega
      have hsn2 : s < n := by omega
      iterate 9 (first | (refine L.ge_off rfl rfl rfl (by rfl) ?_) | (refine L.ge_move rfl rfl rfl (by rfl) rfl (by simp [L.evE, L.lk, Act.eval]; rfl) ?_) | (refine L.ge_pick rfl rfl rfl (by rfl) rfl (by simp [L.evE, L.lk, Act.eval]; rfl) (by simp [L.evE, L.lk, Act.eval]; rfl) ?_) | (refine L.ge_val rfl rfl rfl (by rfl) (by intro w' hw'; simp [execOp, L.evE, L.lk, Act.eval]; go_simp; rfl) ?_))
      refine L.ge_call rfl rfl rfl (by rfl) rfl (by simp [L.evE, L.lk, Act.eval]; rfl) (by go_simp) ?_
      refine (HGRx.out wg HG.out).mono ?_
      rintro e wc ⟨rfl, hc⟩
      refine ⟨_, rfl, hc, ?_⟩
      have HG2 := Lib.hid (HG.out.trans hc)
      have y1' : ∀ w', Only [] wc w' → w'.cell? ⟨(adx.add (k * 3)).block, (adx.add (k * 3)).off + 1, none⟩ = some (.int .i64 yc) := fun w' h => y1 w' (hc.trans h)
      have y2' : ∀ w', Only [] wc w' → w'.cell? ⟨(adx.add (k * 3)).block, (adx.add (k * 3)).off + 2, none⟩ = some (.slice A2y yl.length c2y) := fun w' h => y2 w' (hc.trans h)
      clear x2 y1 y2 hc
      iterate 18 (first | (refine L.ge_off rfl rfl rfl (by rfl) ?_) | (refine L.ge_move rfl rfl rfl (by rfl) rfl (by simp [L.evE, L.lk, Act.eval]; rfl) ?_) | (refine L.ge_pick rfl rfl rfl (by rfl) rfl (by simp [L.evE, L.lk, Act.eval]; rfl) (by simp [L.evE, L.lk, Act.eval]; rfl) ?_) | (refine L.ge_val rfl rfl rfl (by rfl) (by intro w' hw'; simp [execOp, L.evE, L.lk, Act.eval]; go_simp; rfl) ?_))
      refine L.ge_done ?_
      simp only [L.puts, Act.put, goInt, List.setIfInBounds_toArray, List.set_cons_zero, List.set_cons_succ]
      go_wp2
      go_ret2
      exact ⟨_, _, rfl, VAt.nil _, HG2.out⟩
  have hr' : n ≤ sumL x.f2 := by omega
  by_cases hq : y.f1 - sumL y.f2 < n
  · have hd : moveM l a b n = ([], 130) := by rw [hmm]; unfold moveV; rw [if_pos (.inr (.inr hq))]
    rw [hd]
    clear hd hmm HP HPQ HW2 HWT
    obtain ⟨xn, xc, xl⟩ := x
    obtain ⟨yn, yc, yl⟩ := y
    dsimp only at *
    generalize sumL xl = s at *
    generalize sumL yl = t at *
    have hsn : ¬ s < n := by omega
    as_aux_lemma =>
      go_enter Tryd.func27, Tryd.ntmps27
      go_wp2_with (go_at_call 13; refine HCK.out.mono ?_; rintro e w2 ⟨rfl, h2⟩; have HS2 := Lib.hid h2; clear h2; refine (fun (h : Hid _) => h.out) ?_)
      refine Lib.hid ?_
      go_wp2_with (go_at_call 36; refine (HPA.out w2 HS2.out).mono ?_; rintro e w3 ⟨rfl, h3⟩; have HS3 := Lib.hid (HS2.out.trans h3); clear h3; refine (fun (h : Hid _) => h.out) ?_)
      refine Lib.hid ?_
      go_wp2_with (go_at_call 36; refine (HPB.out w3 HS3.out).mono ?_; rintro e w4 ⟨rfl, h4⟩; have HS4 := Lib.hid (HS3.out.trans h4); clear h4; refine (fun (h : Hid _) => h.out) ?_)
      refine Lib.hid ?_
      go_wp2
      refine L.grow_start [] 28 ((0, true, true) :: (1, true, true) :: (2, true, true) :: (3, true, false) :: (4, true, false) :: (5, true, true) :: (6, true, true) :: (7, true, true) :: (8, true, true) :: (9, true, true) :: (10, true, true) :: (11, true, true) :: (12, true, true) :: (13, true, false) :: (14, true, false) :: (15, true, false) :: (16, true, false) :: (17, true, false) :: (18, true, false) :: (19, true, false) :: (20, true, true) :: (21, true, true) :: (22, true, true) :: (23, true, true) :: (24, true, true) :: (25, true, true) :: (26, true, true) :: (27, true, true) :: []) (by kernel_rfl) (([], [3], some 35) :: ([0], [35], some 36) :: ([1], [36], some 37) :: ([2], [3, 37], some 38) :: ([2], [0, 37], some 39) :: ([2], [10, 37], some 40) :: ([4, 5, 2], [39, 40, 37], some 41) :: ([6, 2], [41, 37], some 42) :: ([7, 2], [42, 37], some 43) :: ([8, 2, 2], [43, 37], some 44) :: ([3, 9, 2], [38, 44, 37], some 45) :: ([2, 10], [37, 45], some 46) :: ([11, 9], [46], some 47) :: ([12], [3, 47], some 48) :: ([12], [0, 47], some 49) :: ([12], [11, 47], some 50) :: ([14, 15, 12], [49, 50, 47], some 51) :: ([16, 12], [51, 47], some 52) :: ([17, 12], [52, 47], some 53) :: ([12], [0, 47], some 54) :: ([12], [11, 47], some 55) :: ([19, 20, 12], [54, 55, 47], some 56) :: ([21, 12], [56, 47], some 57) :: ([22, 12], [57, 47], some 58) :: ([23, 12, 12], [58, 47], some 59) :: ([18, 24, 12], [53, 59, 47], some 60) :: ([13, 25, 12], [48, 60, 47], some 61) :: ([12, 26], [47, 61], some 62) :: []) (by kernel_rfl) (by kernel_rfl) (n := 28) rfl (by kernel_rfl) (fun _ _ _ _ _ h => h) (fun wg hog => ?_)
      refine L.growe_start (N := 90) (by rfl) ?_
      have HG := Lib.hid (HS4.out.trans hog)
      clear hog
      have x2 : ∀ w', Only [] wg w' → w'.cell? ⟨(adx.add (i * 3)).block, (adx.add (i * 3)).off + 2, none⟩ = some (.slice A2x xl.length c2x) := fun w' h => cell_fj (HCSx.out w' (HG.out.trans h)) 2 (by omega) rfl
      have y1 : ∀ w', Only [] wg w' → w'.cell? ⟨(adx.add (k * 3)).block, (adx.add (k * 3)).off + 1, none⟩ = some (.int .i64 yc) := fun w' h => cell_fj (HCSy.out w' (HG.out.trans h)) 1 (by omega) rfl
      have y2 : ∀ w', Only [] wg w' → w'.cell? ⟨(adx.add (k * 3)).block, (adx.add (k * 3)).off + 2, none⟩ = some (.slice A2y yl.length c2y) := fun w' h => cell_fj (HCSy.out w' (HG.out.trans h)) 2 (by omega) rfl
      have hnd : ¬ n < 1 := by omega
      have hsn2 : ¬ s < n := by omega
      iterate 9 (first | (refine L.ge_off rfl rfl rfl (by rfl) ?_) | (refine L.ge_move rfl rfl rfl (by rfl) rfl (by simp [L.evE, L.lk, Act.eval]; rfl) ?_) | (refine L.ge_pick rfl rfl rfl (by rfl) rfl (by simp [L.evE, L.lk, Act.eval]; rfl) (by simp [L.evE, L.lk, Act.eval]; rfl) ?_) | (refine L.ge_val rfl rfl rfl (by rfl) (by intro w' hw'; simp [execOp, L.evE, L.lk, Act.eval]; go_simp; rfl) ?_))
      refine L.ge_call rfl rfl rfl (by rfl) rfl (by simp [L.evE, L.lk, Act.eval]; rfl) (by go_simp) ?_
      refine (HGRx.out wg HG.out).mono ?_
      rintro e wc ⟨rfl, hc⟩
      refine ⟨_, rfl, hc, ?_⟩
      have HG2 := Lib.hid (HG.out.trans hc)
      have y1' : ∀ w', Only [] wc w' → w'.cell? ⟨(adx.add (k * 3)).block, (adx.add (k * 3)).off + 1, none⟩ = some (.int .i64 yc) := fun w' h => y1 w' (hc.trans h)
      have y2' : ∀ w', Only [] wc w' → w'.cell? ⟨(adx.add (k * 3)).block, (adx.add (k * 3)).off + 2, none⟩ = some (.slice A2y yl.length c2y) := fun w' h => y2 w' (hc.trans h)
      clear x2 y1 y2 hc
      iterate 14 (first | (refine L.ge_off rfl rfl rfl (by rfl) ?_) | (refine L.ge_move rfl rfl rfl (by rfl) rfl (by simp [L.evE, L.lk, Act.eval]; rfl) ?_) | (refine L.ge_pick rfl rfl rfl (by rfl) rfl (by simp [L.evE, L.lk, Act.eval]; rfl) (by simp [L.evE, L.lk, Act.eval]; rfl) ?_) | (refine L.ge_val rfl rfl rfl (by rfl) (by intro w' hw'; simp [execOp, L.evE, L.lk, Act.eval]; go_simp; rfl) ?_))
      refine L.ge_call rfl rfl rfl (by rfl) rfl (by simp [L.evE, L.lk, Act.eval]; rfl) (by go_simp) ?_
      refine (HGRy.out wc HG2.out).mono ?_
      rintro e wd ⟨rfl, hd⟩
      refine ⟨_, rfl, hd, ?_⟩
      have HSX := Lib.hid (HG2.out.trans hd)
      clear hd y1' y2' HG2
      have hwr : IntKind.i64.wrap (yc - t) = yc - t := by unfold IntKind.wrap; simp [IntKind.bits, IntKind.signed]; omega
      iterate 3 (first | (refine L.ge_off rfl rfl rfl (by rfl) ?_) | (refine L.ge_move rfl rfl rfl (by rfl) rfl (by simp [L.evE, L.lk, Act.eval, hwr]; rfl) ?_) | (refine L.ge_pick rfl rfl rfl (by rfl) rfl (by simp [L.evE, L.lk, Act.eval, hwr]; rfl) (by simp [L.evE, L.lk, Act.eval, hwr]; rfl) ?_) | (refine L.ge_val rfl rfl rfl (by rfl) (by intro w' hw'; simp [execOp, L.evE, L.lk, Act.eval, hwr]; go_simp; rfl) ?_))
      refine L.ge_done ?_
      simp only [L.puts, Act.put, goInt, List.setIfInBounds_toArray, List.set_cons_zero, List.set_cons_succ]
      go_wp2
      go_ret2
      exact ⟨_, _, rfl, VAt.nil _, HSX.out⟩
  have hq' : n ≤ y.f1 - sumL y.f2 := by omega
  have hcv : moveV l i x k y n = if 5 < (poursM y.f2 (takeM x.f2 n).2).length then ([], 2) else (movedM l i k x y n, 0) := by unfold moveV; rw [if_neg (by omega)]
  have HPT := Lib.hid (fun (W : World) (h : Only [] w W) => HP.out W h hn' hr')
  have HPP := Lib.hid (fun (W : World) (h : Only [] w W) => HPQ.out W h hn' hr' (by omega))
  have HWV := Lib.hid (fun (W : World) (B : Option Addr) (d : Nat) (hv : VAt W B d (l.set i (turned x (takeM x.f2 n).1))) => HW2.out W B d hv hn' hr')
  have HLN := Lib.hid (show (l.set i (turned x (takeM x.f2 n).1)).length = l.length from List.length_set)
  have HLM := Lib.hid (show ((l.set i (turned x (takeM x.f2 n).1)).set k (turned y (poursM y.f2 (takeM x.f2 n).2))).length = l.length from by rw [List.length_set, List.length_set])
  have h120 := pours_len y.f2 (takeM x.f2 n).2
  have hp120 : (poursM y.f2 (takeM x.f2 n).2).length ≤ 120 := by omega
  rw [hmm, hcv]
  unfold movedM
  clear hmm hcv HP HPQ HW2 hn hr hq h120
  generalize (l.set i (turned x (takeM x.f2 n).1)).set k (turned y (poursM y.f2 (takeM x.f2 n).2)) = l3 at *
  generalize l.set i (turned x (takeM x.f2 n).1) = l2 at *
  generalize poursM y.f2 (takeM x.f2 n).2 = po at *
  generalize takeM x.f2 n = T at *
  obtain ⟨o1, o2⟩ := T
  dsimp only at *
  obtain ⟨xn, xc, xl⟩ := x
  obtain ⟨yn, yc, yl⟩ := y
  dsimp only at *
  generalize sumL xl = s at *
  generalize sumL yl = t at *
  have hsn : ¬ s < n := by omega
  rw [HLN.out] at HWV
  by_cases h5 : 5 < po.length
  · rw [if_pos h5]
    have h5' : (5 : Int) < po.length := by omega
    as_aux_lemma =>
      go_enter Tryd.func27, Tryd.ntmps27
      go_wp2_with (go_at_call 13; refine HCK.out.mono ?_; rintro e w2 ⟨rfl, h2⟩; have HS2 := Lib.hid h2; clear h2; refine (fun (h : Hid _) => h.out) ?_)
      refine Lib.hid ?_
      go_wp2_with (go_at_call 36; refine (HPA.out w2 HS2.out).mono ?_; rintro e w3 ⟨rfl, h3⟩; have HS3 := Lib.hid (HS2.out.trans h3); clear h3; refine (fun (h : Hid _) => h.out) ?_)
      refine Lib.hid ?_
      go_wp2_with (go_at_call 36; refine (HPB.out w3 HS3.out).mono ?_; rintro e w4 ⟨rfl, h4⟩; have HS4 := Lib.hid (HS3.out.trans h4); clear h4; refine (fun (h : Hid _) => h.out) ?_)
      refine Lib.hid ?_
      go_wp2
      refine L.grow_start [] 28 ((0, true, true) :: (1, true, true) :: (2, true, true) :: (3, true, false) :: (4, true, false) :: (5, true, true) :: (6, true, true) :: (7, true, true) :: (8, true, true) :: (9, true, true) :: (10, true, true) :: (11, true, true) :: (12, true, true) :: (13, true, false) :: (14, true, false) :: (15, true, false) :: (16, true, false) :: (17, true, false) :: (18, true, false) :: (19, true, false) :: (20, true, true) :: (21, true, true) :: (22, true, true) :: (23, true, true) :: (24, true, true) :: (25, true, true) :: (26, true, true) :: (27, true, true) :: []) (by kernel_rfl) (([], [3], some 35) :: ([0], [35], some 36) :: ([1], [36], some 37) :: ([2], [3, 37], some 38) :: ([2], [0, 37], some 39) :: ([2], [10, 37], some 40) :: ([4, 5, 2], [39, 40, 37], some 41) :: ([6, 2], [41, 37], some 42) :: ([7, 2], [42, 37], some 43) :: ([8, 2, 2], [43, 37], some 44) :: ([3, 9, 2], [38, 44, 37], some 45) :: ([2, 10], [37, 45], some 46) :: ([11, 9], [46], some 47) :: ([12], [3, 47], some 48) :: ([12], [0, 47], some 49) :: ([12], [11, 47], some 50) :: ([14, 15, 12], [49, 50, 47], some 51) :: ([16, 12], [51, 47], some 52) :: ([17, 12], [52, 47], some 53) :: ([12], [0, 47], some 54) :: ([12], [11, 47], some 55) :: ([19, 20, 12], [54, 55, 47], some 56) :: ([21, 12], [56, 47], some 57) :: ([22, 12], [57, 47], some 58) :: ([23, 12, 12], [58, 47], some 59) :: ([18, 24, 12], [53, 59, 47], some 60) :: ([13, 25, 12], [48, 60, 47], some 61) :: ([12, 26], [47, 61], some 62) :: []) (by kernel_rfl) (by kernel_rfl) (n := 28) rfl (by kernel_rfl) (fun _ _ _ _ _ h => h) (fun wg hog => ?_)
      refine L.growe_start (N := 90) (by rfl) ?_
      have HG := Lib.hid (HS4.out.trans hog)
      clear hog
      have x2 : ∀ w', Only [] wg w' → w'.cell? ⟨(adx.add (i * 3)).block, (adx.add (i * 3)).off + 2, none⟩ = some (.slice A2x xl.length c2x) := fun w' h => cell_fj (HCSx.out w' (HG.out.trans h)) 2 (by omega) rfl
      have y1 : ∀ w', Only [] wg w' → w'.cell? ⟨(adx.add (k * 3)).block, (adx.add (k * 3)).off + 1, none⟩ = some (.int .i64 yc) := fun w' h => cell_fj (HCSy.out w' (HG.out.trans h)) 1 (by omega) rfl
      have y2 : ∀ w', Only [] wg w' → w'.cell? ⟨(adx.add (k * 3)).block, (adx.add (k * 3)).off + 2, none⟩ = some (.slice A2y yl.length c2y) := fun w' h => cell_fj (HCSy.out w' (HG.out.trans h)) 2 (by omega) rfl
      have hnd : ¬ n < 1 := by omega
      have hsn2 : ¬ s < n := by omega
      iterate 9 (first | (refine L.ge_off rfl rfl rfl (by rfl) ?_) | (refine L.ge_move rfl rfl rfl (by rfl) rfl (by simp [L.evE, L.lk, Act.eval]; rfl) ?_) | (refine L.ge_pick rfl rfl rfl (by rfl) rfl (by simp [L.evE, L.lk, Act.eval]; rfl) (by simp [L.evE, L.lk, Act.eval]; rfl) ?_) | (refine L.ge_val rfl rfl rfl (by rfl) (by intro w' hw'; simp [execOp, L.evE, L.lk, Act.eval]; go_simp; rfl) ?_))
      refine L.ge_call rfl rfl rfl (by rfl) rfl (by simp [L.evE, L.lk, Act.eval]; rfl) (by go_simp) ?_
      refine (HGRx.out wg HG.out).mono ?_
      rintro e wc ⟨rfl, hc⟩
      refine ⟨_, rfl, hc, ?_⟩
      have HG2 := Lib.hid (HG.out.trans hc)
      have y1' : ∀ w', Only [] wc w' → w'.cell? ⟨(adx.add (k * 3)).block, (adx.add (k * 3)).off + 1, none⟩ = some (.int .i64 yc) := fun w' h => y1 w' (hc.trans h)
      have y2' : ∀ w', Only [] wc w' → w'.cell? ⟨(adx.add (k * 3)).block, (adx.add (k * 3)).off + 2, none⟩ = some (.slice A2y yl.length c2y) := fun w' h => y2 w' (hc.trans h)
      clear x2 y1 y2 hc
      iterate 14 (first | (refine L.ge_off rfl rfl rfl (by rfl) ?_) | (refine L.ge_move rfl rfl rfl (by rfl) rfl (by simp [L.evE, L.lk, Act.eval]; rfl) ?_) | (refine L.ge_pick rfl rfl rfl (by rfl) rfl (by simp [L.evE, L.lk, Act.eval]; rfl) (by simp [L.evE, L.lk, Act.eval]; rfl) ?_) | (refine L.ge_val rfl rfl rfl (by rfl) (by intro w' hw'; simp [execOp, L.evE, L.lk, Act.eval]; go_simp; rfl) ?_))
      refine L.ge_call rfl rfl rfl (by rfl) rfl (by simp [L.evE, L.lk, Act.eval]; rfl) (by go_simp) ?_
      refine (HGRy.out wc HG2.out).mono ?_
      rintro e wd ⟨rfl, hd⟩
      refine ⟨_, rfl, hd, ?_⟩
      have HSX := Lib.hid (HG2.out.trans hd)
      clear hd y1' y2' HG2
      have hwr : IntKind.i64.wrap (yc - t) = yc - t := by unfold IntKind.wrap; simp [IntKind.bits, IntKind.signed]; omega
      iterate 3 (first | (refine L.ge_off rfl rfl rfl (by rfl) ?_) | (refine L.ge_move rfl rfl rfl (by rfl) rfl (by simp [L.evE, L.lk, Act.eval, hwr]; rfl) ?_) | (refine L.ge_pick rfl rfl rfl (by rfl) rfl (by simp [L.evE, L.lk, Act.eval, hwr]; rfl) (by simp [L.evE, L.lk, Act.eval, hwr]; rfl) ?_) | (refine L.ge_val rfl rfl rfl (by rfl) (by intro w' hw'; simp [execOp, L.evE, L.lk, Act.eval, hwr]; go_simp; rfl) ?_))
      refine L.ge_done ?_
      simp only [L.puts, Act.put, goInt, List.setIfInBounds_toArray, List.set_cons_zero, List.set_cons_succ]
      have x2 := cell_fj (HCSx.out wd HSX.out) 2 (by omega) rfl
      go_wp2_with (go_at_call 45; refine (HPT.out wd HSX.out).mono ?_; rintro e w5 ⟨B5, d5, C5, q5, rfl, hL5, hO5, h5⟩; have HS5 := Lib.hid (HSX.out.trans h5); have HL5 := Lib.hid hL5; have HO5 := Lib.hid hO5; clear h5 hL5 hO5; refine (fun (h : Hid _) => h.out) ?_)
      refine Lib.hid ?_
      clear x2
      have y2 := cell_fj (HCSy.out w5 HS5.out) 2 (by omega) rfl
      have HPX := Lib.hid (HPP.out w5 HS5.out _ _ HO5.out)
      go_wp2_with (go_at_call 43; refine HPX.out.mono ?_; rintro e w6 ⟨B6, d6, rfl, hL6, h6⟩; have HS6 := Lib.hid (HS5.out.trans h6); have HL6 := Lib.hid hL6; replace HL5 := Lib.hid (HL5.out.only h6); clear h6 hL6; refine (fun (h : Hid _) => h.out) ?_)
      refine Lib.hid ?_
      clear y2
      go_wp2
      go_ret2
      exact ⟨_, _, rfl, VAt.nil _, HS6.out⟩
  · rw [if_neg h5]
    have h5' : ¬ (5 : Int) < po.length := by omega
    as_aux_lemma =>
      go_enter Tryd.func27, Tryd.ntmps27
      go_wp2_with (go_at_call 13; refine HCK.out.mono ?_; rintro e w2 ⟨rfl, h2⟩; have HS2 := Lib.hid h2; clear h2; refine (fun (h : Hid _) => h.out) ?_)
      refine Lib.hid ?_
      go_wp2_with (go_at_call 36; refine (HPA.out w2 HS2.out).mono ?_; rintro e w3 ⟨rfl, h3⟩; have HS3 := Lib.hid (HS2.out.trans h3); clear h3; refine (fun (h : Hid _) => h.out) ?_)
      refine Lib.hid ?_
      go_wp2_with (go_at_call 36; refine (HPB.out w3 HS3.out).mono ?_; rintro e w4 ⟨rfl, h4⟩; have HS4 := Lib.hid (HS3.out.trans h4); clear h4; refine (fun (h : Hid _) => h.out) ?_)
      refine Lib.hid ?_
      go_wp2
      refine L.grow_start [] 28 ((0, true, true) :: (1, true, true) :: (2, true, true) :: (3, true, false) :: (4, true, false) :: (5, true, true) :: (6, true, true) :: (7, true, true) :: (8, true, true) :: (9, true, true) :: (10, true, true) :: (11, true, true) :: (12, true, true) :: (13, true, false) :: (14, true, false) :: (15, true, false) :: (16, true, false) :: (17, true, false) :: (18, true, false) :: (19, true, false) :: (20, true, true) :: (21, true, true) :: (22, true, true) :: (23, true, true) :: (24, true, true) :: (25, true, true) :: (26, true, true) :: (27, true, true) :: []) (by kernel_rfl) (([], [3], some 35) :: ([0], [35], some 36) :: ([1], [36], some 37) :: ([2], [3, 37], some 38) :: ([2], [0, 37], some 39) :: ([2], [10, 37], some 40) :: ([4, 5, 2], [39, 40, 37], some 41) :: ([6, 2], [41, 37], some 42) :: ([7, 2], [42, 37], some 43) :: ([8, 2, 2], [43, 37], some 44) :: ([3, 9, 2], [38, 44, 37], some 45) :: ([2, 10], [37, 45], some 46) :: ([11, 9], [46], some 47) :: ([12], [3, 47], some 48) :: ([12], [0, 47], some 49) :: ([12], [11, 47], some 50) :: ([14, 15, 12], [49, 50, 47], some 51) :: ([16, 12], [51, 47], some 52) :: ([17, 12], [52, 47], some 53) :: ([12], [0, 47], some 54) :: ([12], [11, 47], some 55) :: ([19, 20, 12], [54, 55, 47], some 56) :: ([21, 12], [56, 47], some 57) :: ([22, 12], [57, 47], some 58) :: ([23, 12, 12], [58, 47], some 59) :: ([18, 24, 12], [53, 59, 47], some 60) :: ([13, 25, 12], [48, 60, 47], some 61) :: ([12, 26], [47, 61], some 62) :: []) (by kernel_rfl) (by kernel_rfl) (n := 28) rfl (by kernel_rfl) (fun _ _ _ _ _ h => h) (fun wg hog => ?_)
      refine L.growe_start (N := 90) (by rfl) ?_
      have HG := Lib.hid (HS4.out.trans hog)
      clear hog
      have x2 : ∀ w', Only [] wg w' → w'.cell? ⟨(adx.add (i * 3)).block, (adx.add (i * 3)).off + 2, none⟩ = some (.slice A2x xl.length c2x) := fun w' h => cell_fj (HCSx.out w' (HG.out.trans h)) 2 (by omega) rfl
      have y1 : ∀ w', Only [] wg w' → w'.cell? ⟨(adx.add (k * 3)).block, (adx.add (k * 3)).off + 1, none⟩ = some (.int .i64 yc) := fun w' h => cell_fj (HCSy.out w' (HG.out.trans h)) 1 (by omega) rfl
      have y2 : ∀ w', Only [] wg w' → w'.cell? ⟨(adx.add (k * 3)).block, (adx.add (k * 3)).off + 2, none⟩ = some (.slice A2y yl.length c2y) := fun w' h => cell_fj (HCSy.out w' (HG.out.trans h)) 2 (by omega) rfl
      have hnd : ¬ n < 1 := by omega
      have hsn2 : ¬ s < n := by omega
      iterate 9 (first | (refine L.ge_off rfl rfl rfl (by rfl) ?_) | (refine L.ge_move rfl rfl rfl (by rfl) rfl (by simp [L.evE, L.lk, Act.eval]; rfl) ?_) | (refine L.ge_pick rfl rfl rfl (by rfl) rfl (by simp [L.evE, L.lk, Act.eval]; rfl) (by simp [L.evE, L.lk, Act.eval]; rfl) ?_) | (refine L.ge_val rfl rfl rfl (by rfl) (by intro w' hw'; simp [execOp, L.evE, L.lk, Act.eval]; go_simp; rfl) ?_))
      refine L.ge_call rfl rfl rfl (by rfl) rfl (by simp [L.evE, L.lk, Act.eval]; rfl) (by go_simp) ?_
      refine (HGRx.out wg HG.out).mono ?_
      rintro e wc ⟨rfl, hc⟩
      refine ⟨_, rfl, hc, ?_⟩
      have HG2 := Lib.hid (HG.out.trans hc)
      have y1' : ∀ w', Only [] wc w' → w'.cell? ⟨(adx.add (k * 3)).block, (adx.add (k * 3)).off + 1, none⟩ = some (.int .i64 yc) := fun w' h => y1 w' (hc.trans h)
      have y2' : ∀ w', Only [] wc w' → w'.cell? ⟨(adx.add (k * 3)).block, (adx.add (k * 3)).off + 2, none⟩ = some (.slice A2y yl.length c2y) := fun w' h => y2 w' (hc.trans h)
      clear x2 y1 y2 hc
      iterate 14 (first | (refine L.ge_off rfl rfl rfl (by rfl) ?_) | (refine L.ge_move rfl rfl rfl (by rfl) rfl (by simp [L.evE, L.lk, Act.eval]; rfl) ?_) | (refine L.ge_pick rfl rfl rfl (by rfl) rfl (by simp [L.evE, L.lk, Act.eval]; rfl) (by simp [L.evE, L.lk, Act.eval]; rfl) ?_) | (refine L.ge_val rfl rfl rfl (by rfl) (by intro w' hw'; simp [execOp, L.evE, L.lk, Act.eval]; go_simp; rfl) ?_))
      refine L.ge_call rfl rfl rfl (by rfl) rfl (by simp [L.evE, L.lk, Act.eval]; rfl) (by go_simp) ?_
      refine (HGRy.out wc HG2.out).mono ?_
      rintro e wd ⟨rfl, hd⟩
      refine ⟨_, rfl, hd, ?_⟩
      have HSX := Lib.hid (HG2.out.trans hd)
      clear hd y1' y2' HG2
      have hwr : IntKind.i64.wrap (yc - t) = yc - t := by unfold IntKind.wrap; simp [IntKind.bits, IntKind.signed]; omega
      iterate 3 (first | (refine L.ge_off rfl rfl rfl (by rfl) ?_) | (refine L.ge_move rfl rfl rfl (by rfl) rfl (by simp [L.evE, L.lk, Act.eval, hwr]; rfl) ?_) | (refine L.ge_pick rfl rfl rfl (by rfl) rfl (by simp [L.evE, L.lk, Act.eval, hwr]; rfl) (by simp [L.evE, L.lk, Act.eval, hwr]; rfl) ?_) | (refine L.ge_val rfl rfl rfl (by rfl) (by intro w' hw'; simp [execOp, L.evE, L.lk, Act.eval, hwr]; go_simp; rfl) ?_))
      refine L.ge_done ?_
      simp only [L.puts, Act.put, goInt, List.setIfInBounds_toArray, List.set_cons_zero, List.set_cons_succ]
      have x2 := cell_fj (HCSx.out wd HSX.out) 2 (by omega) rfl
      go_wp2_with (go_at_call 45; refine (HPT.out wd HSX.out).mono ?_; rintro e w5 ⟨B5, d5, C5, q5, rfl, hL5, hO5, h5⟩; have HS5 := Lib.hid (HSX.out.trans h5); have HL5 := Lib.hid hL5; have HO5 := Lib.hid hO5; clear h5 hL5 hO5; refine (fun (h : Hid _) => h.out) ?_)
      refine Lib.hid ?_
      clear x2
      have y2 := cell_fj (HCSy.out w5 HS5.out) 2 (by omega) rfl
      have HPX := Lib.hid (HPP.out w5 HS5.out _ _ HO5.out)
      go_wp2_with (go_at_call 43; refine HPX.out.mono ?_; rintro e w6 ⟨B6, d6, rfl, hL6, h6⟩; have HS6 := Lib.hid (HS5.out.trans h6); have HL6 := Lib.hid hL6; replace HL5 := Lib.hid (HL5.out.only h6); clear h6 hL6; refine (fun (h : Hid _) => h.out) ?_)
      refine Lib.hid ?_
      clear y2
      have HWX := Lib.hid (HWT.out w6 HS6.out _ _ HL5.out)
      go_wp2_with (go_at_call 44; refine HWX.out.mono ?_; rintro e w7 ⟨B7, d7, rfl, hV7, h7⟩; have HS7 := Lib.hid (HS6.out.trans h7); have HV7 := Lib.hid hV7; replace HL6 := Lib.hid (HL6.out.only h7); clear h7 hV7; refine (fun (h : Hid _) => h.out) ?_)
      refine Lib.hid ?_
      have HWY := Lib.hid (HWV.out w7 B7 d7 HV7.out _ _ HL6.out)
      go_wp2_with (go_at_call 44; refine HWY.out.mono ?_; rintro e w8 ⟨B8, d8, rfl, hV8, h8⟩; have HS8 := Lib.hid (HS7.out.trans h8); have HV8 := Lib.hid hV8; clear h8 hV8)
      go_ret2
      exact ⟨B8, d8, by rw [HLM.out]; rfl, HV8.out, HS8.out⟩
end Go.Proofs.YtejecmjajdhiiaaDoor.Print
/-! ### LgWalk2 -/
namespace Go.Proofs.YtejecmjajdhiiaaDoor.Print
open Go.RowKit Go.Proofs.YtejecmjajdhiiaaDoorW.PrintWords Go.Proofs.YtejecmjajdhiiaaDoorW.PrintLast Go.Proofs.YtejecmjajdhiiaaDoorW.PrintMore
set_option linter.unusedSimpArgs false
set_option linter.unusedVariables false
attribute [local go_sem high] beq_self_eq_true
theorem charge_lite {l : List S25} (hl : Lite l) (a b : ByteArray) (hb : b.size ≤ 1000000000) (n : Int) : Lite (chargeM l a b n).1 := by
  rcases chargeM_cases l a b n with ⟨e, _, h⟩ | ⟨k, y, hg, hn, hy, h1, h2, h5, h⟩
  · rw [h]; exact Lite.nil
  · rw [h]
    have hly := hl.all y (List.mem_of_getElem? hy)
    refine hl.turn hy (by omega) (fun z hz => ?_)
    rcases pour_names _ y.f2 z hz with h | ⟨q, h1, h2⟩
    · rw [h]; exact hb
    · rw [← h2]; exact hly.lots q h1
theorem move_lite {l : List S25} (hl : Lite l) (a b : ByteArray) (n : Int) : Lite (moveM l a b n).1 := by
  rcases moveM_cases l hl a b n with ⟨e, _, h⟩ | ⟨i, k, x, y, hg, hne, hx, hy, h1, h2, h3, h5, h⟩
  · rw [h]; exact Lite.nil
  · rw [h]
    have g1 := (draw_good hl hg hx h1 h2).1
    obtain ⟨p1, p2, p3, p4, p5⟩ := (vesB_iff x).1 (hg.all i x hx).1
    have hout := takeM_out x.f2 none n p4
    have hlx := hl.all x (List.mem_of_getElem? hx)
    have hly := hl.all y (List.mem_of_getElem? hy)
    have hy' : (l.set i (turned x (takeM x.f2 n).1))[k]? = some y := by rw [List.getElem?_set_ne (Ne.symm hne)]; exact hy
    exact g1.turn hy' (m := poursM y.f2 (takeM x.f2 n).2) (by omega) (fun z hz => by
      rcases pours_names _ _ z hz with ⟨q, a1, a2⟩ | ⟨q, a1, a2⟩
      · obtain ⟨_, _, r, a3, a4⟩ := hout q a1
        rw [← a2, ← a4]
        exact hlx.lots r a3
      · rw [← a2]
        exact hly.lots q a1)
theorem draw_lots {l : List S25} (hl : Lite l) (a : ByteArray) (n : Int) : (drawM l a n).2.1.length ≤ 1000 := by
  rcases drawM_cases l a n with ⟨e, _, h⟩ | ⟨i, x, hg, hx, _, h1, h2, h⟩
  · rw [h]; simp
  · rw [h]
    have h3 := takeM_len x.f2 n
    have h4 := (hl.all x (List.mem_of_getElem? hx)).len
    show (takeM x.f2 n).2.length ≤ 1000
    omega
theorem names_c (w : World) (o : S41) : Calls Tryd.prog 21 #[.agg #[.int .i64 o.f0, .string o.f1, .string o.f2, .string o.f3, .int .i64 o.f4]] w fun e w' => e = .returned (.bool (nameO o)) ∧ Only [] w w' :=
  (malthouselaw13_names.calls o.f0 o.f1 o.f2 o.f3 o.f4 _ w (names_is o)).mono fun _ _ h => ⟨h.1, .of_below h.2⟩
set_option maxHeartbeats 8000000 in
set_option maxRecDepth 100000 in
theorem does_any (A0 : Option Addr) (c0 : Nat) (l0 : List S25) (o : S41) (w : World) (h0 : VAt w A0 c0 l0) (hT : Tabs w) (hr : ∀ x ∈ l0, -9223372036854775808 ≤ x.f1 ∧ x.f1 ≤ 9223372036854775807) :
    Calls Tryd.prog 5 #[.slice A0 l0.length c0, .agg #[.int .i64 o.f0, .string o.f1, .string o.f2, .string o.f3, .int .i64 o.f4]] w fun e w' => e = .returned (.bool true) ∧ Below w.heap.size w w' := by
  have HV := Lib.hid h0
  have HT := Lib.hid hT
  have HR := Lib.hid hr
  obtain ⟨lb, hb⟩ : ∃ b, lightM l0 = b := ⟨_, rfl⟩
  obtain ⟨nb, hn⟩ : ∃ b, nameO o = b := ⟨_, rfl⟩
  have HB := Lib.hid hb
  have HNB := Lib.hid hn
  have HAW := Lib.hid (fun (W : World) (h : Only [] w W) => awake_c W (hT.below h.nil_below))
  have HLI := Lib.hid (show ∀ W, Only [] w W → Calls Tryd.prog 11 #[.slice A0 l0.length c0] W fun e w' => e = .returned (.bool lb) ∧ Only [] W w' from fun W h => hb ▸ light_c (h0.only h))
  have HNM := Lib.hid (show ∀ W, Calls Tryd.prog 21 #[.agg #[.int .i64 o.f0, .string o.f1, .string o.f2, .string o.f3, .int .i64 o.f4]] W fun e w' => e = .returned (.bool nb) ∧ Only [] W w' from fun W => hn ▸ names_c W o)
  clear h0 hT hr hb hn
  go_enter Tryd.func5, Tryd.ntmps5
  go_wp2_with (go_at_call 10; refine (fun (h : Hid _) => h.out) ?_)
  refine Lib.hid ?_
  have HS := Lib.hid ((St.nil w).alloc [.int .i64 o.f0, .string o.f1, .string o.f2, .string o.f3, .int .i64 o.f4] 41)
  simp only [List.nil_append] at HS
  generalize hW : w.alloc (.cells #[.int .i64 o.f0, .string o.f1, .string o.f2, .string o.f3, .int .i64 o.f4] 41) = W0 at *
  clear hW
  have HS0 := Lib.hid HS.out.only
  refine (HAW.out W0 HS0.out).mono ?_
  rintro e W1 ⟨rfl, h1⟩
  replace HS := Lib.hid (HS.out.keep h1)
  clear h1 HS0
  simp only []
  have HS1 := Lib.hid HS.out.only
  go_wp2_with (go_at_call 11; refine (HLI.out W1 HS1.out).mono ?_; rintro e w2 ⟨rfl, h2⟩; replace HS := Lib.hid (HS.out.keep h2); clear h2; refine (fun (h : Hid _) => h.out) ?_)
  refine Lib.hid ?_
  clear HAW HLI HS1
  have HC0 := Lib.hid (HS.out.cells 0 rfl)
  go_wp2_with (first
    | (with_reducible refine wpList_load_at rfl 41 (.tmp 3) rfl ⟨w.heap.size, 0, none⟩ rfl _ _ HC0.out Tryd.underlying41 rfl (by kernel_rfl) ?_)
    | (go_at_call 21; refine (HNM.out w2).mono ?_; rintro e w3 ⟨rfl, h3⟩; replace HS := Lib.hid (HS.out.keep h3); clear h3; refine (fun (h : Hid _) => h.out) ?_))
  refine Lib.hid ?_
  clear HNM HC0
  cases lb
  · have HS4 := Lib.hid HS.out.only
    go_wp2
    go_ret
    exact ⟨rfl, HS4.out.nil_below⟩
  cases nb
  · have HS4 := Lib.hid HS.out.only
    go_wp2
    go_ret
    exact ⟨rfl, HS4.out.nil_below⟩
  have hL : Lite l0 := lite_of HB.out HR.out
  have hSl := slim_of HB.out
  have hno := HNB.out
  unfold nameO at hno
  simp only [Bool.and_eq_true, decide_eq_true_eq] at hno
  have hb3 : o.f3.size ≤ 200 := hno.2
  obtain ⟨kd, na, nb, nl, ng⟩ := o
  dsimp only at hb3 HS
  have HL := Lib.hid hL
  have HSL := Lib.hid hSl
  have HB3 := Lib.hid hb3
  clear hL hSl hb3 hno HB HNB HR
  have HS3 := Lib.hid HS.out.only
  have HCP := Lib.hid (copy_c (HV.out.only HS3.out) HL.out)
  go_wp2_with (go_at_call 22; refine HCP.out.mono ?_; rintro e w4 ⟨C, q, rfl, hO, h4⟩; replace HS := Lib.hid (HS.out.keep h4); have HO := Lib.hid hO; have HS4 := Lib.hid (HS3.out.trans h4); clear h4 hO; refine (fun (h : Hid _) => h.out) ?_)
  refine Lib.hid ?_
  clear HCP HS3
  have K1 := Lib.hid (fun (W : World) (h : Only [] w4 W) => charge_c (HO.out.only h) (HT.out.below (HS4.out.trans h).nil_below) HL.out na nl ng (by have := HB3.out; omega))
  have K2 := Lib.hid (fun (W : World) (h : Only [] w4 W) => rcharge_c (HV.out.only (HS4.out.trans h)) HL.out HSL.out na nl HB3.out ng)
  have K3 := Lib.hid (fun (W : World) (h : Only [] w4 W) => draw_c (HO.out.only h) (HT.out.below (HS4.out.trans h).nil_below) HL.out na ng)
  have K4 := Lib.hid (fun (W : World) (h : Only [] w4 W) => rdraw_c (HV.out.only (HS4.out.trans h)) HL.out HSL.out na ng)
  have K5 := Lib.hid (fun (W : World) (h : Only [] w4 W) => move_c (HO.out.only h) (HT.out.below (HS4.out.trans h).nil_below) HL.out na nb ng)
  have K6 := Lib.hid (fun (W : World) (h : Only [] w4 W) => rmove_c (HV.out.only (HS4.out.trans h)) HL.out HSL.out na nb ng)
  have L1 := Lib.hid (charge_lite HL.out na nl (by have := HB3.out; omega) ng)
  have L2 := Lib.hid (draw_lite HL.out na ng)
  have L3 := Lib.hid (draw_lots HL.out na ng)
  have L4 := Lib.hid (move_lite HL.out na nb ng)
  generalize chargeM l0 na nl ng = D1 at *
  generalize drawM l0 na ng = D2 at *
  generalize moveM l0 na nb ng = D3 at *
  obtain ⟨m1, e1⟩ := D1
  obtain ⟨m2, o2, e2⟩ := D2
  obtain ⟨m3, e3⟩ := D3
  dsimp only at K1 K2 K3 K4 K5 K6 L1 L2 L3 L4
  have HG0 := Lib.hid (Only.refl [] w4)
  have z1 := HS.out.cell 0 1 rfl rfl
  have z3 := HS.out.cell 0 3 rfl rfl
  have z4 := HS.out.cell 0 4 rfl rfl
  go_wp2_with (go_at_call 23; refine (K1.out w4 HG0.out).mono ?_; rintro e w5 ⟨B1, d1, rfl, hv, hh⟩; replace HS := Lib.hid (HS.out.keep hh); have HG1 := Lib.hid (HG0.out.trans hh);  have V1 := Lib.hid hv; clear hv; clear hh; refine (fun (h : Hid _) => h.out) ?_)
  refine Lib.hid ?_
  clear HG0 z1 z3 z4
  have z1 := HS.out.cell 0 1 rfl rfl
  have z3 := HS.out.cell 0 3 rfl rfl
  have z4 := HS.out.cell 0 4 rfl rfl
  go_wp2_with (go_at_call 24; refine (K2.out w5 HG1.out).mono ?_; rintro e w6 ⟨B2, d2, rfl, hv, hh⟩; replace HS := Lib.hid (HS.out.keep hh); have HG2 := Lib.hid (HG1.out.trans hh); replace V1 := Lib.hid (V1.out.only hh); have V2 := Lib.hid hv; clear hv; clear hh; refine (fun (h : Hid _) => h.out) ?_)
  refine Lib.hid ?_
  clear HG1 z1 z3 z4
  go_wp2_with (go_at_call 19; refine (same_c V1.out V2.out L1.out).mono ?_; rintro e w7 ⟨rfl, hh⟩; replace HS := Lib.hid (HS.out.keep hh); have HG3 := Lib.hid (HG2.out.trans hh);   clear hh; refine (fun (h : Hid _) => h.out) ?_)
  refine Lib.hid ?_
  clear HG2
  have z1 := HS.out.cell 0 1 rfl rfl
  have z4 := HS.out.cell 0 4 rfl rfl
  go_wp2_with (go_at_call 18; refine (K3.out w7 HG3.out).mono ?_; rintro e w8 ⟨B3, d3, C3, q3, rfl, hv, ⟨hu, _⟩, hh⟩; replace HS := Lib.hid (HS.out.keep hh); have HG4 := Lib.hid (HG3.out.trans hh);  have V3 := Lib.hid hv; have U3 := Lib.hid hu; clear hv hu; clear hh; refine (fun (h : Hid _) => h.out) ?_)
  refine Lib.hid ?_
  clear HG3 z1 z4
  have z1 := HS.out.cell 0 1 rfl rfl
  have z4 := HS.out.cell 0 4 rfl rfl
  go_wp2_with (go_at_call 25; refine (K4.out w8 HG4.out).mono ?_; rintro e w9 ⟨B4, d4, C4, q4, rfl, hv, hu, hh⟩; replace HS := Lib.hid (HS.out.keep hh); have HG5 := Lib.hid (HG4.out.trans hh); replace V3 := Lib.hid (V3.out.only hh); replace U3 := Lib.hid (U3.out.only hh); have V4 := Lib.hid hv; have U4 := Lib.hid hu; clear hv hu; clear hh; refine (fun (h : Hid _) => h.out) ?_)
  refine Lib.hid ?_
  clear HG4 z1 z4
  go_wp2_with (go_at_call 19; refine (same_c V3.out V4.out L2.out).mono ?_; rintro e w10 ⟨rfl, hh⟩; replace HS := Lib.hid (HS.out.keep hh); have HG6 := Lib.hid (HG5.out.trans hh); replace U3 := Lib.hid (U3.out.only hh); replace U4 := Lib.hid (U4.out.only hh);  clear hh; refine (fun (h : Hid _) => h.out) ?_)
  refine Lib.hid ?_
  clear HG5
  go_wp2_with (go_at_call 20; refine (lots_c U3.out U4.out L3.out).mono ?_; rintro e w11 ⟨rfl, hh⟩; replace HS := Lib.hid (HS.out.keep hh); have HG7 := Lib.hid (HG6.out.trans hh);   clear hh; refine (fun (h : Hid _) => h.out) ?_)
  refine Lib.hid ?_
  clear HG6
  have z1 := HS.out.cell 0 1 rfl rfl
  have z2 := HS.out.cell 0 2 rfl rfl
  have z4 := HS.out.cell 0 4 rfl rfl
  go_wp2_with (go_at_call 26; refine (K5.out w11 HG7.out).mono ?_; rintro e w12 ⟨B5, d5, rfl, hv, hh⟩; replace HS := Lib.hid (HS.out.keep hh); have HG8 := Lib.hid (HG7.out.trans hh);  have V5 := Lib.hid hv; clear hv; clear hh; refine (fun (h : Hid _) => h.out) ?_)
  refine Lib.hid ?_
  clear HG7 z1 z2 z4
  have z1 := HS.out.cell 0 1 rfl rfl
  have z2 := HS.out.cell 0 2 rfl rfl
  have z4 := HS.out.cell 0 4 rfl rfl
  go_wp2_with (go_at_call 27; refine (K6.out w12 HG8.out).mono ?_; rintro e w13 ⟨B6, d6, rfl, hv, hh⟩; replace HS := Lib.hid (HS.out.keep hh); have HG9 := Lib.hid (HG8.out.trans hh); replace V5 := Lib.hid (V5.out.only hh); have V6 := Lib.hid hv; clear hv; clear hh; refine (fun (h : Hid _) => h.out) ?_)
  refine Lib.hid ?_
  clear HG8 z1 z2 z4
  go_wp2_with (go_at_call 19; refine (same_c V5.out V6.out L4.out).mono ?_; rintro e w14 ⟨rfl, hh⟩; replace HS := Lib.hid (HS.out.keep hh); have HG10 := Lib.hid (HG9.out.trans hh);   clear hh; refine (fun (h : Hid _) => h.out) ?_)
  refine Lib.hid ?_
  clear HG9
  go_wp2_with (go_at_call 19; refine (same_c (HO.out.only HG10.out) (HV.out.only (HS4.out.trans HG10.out)) HL.out).mono ?_; rintro e w15 ⟨rfl, hh⟩; replace HS := Lib.hid (HS.out.keep hh); have HG11 := Lib.hid (HG10.out.trans hh);   clear hh; refine (fun (h : Hid _) => h.out) ?_)
  refine Lib.hid ?_
  clear HG10
  have HZ := Lib.hid (HS4.out.trans HG11.out)
  go_wp2
  go_ret
  exact ⟨rfl, HZ.out.nil_below⟩
theorem op_in {w : World} {cs : Array Value} {y : OpR} (hz : cs.size = 5) (r : rOp w (Value.agg cs).cells.toList y) : cs = #[.int .i64 (gOp y).f0, .string (gOp y).f1, .string (gOp y).f2, .string (gOp y).f3, .int .i64 (gOp y).f4] := by
  have e0 : (Value.agg cs).cells.toList = cs.toList := rfl
  rw [e0] at r
  obtain ⟨a, b, c, d, e, h3⟩ := len5 (es := cs.toList) (by simpa using hz)
  rw [h3] at r
  obtain ⟨⟨h1, _⟩, ⟨h2, _⟩, ⟨h4, _⟩, ⟨h5, _⟩, ⟨h6, _⟩, _⟩ := r
  simp at h1 h2 h4 h5 h6
  subst h1 h2 h4 h5 h6
  exact Array.toList_inj.1 h3
theorem ledgerDoes_walk (A0 : Option Addr) (cap0 : Nat) (y0 : List VesR) (cs1 : Array Value) (y1 : OpR) (w : World) (hl0 : y0.length ≤ cap0) (hb0 : cap0 * 48 ≤ 140737488351232) (hr0 : rdRow 3 rVes w A0 y0) (hz1 : cs1.size = Tryd.prog.cellsOf 41) (r1 : rOp w (Value.agg cs1).cells.toList y1) (hT : Tabs w) :
    Calls Tryd.prog 5 #[.slice A0 y0.length cap0, .agg cs1] w fun e w' => e = .returned (.bool true) ∧ Below w.heap.size w w' := by
  obtain rfl := op_in (hz1.trans (by kernel_rfl)) r1
  have h := does_any A0 cap0 (y0.map gVes) (gOp y1) w (vess_at hl0 hb0 hr0) hT (ves_range hr0)
  rw [List.length_map] at h
  exact h
end Go.Proofs.YtejecmjajdhiiaaDoor.Print
/-! ### LedgerDoesRow -/
namespace Go.Proofs.YtejecmjajdhiiaaDoor.ledgerDoes
open Go.ChangeShapes Go.WideShapes Go.ChangeAt Go.RowKit Go.Shelf Go.Lib Go.Proofs.YtejecmjajdhiiaaDoor.Print
open Go.ChangeMaps (open_string shut_string)
set_option linter.unusedVariables false
set_option linter.unusedSimpArgs false
theorem own : ownKnob Tryd.prog.godebug = none := by kernel_rfl
theorem laidOut : laidOutB Tryd.prog = true := by kernel_rfl
set_option maxRecDepth 100000 in
theorem lifted (os : Os) (started : os.Started) (H : Type) (enc : TypeId × Value → H) :
    ReturnsInHanded {} Tryd.checked os 5 .any (fun w args => (Rows.ledgerDoesSpec.pre enc Tryd.prog Tryd.f5 [] false w args ∧ laidMetH Tryd.prog Rows.ledgerDoesRow.laid w) ∧ sizedMet enc Tryd.prog Tryd.f5 (OpenSpec.ofChange Rows.ledgerDoesSpec) false w args) (Rows.ledgerDoesSpec.post enc Tryd.prog Tryd.f5 false true false false) := by
  refine returnsInHanded_of_change_and (C := Tryd.checked) (X := fun w _ => laidMetH Tryd.prog Rows.ledgerDoesRow.laid w) (fun _ _ _ hh h => h.of_heap hh) own started (by kernel_rfl) Tryd.func5
    (ChangeSpec.witness_shaped (enc := enc) (C := Tryd.checked) (os := os) (X := fun w _ => laidMetH Tryd.prog Rows.ledgerDoesRow.laid w) false (World.laidAll Tryd.prog os Rows.ledgerDoesRow.laid) #[.slice none 0 0, .agg #[.int .i64 0, .string ByteArray.empty, .string ByteArray.empty, .string ByteArray.empty, .int .i64 0]] 8 (World.laidAll_os _ _ _)
      (World.shaped_of_ZipB (by kernel_rfl) (by kernel_rfl)) (by kernel_rfl) (by kernel_rfl) (by kernel_rfl)
      (by rw [MakeChecks.laidMetH_plain _ _ _ (by kernel_rfl)]; exact laidMet_laidAll _ (by kernel_rfl) (by kernel_rfl))) ?_
  intro W base args ds gs before hval0 hW hcnd hsz0 hL0 _
  have hL : laidMet Tryd.prog Rows.ledgerDoesRow.laid W := by
    have h := hL0
    rw [MakeChecks.laidMetH_plain _ _ _ (by kernel_rfl)] at h
    exact h
  have hT : Tabs W := utf8Tabs_of_readsT (U8Types.of196 Tryd.laysValid) ⟨by kernel_rfl, by kernel_rfl, by kernel_rfl, by kernel_rfl, by kernel_rfl, by kernel_rfl, by kernel_rfl⟩ (Pinned.utf8First_eq ▸ Lib.laidMet.reads hL (.tail _ (.head _))) ((show Rows.laid_unicode_utf8_acceptRanges = acceptData from rfl) ▸ Lib.laidMet.reads hL (.head _))
  have hsz : (DataW.weightsEach Tryd.prog (Tryd.f5.params.toList ++ Rows.ledgerDoesSpec.plain.varTypes Tryd.prog) (ds ++ gs)).all (· ≤ reachBytes) = true := hsz0
  have hval : ∀ (j : Nat) t v, Tryd.f5.params[j]? = some t → args[j]? = some v → Value.okWide Tryd.prog W .any base t v := hval0
  have hW' := hW
  obtain ⟨p, q, hA0, hV, rfl, hfz, hnd⟩ := hW
  have hA : DataW.TrodAll enc Tryd.prog W 0 (fun _ => true) true Tryd.f5.params.toList args.toList ds p := hA0
  rw [Tryd.params5] at hA hval hsz
  obtain ⟨v0, vs0, d0, ds0, p0, q0, hargs, rfl, rfl, h0, r0⟩ := trodAll_cons hA
  obtain ⟨v1, vs1, d1, ds1, p1, q1, rfl, rfl, rfl, h1, r1⟩ := trodAll_cons r0
  obtain ⟨rfl, rfl, rfl⟩ := trodAll_nil r1
  obtain rfl : args = #[v0, v1] := by cases args; simp_all
  obtain ⟨rfl, rfl⟩ := trodVars_none hV
  have k0 := h0
  have lt0 : ∀ x ∈ p0, x.block < W.heap.size := by obtain ⟨m, hm⟩ := k0; exact DataW.trod_lt m _ _ _ hm
  obtain ⟨y0, r0_⟩ := opens_arg (vess_opens enc W) h0 (weights_each hsz (j := 0) (t := 22) rfl rfl)
  obtain ⟨A0, len0, cap0, rfl⟩ := okWide_slice Tryd.underlying22 (hval 0 22 v0 rfl rfl)
  obtain ⟨A0_, cap0_, e0, hl0, hb0, hm0, hr0⟩ := r0_
  simp only [Value.cells, List.cons.injEq, Value.slice.injEq, and_true] at e0
  obtain ⟨rfl, rfl, rfl⟩ := e0
  have k1 := h1
  have lt1 : ∀ x ∈ p1, x.block < W.heap.size := by obtain ⟨m, hm⟩ := k1; exact DataW.trod_lt m _ _ _ hm
  obtain ⟨y1, r1_⟩ := opens_arg (op_opens enc W) h1 (weights_each hsz (j := 1) (t := 41) rfl rfl)
  obtain ⟨cs1, rfl, hz1⟩ := okWide_struct Tryd.underlying41 (hval 1 41 v1 rfl rfl)
  clear hA0 hval0 hsz0 hsz
  refine (ledgerDoes_walk A0 cap0 y0 cs1 y1 W hl0 hb0 hr0 hz1 r1_ hT).mono fun e W' ⟨he, bel⟩ => ?_
  subst he
  exact ⟨_, rfl, _, _, _, [], _, [], hW', trodAll_mk1 (shut_bool Tryd.underlying4 _), (trodAll_cons_mk (Below.trod laidOut (by kernel_rfl) (of_decide_eq_true (by kernel_rfl)) k0 bel lt0) (trodAll_cons_mk (Below.trod laidOut (by kernel_rfl) (of_decide_eq_true (by kernel_rfl)) k1 bel lt1) trodAll_mk0)), rfl, bel.frame _, fun h => by cases h⟩
theorem over : Rows.ledgerDoesRow.holds Tryd.pinned (OpenSpec.ofChange Rows.ledgerDoesSpec) :=
  OpenClaim.holds_of_wide 5 Tryd.f5 rfl rfl rfl rfl rfl rfl rfl ⟨rfl, rfl, rfl, rfl, rfl⟩ rfl rfl rfl rfl rfl (by kernel_rfl) Tryd.func5 (by kernel_rfl)
    (of_decide_eq_true (by kernel_rfl)) (by unfold Func.isWrapper; first | (rw [if_pos (by decide +kernel)]; kernel_rfl) | (rw [if_neg (by decide +kernel)]; exact ⟨rfl, rfl⟩))
    (fun os started H enc _ => lifted os started H enc)
theorem card_holds : Claim7.holds Tryd.pinned (.plain (OpenSpec.ofChange Rows.ledgerDoesSpec)) Rows.ledgerDoesCard :=
  Claim7.holds_tied_plain_at .later [] [.data, .pinned] true (true, "1e2c74985228763f400c529450084ef6c0ff92b2eeb5cdba4427b354947f12d5") false over (fun _ h => by cases h) (by kernel_rfl) (fun _ h => by cases h) ledgerDoes_row_tie rfl ⟨rfl, rfl⟩ (by kernel_rfl) rfl
    (fun f fn hf hfn => by
      obtain rfl : f = 5 := Option.some.inj ((show Tryd.prog.funcNamed "malthouse/malthouselaw13.LedgerDoes" = some 5 by kernel_rfl).symm.trans hf) |>.symm
      obtain rfl : fn = Tryd.f5 := (Option.some.inj (Tryd.func5.symm.trans hfn)).symm
      exact ⟨by kernel_rfl, fun j t ht => by
        rw [Tryd.params5] at ht
        have hm : t ∈ [22, 41] := by simpa using Array.mem_of_getElem? ht
        have hall : ([22, 41].all fun u => !Tryd.prog.wantsStandIn u) = true := by kernel_rfl
        exact (show Tryd.prog.wantsStandIn t = false by simpa using List.all_eq_true.1 hall t hm)⟩)
    (by kernel_rfl)
theorem proved : Rows.LedgerDoesCardSaid := card_holds
#print axioms proved
end Go.Proofs.YtejecmjajdhiiaaDoor.ledgerDoes
namespace Go.Proofs.YtejecmjajdhiiaaDoor
/-- The card, under a short name, for the claim. -/
theorem ledgerDoes_holds : Rows.LedgerDoesCardSaid := ledgerDoes.proved
end Go.Proofs.YtejecmjajdhiiaaDoor
