/-
  A record more among records whose keys rise. No program in sight.
-/
import Derived.Test.YthkgpnkbbdpldaaPgRound
namespace Go.Proofs.Ythkgpnkbbdpldaa
open Go.RowKit
set_option linter.unusedSimpArgs false
set_option linter.unusedVariables false
theorem rises_snoc {l : List Rec} {a : Rec} (h : rises l = true) (hl : ∀ z, l.getLast? = some z → before z.1 a.1 = true) : rises (l ++ [a]) = true := by
  induction l with
  | nil => rfl
  | cons x l ih =>
    match l with
    | [] =>
      have := hl x rfl
      simp [rises, this]
    | y :: l =>
      rw [rises, Bool.and_eq_true] at h
      have := ih h.2 (fun z hz => hl z (by rw [List.getLast?_cons_cons]; exact hz))
      show (before x.1 y.1 && rises (y :: l ++ [a])) = true
      rw [h.1]
      exact this
/-- The list so far: is the new record in it, and the records. -/
def insStep (x : Rec) (s : Bool × List Rec) (y : Rec) : Bool × List Rec := if s.1 = false ∧ before x.1 y.1 = true then (true, s.2 ++ [x, y]) else (s.1, s.2 ++ [y])
def ins (x : Rec) (xs : List Rec) : Bool × List Rec := xs.foldl (insStep x) (false, [])
def insAll (x : Rec) (xs : List Rec) : List Rec := if (ins x xs).1 = true then (ins x xs).2 else (ins x xs).2 ++ [x]
theorem ins_take (x : Rec) (xs : List Rec) (k : Nat) (h : k < xs.length) : ins x (xs.take (k + 1)) = insStep x (ins x (xs.take k)) xs[k] := by
  unfold ins
  rw [List.take_succ_eq_append_getElem h, List.foldl_append]
  rfl
structure InsOk (x : Rec) (xs : List Rec) (s : Bool × List Rec) : Prop where
  up : rises s.2 = true
  last : xs.length = 0 ∧ s.2 = [] ∨ s.2.getLast? = xs.getLast?
  under : s.1 = false → ∀ z, s.2.getLast? = some z → before z.1 x.1 = true
  sum : tot s.2 = tot xs + if s.1 = true then slots x else 0
  good : bad s.2 = (bad xs || (s.1 && slots x == 0))
  len : s.2.length = xs.length + if s.1 = true then 1 else 0
theorem before_of_not {a b : ByteArray} (h : before a b = false) (hne : a ≠ b) : before b a = true := by
  have h1 := before_not a b
  rw [h] at h1
  simp only [Bool.not_false] at h1
  rcases Bool.or_eq_true_iff.1 h1.symm with h2 | h2
  · exact h2
  · exfalso
    rw [ByteArray.toList_eq, ByteArray.toList_eq] at h2
    have h3 : b.data.toList = a.data.toList := by simpa using h2
    apply hne
    obtain ⟨⟨a⟩⟩ := a
    obtain ⟨⟨b⟩⟩ := b
    simp at h3
    rw [h3]
theorem getLast_snoc (l : List Rec) (a : Rec) : (l ++ [a]).getLast? = some a := by simp
theorem InsOk.step {x : Rec} {xs : List Rec} {s : Bool × List Rec} (h : InsOk x xs s) {y : Rec} (hne : y.1 ≠ x.1) (hup : ∀ z, xs.getLast? = some z → before z.1 y.1 = true) : InsOk x (xs ++ [y]) (insStep x s y) := by
  have hlast : ∀ z, s.2.getLast? = some z → before z.1 y.1 = true := by
    intro z hz
    rcases h.last with ⟨_, h2⟩ | h2
    · rw [h2] at hz; cases hz
    · exact hup z (by rw [← h2]; exact hz)
  by_cases hc : s.1 = false ∧ before x.1 y.1 = true
  · have e : insStep x s y = (true, s.2 ++ [x, y]) := by unfold insStep; rw [if_pos hc]
    rw [e]
    have e2 : s.2 ++ [x, y] = (s.2 ++ [x]) ++ [y] := by simp
    refine ⟨?_, .inr ?_, fun h => (by cases h), ?_, ?_, ?_⟩
    · show rises (s.2 ++ [x, y]) = true
      rw [e2]
      refine rises_snoc (rises_snoc h.up (h.under hc.1)) (fun z hz => ?_)
      rw [getLast_snoc] at hz
      obtain rfl := Option.some.inj hz
      exact hc.2
    · show (s.2 ++ [x, y]).getLast? = _
      rw [e2, getLast_snoc, getLast_snoc]
    · show tot (s.2 ++ [x, y]) = _
      rw [e2, tot_append, tot_append, tot_one, tot_one, h.sum, hc.1, tot_append, tot_one]
      simp
      omega
    · show bad (s.2 ++ [x, y]) = _
      rw [e2, bad_append, bad_append, bad_one, bad_one, h.good, hc.1, bad_append, bad_one]
      cases bad xs <;> cases (slots x == 0) <;> cases (slots y == 0) <;> rfl
    · show (s.2 ++ [x, y]).length = _
      rw [e2, List.length_append, List.length_append, h.len, hc.1]
      simp
  · have e : insStep x s y = (s.1, s.2 ++ [y]) := by unfold insStep; rw [if_neg hc]
    rw [e]
    refine ⟨rises_snoc h.up hlast, .inr ?_, fun h1 z hz => ?_, ?_, ?_, ?_⟩
    · show (s.2 ++ [y]).getLast? = _
      rw [getLast_snoc, getLast_snoc]
    · have hz : (s.2 ++ [y]).getLast? = some z := hz
      rw [getLast_snoc] at hz
      obtain rfl := Option.some.inj hz
      refine before_of_not ?_ (fun e => hne e.symm)
      cases hb : before x.1 y.1 with
      | false => rfl
      | true => exact absurd ⟨h1, hb⟩ hc
    · show tot (s.2 ++ [y]) = _
      rw [tot_append, tot_one, h.sum, tot_append, tot_one]
      split <;> omega
    · show bad (s.2 ++ [y]) = _
      rw [bad_append, bad_one, h.good, bad_append, bad_one]
      cases bad xs <;> cases s.1 <;> cases (slots x == 0) <;> cases (slots y == 0) <;> rfl
    · show (s.2 ++ [y]).length = _
      rw [List.length_append, h.len, List.length_append]
      simp
      split <;> omega
theorem InsOk.nil (x : Rec) : InsOk x [] (false, []) := ⟨rfl, .inl ⟨rfl, rfl⟩, fun _ z hz => (by cases hz), rfl, rfl, rfl⟩
theorem ins_ok {x : Rec} {xs : List Rec} (hup : rises xs = true) (hne : ∀ y ∈ xs, y.1 ≠ x.1) (k : Nat) (hk : k ≤ xs.length) : InsOk x (xs.take k) (ins x (xs.take k)) := by
  induction k with
  | zero => exact InsOk.nil x
  | succ k ih =>
    have h := ih (by omega)
    rw [ins_take x xs k (by omega), List.take_succ_eq_append_getElem (by omega)]
    refine h.step (hne _ (List.getElem_mem _)) (fun z hz => ?_)
    match k, hk, hz with
    | 0, hk, hz => simp at hz
    | j + 1, hk, hz =>
      rw [List.take_succ_eq_append_getElem (by omega), getLast_snoc] at hz
      obtain rfl := Option.some.inj hz
      have h1 : rises (xs.take (j + 2)) = true := by
        cases hr : rises (xs.take (j + 2)) with
        | true => rfl
        | false => rw [rises_of_take (j + 2) hr] at hup; cases hup
      rw [rises_take xs j (by omega), Bool.and_eq_true] at h1
      exact h1.2
/-- The whole list has it in its place. -/
theorem insAll_ok {x : Rec} {xs : List Rec} (hup : rises xs = true) (hbad : bad xs = false) (hne : ∀ y ∈ xs, y.1 ≠ x.1) (hs : slots x ≠ 0) :
    rises (insAll x xs) = true ∧ bad (insAll x xs) = false ∧ tot (insAll x xs) = tot xs + slots x ∧ (insAll x xs).length = xs.length + 1 := by
  have h := ins_ok hup hne xs.length (Nat.le_refl _)
  rw [List.take_length] at h
  have hsb : (slots x == 0) = false := by rw [beq_eq_false_iff_ne]; exact hs
  unfold insAll
  by_cases hc : (ins x xs).1 = true
  · rw [if_pos hc]
    refine ⟨h.up, ?_, ?_, ?_⟩
    · rw [h.good, hbad, hsb]; simp
    · rw [h.sum, if_pos hc]
    · rw [h.len, if_pos hc]
  · have hc0 : (ins x xs).1 = false := by simpa using hc
    rw [if_neg hc]
    refine ⟨rises_snoc h.up (h.under hc0), ?_, ?_, ?_⟩
    · rw [bad_append, bad_one, h.good, hbad, hsb]; simp
    · rw [tot_append, tot_one, h.sum, if_neg hc]; omega
    · rw [List.length_append, h.len, if_neg hc]; rfl
theorem insAll_lay {x : Rec} {xs : List Rec} (hE : layE xs = 0) (hne : ∀ y ∈ xs, y.1 ≠ x.1) (hs : slots x ≠ 0) :
    (free xs < slots x → layE (insAll x xs) = 3) ∧ (slots x ≤ free xs → layE (insAll x xs) = 0 ∧ free (insAll x xs) + slots x = free xs) := by
  obtain ⟨h1, h2, h3⟩ := layE_zero hE
  obtain ⟨k1, k2, k3, _⟩ := insAll_ok h2 h1 hne hs
  have hf : free xs = 7 - tot xs := by unfold free; rw [if_neg (by rw [h1]; simp; omega)]
  refine ⟨fun h => ?_, fun h => ⟨?_, ?_⟩⟩
  · unfold layE
    rw [if_neg (by rw [k1, k2]; simp), if_pos (by omega)]
  · unfold layE
    rw [if_neg (by rw [k1, k2]; simp), if_neg (by omega)]
  · unfold free
    rw [if_neg (by rw [k2]; simp; omega), if_neg (by rw [h1]; simp; omega)]
    omega
/-- Each slice shows its record's bytes. -/
def Shows (w : World) (ys : List Rec) (us : List Value) : Prop := us.length = ys.length ∧ ∀ (i : Nat) (y : Rec) (u : Value), ys[i]? = some y → us[i]? = some u → ∃ B cap, u = .slice B y.2.length cap ∧ y.2.length ≤ cap ∧ BytesAt w B y.2
theorem Shows.nil (w : World) : Shows w [] [] := ⟨rfl, fun i y u h => by simp at h⟩
theorem Shows.snoc {w : World} {ys : List Rec} {us : List Value} (h : Shows w ys us) {y : Rec} {B : Option Addr} {cap : Nat} (hc : y.2.length ≤ cap) (hb : BytesAt w B y.2) : Shows w (ys ++ [y]) (us ++ [.slice B y.2.length cap]) := by
  refine ⟨by simp [h.1], fun i y' u' hy hu => ?_⟩
  rw [List.getElem?_append] at hy hu
  rw [h.1] at hu
  split at hy
  · rename_i hlt
    rw [if_pos hlt] at hu
    exact h.2 i y' u' hy hu
  · rename_i hlt
    rw [if_neg hlt] at hu
    have h0 : i - ys.length = 0 := by
      have := (List.getElem?_eq_some_iff.1 hy).1
      simp at this
      omega
    rw [h0] at hy hu
    simp at hy hu
    subst hy hu
    exact ⟨B, cap, rfl, hc, hb⟩
end Go.Proofs.Ythkgpnkbbdpldaa
