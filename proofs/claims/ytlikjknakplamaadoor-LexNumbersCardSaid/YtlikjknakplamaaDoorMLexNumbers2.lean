import Derived.Test.YtlikjknakplamaaDoorMLexNumbers1
import Derived.Below
import Derived.ChangeOld
import Derived.Handed
import Derived.LaidLaws
import Derived.LaidOnce
import Derived.LaidSub
import Derived.Lay
import Derived.Lib.ItoaNum
import Derived.Lib.LaidTab
import Derived.Lib.LaidU8T
import Derived.OpenShut
import Derived.PinnedBridge
import Derived.ProofKit
import Derived.SevenTiedAt
import Derived.Shelf.Lay
import Derived.ShutString
import Derived.SizedLaws
import Derived.Test.YtlikjknakplamaaDoorCards
import Derived.Test.YtlikjknakplamaaDoorRows
import Derived.Test.YtlikjknakplamaaDoorTie
import Derived.WalkKit
set_option linter.unusedVariables false
set_option linter.unusedSimpArgs false
namespace Go.Proofs.YtlikjknakplamaaDoorW.PrintWords
end Go.Proofs.YtlikjknakplamaaDoorW.PrintWords
namespace Go.Proofs.YtlikjknakplamaaDoorW.PrintLast
end Go.Proofs.YtlikjknakplamaaDoorW.PrintLast
namespace Go.Proofs.YtlikjknakplamaaDoorW.PrintMore
end Go.Proofs.YtlikjknakplamaaDoorW.PrintMore
/-! ### LxNum -/
namespace Go.Proofs.YtlikjknakplamaaDoor
open Go.Lib
set_option linter.unusedSimpArgs false
set_option linter.unusedVariables false
theorem class_digit (r : Nat) (h0 : 48 ≤ r) (h1 : r ≤ 57) : classZ (r : Int) = 3 := by
  unfold classZ
  rw [if_neg (by omega), if_neg (by omega), if_neg (by omega), if_pos (by omega)]
/-- The digits of a number, as runes. -/
def digs (u : Nat) : List Nat := (decDigits u).map UInt8.toNat
theorem digs_small (u : Nat) (h : u < 10) : digs u = [48 + u] := by
  unfold digs
  rw [decDigits, dif_pos h]
  simp
  omega
theorem digs_more (u : Nat) (h : ¬ u < 10) : digs u = digs (u / 10) ++ [48 + u % 10] := by
  unfold digs
  rw [decDigits, dif_neg h, List.map_append]
  congr 1
  simp
  omega
theorem digs_digit : ∀ (u : Nat), ∀ r ∈ digs u, 48 ≤ r ∧ r ≤ 57 := by
  intro u
  induction u using Nat.strongRecOn with
  | _ u ih =>
    intro r hr
    by_cases h : u < 10
    · rw [digs_small u h] at hr
      simp at hr
      omega
    · rw [digs_more u h] at hr
      rcases List.mem_append.1 hr with hr | hr
      · exact ih (u / 10) (by omega) r hr
      · simp at hr
        omega
theorem digitsR_snoc : ∀ (a : List Nat) (d n : Nat), 48 ≤ d → d ≤ 57 → digitsR (a ++ [d]) n = (digitsR a n).map fun m => 10 * m + (d - 48)
  | [], d, n, h0, h1 => by
    show (if classZ (d : Int) = 3 then digitsR [] (10 * n + (d - 48)) else none) = _
    rw [if_pos (class_digit d h0 h1)]
    rfl
  | x :: a, d, n, h0, h1 => by
    rw [List.cons_append, digitsR, digitsR]
    split
    · exact digitsR_snoc a d _ h0 h1
    · rfl
theorem digs_value : ∀ u : Nat, digitsR (digs u) 0 = some u := by
  intro u
  induction u using Nat.strongRecOn with
  | _ u ih =>
    by_cases h : u < 10
    · rw [digs_small u h, digitsR, if_pos (class_digit _ (by omega) (by omega)), digitsR]
      congr 1
      omega
    · rw [digs_more u h, digitsR_snoc _ _ _ (by omega) (by omega), ih (u / 10) (by omega)]
      show some (10 * (u / 10) + (48 + u % 10 - 48)) = some u
      congr 1
      omega
theorem digs_len : ∀ u : Nat, 1 ≤ u → 10 ^ ((digs u).length - 1) ≤ u ∧ 1 ≤ (digs u).length ∧ (digs u).head? ≠ some 48 := by
  intro u
  induction u using Nat.strongRecOn with
  | _ u ih =>
    intro hu
    by_cases h : u < 10
    · rw [digs_small u h]
      simp
      omega
    · obtain ⟨h1, h2, h3⟩ := ih (u / 10) (by omega) (by omega)
      rw [digs_more u h, List.length_append, List.length_singleton, Nat.add_sub_cancel]
      refine ⟨?_, by omega, ?_⟩
      · obtain ⟨k, hk⟩ : ∃ k, (digs (u / 10)).length = k + 1 := ⟨(digs (u / 10)).length - 1, by omega⟩
        rw [hk] at h1 ⊢
        rw [Nat.add_sub_cancel] at h1
        rw [Nat.pow_succ]
        omega
      · cases hd : digs (u / 10) with
        | nil => rw [hd] at h2; simp at h2
        | cons x l => rw [hd] at h3; simpa using h3
theorem digs_ne (u : Nat) : digs u ≠ [] := by
  intro h
  by_cases hu : u < 10
  · rw [digs_small u hu] at h; cases h
  · rw [digs_more u hu] at h; simp at h
theorem digs_numR (u : Nat) (hu : u ≤ 9223372036854775807) : numR (digs u) = ((u : Int), true) := by
  unfold numR
  have hc : ¬ (digs u = [] ∨ 19 < (digs u).length ∨ (1 < (digs u).length ∧ (digs u).head? = some 48)) := by
    rintro (h | h | h)
    · exact digs_ne u h
    · by_cases h1 : 1 ≤ u
      · obtain ⟨k1, _, _⟩ := digs_len u h1
        have : 10 ^ 19 ≤ 10 ^ ((digs u).length - 1) := Nat.pow_le_pow_right (by omega) (by omega)
        have e : (10 : Nat) ^ 19 = 10000000000000000000 := by decide
        omega
      · rw [digs_small u (by omega)] at h
        simp at h
    · by_cases h1 : 1 ≤ u
      · exact (digs_len u h1).2.2 h.2
      · rw [digs_small u (by omega)] at h
        simp at h
  rw [if_neg hc, digs_value]
  unfold told
  simp only
  rw [if_neg (by omega)]
theorem txt_digs (u : Nat) : txt (digs u) = decDigits u := by
  have : ∀ l : List UInt8, (∀ b ∈ l, b.toNat < 128) → txt (l.map UInt8.toNat) = l := by
    intro l
    induction l with
    | nil => intro _; rfl
    | cons b l ih =>
      intro h
      rw [List.map_cons, txt_cons, ih (fun x hx => h x (List.mem_cons_of_mem _ hx)), enc_small _ (h b List.mem_cons_self)]
      simp
  refine this (decDigits u) (fun b hb => ?_)
  have := digs_digit u b.toNat (List.mem_map.2 ⟨b, hb, rfl⟩)
  omega
theorem digs_ok (u : Nat) : ∀ r ∈ digs u, okR r := fun r hr => ok_small r (by have := digs_digit u r hr; omega)
/-- What is shown of a number, as runes. -/
def showR (n : Int) : List Nat := if n < 0 then 45 :: digs n.natAbs else digs n.toNat
theorem txt_show (n : Int) : txt (showR n) = itoa n := by
  unfold showR itoa
  split
  · rw [txt_cons, txt_digs, enc_small 45 (by omega)]
    rfl
  · exact txt_digs _
theorem showR_ok (n : Int) : ∀ r ∈ showR n, okR r := by
  unfold showR
  split
  · intro r hr
    rcases List.mem_cons.1 hr with rfl | hr
    · exact ok_small 45 (by omega)
    · exact digs_ok _ r hr
  · exact digs_ok _
theorem showR_num (n : Int) (h1 : n ≤ 9223372036854775807) : numR (showR n) = if n < 0 then (0, false) else (n, true) := by
  unfold showR
  by_cases h : n < 0
  · rw [if_pos h, if_pos h]
    unfold numR
    split
    · rfl
    · rw [digitsR, if_neg (by decide)]
      rfl
  · rw [if_neg h, if_neg h, digs_numR _ (by omega)]
    congr 1
    omega
end Go.Proofs.YtlikjknakplamaaDoor
/-! ### LxLaw3 -/
namespace Go.Proofs.YtlikjknakplamaaDoor.Print
open Go.RowKit Go.Proofs.YtlikjknakplamaaDoorW.PrintWords Go.Proofs.YtlikjknakplamaaDoorW.PrintLast Go.Proofs.YtlikjknakplamaaDoorW.PrintMore
set_option linter.unusedSimpArgs false
set_option linter.unusedVariables false
theorem numFrom_step (s : ByteArray) (f p n : Nat) (hp : p < s.size) : numFrom s (f + 1) p n = if 48 ≤ byteAt s p ∧ byteAt s p ≤ 57 then numFrom s f (p + 1) (10 * n + (byteAt s p - 48)) else none := by
  rw [numFrom, if_pos hp]
  by_cases hb : byteAt s p < 128
  · rw [decode_small s p hb]
    simp only
    by_cases hd : 48 ≤ byteAt s p ∧ byteAt s p ≤ 57
    · rw [if_pos hd, if_pos (class_digit _ hd.1 hd.2)]
    · rw [if_neg hd, if_neg (fun h => hd (by have := class_three h; omega))]
  · have hh : 128 ≤ (s[p]'hp).toNat := by
      have e : s.get! p = s[p]'hp := by have := get_at s p hp; simpa using this
      have : byteAt s p = (s[p]'hp).toNat := by unfold byteAt; rw [e]
      omega
    have := (decode_high s p hp hh).1
    rw [if_neg (fun h => by have := class_three h; omega), if_neg (by omega)]
theorem numFrom_ge (s : ByteArray) : ∀ (f p n m : Nat), numFrom s f p n = some m → n ≤ m := by
  intro f
  induction f with
  | zero => intro p n m h; have := Option.some.inj h; omega
  | succ f ih =>
    intro p n m h
    by_cases hp : p < s.size
    · rw [numFrom_step s f p n hp] at h
      split at h
      · have := ih _ _ _ h
        omega
      · cases h
    · rw [numFrom_end s _ p n hp] at h
      have := Option.some.inj h
      omega
theorem numFrom_pow (s : ByteArray) : ∀ (f p n m : Nat), s.size ≤ p + f → numFrom s f p n = some m → n * 10 ^ (s.size - p) ≤ m := by
  intro f
  induction f with
  | zero =>
    intro p n m h1 h
    have := Option.some.inj h
    rw [show s.size - p = 0 by omega]
    omega
  | succ f ih =>
    intro p n m h1 h
    by_cases hp : p < s.size
    · rw [numFrom_step s f p n hp] at h
      split at h
      · have := ih _ _ _ (by omega) h
        rw [show s.size - p = (s.size - (p + 1)) + 1 by omega, Nat.pow_succ, Nat.mul_comm (10 ^ _), ← Nat.mul_assoc]
        refine Nat.le_trans (Nat.mul_le_mul_right _ ?_) this
        omega
      · cases h
    · rw [numFrom_end s _ p n hp] at h
      have := Option.some.inj h
      rw [show s.size - p = 0 by omega]
      omega
theorem told_over (o : Option Nat) (h : ∀ m, o = some m → 9223372036854775807 < m) : told o = (0, false) := by
  cases o with
  | none => rfl
  | some m => unfold told; simp only; rw [if_pos (h m rfl)]
theorem ref_num_loop (s : ByteArray) (hs : s.size ≤ 1000000000) : ∀ (f i n k : Nat), s.size ≤ i + f → i ≤ s.size → n ≤ 9223372036854775807 → 2 * f + 2 ≤ k → malthouseref01_Number.l0 k s (n : Int) (i : Int) = some (told (numFrom s f i n)) := by
  intro f
  induction f with
  | zero =>
    intro i n k h1 h2 hn hk
    obtain ⟨k, rfl⟩ : ∃ m, k = m + 1 := ⟨k - 1, by omega⟩
    rw [malthouseref01_Number.l0, if_neg (by omega), numFrom]
    unfold told
    simp only
    rw [if_neg (by omega)]
  | succ f ih =>
    intro i n k h1 h2 hn hk
    obtain ⟨k, rfl⟩ : ∃ m, k = m + 1 + 1 := ⟨k - 2, by omega⟩
    by_cases hi : i < s.size
    · have hb := byteAt_lt s i
      rw [malthouseref01_Number.l0, if_pos (by omega), if_pos (by omega), bt_byteAt s i hi, numFrom_step s f i n hi]
      by_cases c1 : byteAt s i < 48
      · rw [if_pos (by omega), malthouseref01_Number.j2, if_pos rfl, if_neg (by omega)]
        rfl
      · rw [if_neg (by omega)]
        by_cases c2 : 57 < byteAt s i
        · rw [malthouseref01_Number.j2, if_pos (by simp; omega), if_neg (by omega)]
          rfl
        · have w1 : wrap64 (byteAt s i : Int) = byteAt s i := wrap_small _ (by omega) (by omega)
          have w2 : wrap64 ((byteAt s i : Int) - 48) = ((byteAt s i - 48 : Nat) : Int) := by rw [wrap_small _ (by omega) (by omega)]; omega
          rw [malthouseref01_Number.j2, if_neg (by simp; omega), if_pos (by omega), if_pos (by omega), bt_byteAt s i hi, w1, w2, if_pos (show 48 ≤ byteAt s i ∧ byteAt s i ≤ 57 by omega)]
          generalize hd : byteAt s i - 48 = d at *
          have hd9 : d ≤ 9 := by omega
          rw [wrap_small (9223372036854775807 - (d : Int)) (by omega) (by omega), Int.tdiv_eq_ediv_of_nonneg (by omega), wrap_small ((9223372036854775807 - (d : Int)) / 10) (by omega) (by omega)]
          by_cases c3 : (n : Int) > (9223372036854775807 - (d : Int)) / 10
          · rw [if_pos c3, told_over _ (fun m hm => by have := numFrom_ge s _ _ _ _ hm; omega)]
          · rw [if_neg c3, wrap_small (10 * (n : Int)) (by omega) (by omega), wrap_small (10 * (n : Int) + (d : Int)) (by omega) (by omega), wrap_small ((i : Int) + 1) (by omega) (by omega)]
            have := ih (i + 1) (10 * n + d) k (by omega) (by omega) (by omega) (by omega)
            rw [show 10 * (n : Int) + (d : Int) = ((10 * n + d : Nat) : Int) by omega, show (i : Int) + 1 = ((i + 1 : Nat) : Int) by omega]
            exact this
    · rw [malthouseref01_Number.l0, if_neg (by omega), numFrom_end s _ i n hi]
      unfold told
      simp only
      rw [if_neg (by omega)]
theorem ref_number_is (s : ByteArray) (hs : s.size ≤ 1000000000) (k : Nat) (hk : 2 * s.size + 10 ≤ k) : malthouseref01_Number.f k s = some (numZ s) := by
  obtain ⟨k, rfl⟩ : ∃ m, k = m + 1 := ⟨k - 1, by omega⟩
  have hl := ref_num_loop s hs s.size 0 0 k (by omega) (by omega) (by omega) (by omega)
  have hb0 : bAt s 0 = byteAt s 0 := rfl
  unfold malthouseref01_Number.f numZ
  by_cases h0 : s.size = 0
  · rw [if_pos (by omega), malthouseref01_Number.j0, if_pos rfl, if_pos (.inl h0)]
  · rw [if_neg (by omega)]
    by_cases h1 : 1 < s.size
    · rw [if_pos (by omega), if_pos (by omega), show (0 : Int) = ((0 : Nat) : Int) from rfl, bt_byteAt s 0 (by omega)]
      by_cases h2 : byteAt s 0 = 48
      · rw [malthouseref01_Number.j0, if_pos (by rw [h2]; rfl), if_pos (.inr (.inr ⟨h1, h2⟩))]
        rfl
      · rw [malthouseref01_Number.j0, if_neg (by simp; omega)]
        by_cases h19 : 19 < s.size
        · rw [if_pos (.inr (.inl h19))]
          refine hl.trans ?_
          rw [told_over]
          · rfl
          · intro m hm
            obtain ⟨f, hf⟩ : ∃ f, s.size = f + 1 := ⟨s.size - 1, by omega⟩
            rw [hf, numFrom_step s f 0 0 (by omega)] at hm
            split at hm
            · rename_i hd
              have h3 := numFrom_pow s f (0 + 1) _ m (by omega) hm
              have h4 : 10 ^ 19 ≤ 10 ^ (s.size - (0 + 1)) := Nat.pow_le_pow_right (by omega) (by omega)
              have h5 : 1 * 10 ^ (s.size - (0 + 1)) ≤ (10 * 0 + (byteAt s 0 - 48)) * 10 ^ (s.size - (0 + 1)) := Nat.mul_le_mul_right _ (by omega)
              have e : (10 : Nat) ^ 19 = 10000000000000000000 := by decide
              omega
            · cases hm
        · rw [if_neg (by rintro (h | h | h); exact h0 h; exact h19 h; exact h2 h.2)]
          exact hl
    · rw [if_neg (by omega), malthouseref01_Number.j0, if_neg (by simp), if_neg (by rintro (h | h | h); exact h0 h; omega; exact h1 h.1)]
      exact hl
theorem showZ_str (n : Int) : showZ n = str (showR n) := by
  unfold showZ str
  rw [txt_show]
theorem lexNumbers_pure (a0 : Int) (a1 : ByteArray) (h0 : -9223372036854775808 ≤ a0) (h1 : a0 ≤ 9223372036854775807) : malthouselaw01_LexNumbers.f 20000 a0 a1 = some true := by
  unfold malthouselaw01_LexNumbers.f malthouselaw01_awake.f
  simp only [Option.bind_some]
  by_cases hs : (a1.size : Int) > 5000
  · rw [if_pos hs]
  · have hshow : lex_Show.f a0 = some (showZ a0) := if_pos ⟨h0, h1⟩
    have hshow2 : malthouseref01_Show.f a0 = some (showZ a0) := if_pos ⟨h0, h1⟩
    rw [if_neg hs, ref_number_is a1 (by omega) 20000 (by omega), hshow, hshow2]
    unfold lex_Number.f
    simp only [Option.bind_some, if_true]
    rw [showZ_str, num_is _ (showR_ok a0), showR_num a0 h1]
    by_cases hn : a0 < 0
    · simp [malthouselaw01_LexNumbers.j0, hn]
    · simp [malthouselaw01_LexNumbers.j0, hn]
end Go.Proofs.YtlikjknakplamaaDoor.Print
/-! ### LxWalk3 -/
namespace Go.Proofs.YtlikjknakplamaaDoor.Print
open Go.RowKit Go.Proofs.YtlikjknakplamaaDoorW.PrintWords Go.Proofs.YtlikjknakplamaaDoorW.PrintLast Go.Proofs.YtlikjknakplamaaDoorW.PrintMore
theorem lexNumbers_walk (a0 : Int) (a1 : ByteArray) (w : World) (w0 : (Lit.int .i64 a0).wf = true) (w1 : a1.size ≤ 140737488351232) (hT : Tabs w) :
    Calls Tryd.prog 5 #[.int .i64 a0, .string a1] w fun e w' => e = .returned (.bool true) ∧ Below w.heap.size w w' := by
  obtain ⟨h0, h1⟩ := wf_i64 w0
  exact malthouselaw01_LexNumbers.calls 20000 a0 a1 true w hT (lexNumbers_pure a0 a1 h0 h1)
end Go.Proofs.YtlikjknakplamaaDoor.Print
/-! ### Tied -/
namespace Go.Proofs.YtlikjknakplamaaDoor
open Go Go.RowKit Go.Shelf Go.Lib
set_option linter.unusedVariables false
theorem returnsInHanded_of_change_and_shaped {H : Type} {enc : TypeId × Value → H} {a : Assume} {C : Checked} {os : Os} {f : FuncId} {fn : Func} {s : ChangeSpec} {conds : List PathCond} {apart fresh handsOn again : Bool} {X : World → Array Value → Prop}
    (hX : ∀ (w w' : World) (args : Array Value), w.heap = w'.heap → X w args → X w' args)
    (own : ownKnob C.prog.godebug = none) (started : os.Started) (noInit : C.prog.inits.idxOf? f = none) (hfn : C.prog.funcs[f]? = some fn)
    (witness : ∃ (w : World) (tape : Tape) (i : Input), w.os = os ∧ (w.forCall tape i).Shaped C.prog ∧ i.vars = [] ∧ Input.okWide C.prog (w.forCall tape i) .any w.heap.size f i ∧
      ((s.pre enc C.prog fn conds apart (w.forCall tape i).memory i.args ∧ X (w.forCall tape i).memory i.args) ∧ sizedMet enc C.prog fn (OpenSpec.ofChange s) apart (w.forCall tape i).memory i.args) ∧ a.holds C.prog (lone (Frame.enter C.prog f i.args .normal) [] (w.forCall tape i)))
    (contract : ∀ (W : World) (base : Nat) (args : Array Value) (ds gs : List (DataW H)) (before : List MemPlace),
      (∀ (j : Nat) t v, fn.params[j]? = some t → args[j]? = some v → Value.okWide C.prog W .any base t v) →
      DataW.Whole enc C.prog fn.params.toList s.vars apart W args.toList ds gs before →
      conds.all (PathCond.test C.prog ⟨fn.params.toList, ds, s.plain.varTypes C.prog, gs⟩) = true →
      (DataW.weightsEach C.prog (fn.params.toList ++ s.plain.varTypes C.prog) (ds ++ gs)).all (· ≤ reachBytes) = true → X W args →
      W.ShapedOpen C.prog →
      a.holds C.prog (lone (Frame.enter C.prog f args .normal) [] W) →
      Calls C.prog f args W fun e W' => ∃ v, e = .returned v ∧ s.post enc C.prog fn apart fresh handsOn again W args v W') :
    ReturnsInHanded a C os f .any (fun w args => (s.pre enc C.prog fn conds apart w args ∧ X w args) ∧ sizedMet enc C.prog fn (OpenSpec.ofChange s) apart w args) (s.post enc C.prog fn apart fresh handsOn again) := by
  refine returnsInHanded_of_calls own started noInit witness ?_
  intro w tape i _ hsh _ hok hpre hholds
  obtain ⟨_, _, _, fn', hfn', _, _, _, _, hval⟩ := hok
  have e : fn' = fn := Option.some.inj (hfn'.symm.trans hfn)
  subst e
  obtain ⟨⟨⟨ds, gs, before, hw, hc⟩, hx⟩, hz⟩ := hpre
  have hw' := DataW.Whole.of_heap (w' := w.forCall tape i) (by rfl) hw
  refine (contract (w.forCall tape i) w.heap.size i.args ds gs before hval hw' hc (hz.weights hw) (hX _ _ _ (by rfl) hx) hsh hholds).mono fun e W' ⟨v, he, hp⟩ => ?_
  subst he
  exact ChangeSpec.post_blind hp
theorem tabs_of {W : World} (hL : laidMet Tryd.prog Rows.lexFoldsRow.laid W) (hsh : W.ShapedOpen Tryd.prog) : Tabs W := by
  refine ⟨?_, ?_, ?_⟩
  · exact utf8Tabs_of_readsT (U8Types.of196 Tryd.laysValid) ⟨by kernel_rfl, by kernel_rfl, by kernel_rfl, by kernel_rfl, by kernel_rfl, by kernel_rfl, by kernel_rfl⟩ (Pinned.utf8First_eq ▸ Lib.laidMet.reads hL (.tail _ (.tail _ (.tail _ (.tail _ (.head _)))))) ((show Rows.laid_unicode_utf8_acceptRanges = acceptData from rfl) ▸ Lib.laidMet.reads hL (.tail _ (.tail _ (.tail _ (.head _)))))
  · have h := laidMet.filter (fun x => x.1 == "internal/strconv.uint64pow10") hL
    exact tabIs_of_head (rest := []) (t := 84) (e := 59) (n := 20) (g := Tryd.laysM171_ren.g 17) pow_named (by kernel_rfl) (by kernel_rfl) (by kernel_rfl) (by kernel_rfl) (by kernel_rfl) (show laidMet Tryd.prog [("internal/strconv.uint64pow10", tabData .u64 pow10Tab)] W from h)
  · exact Tryd.laysM145.s1_3 W hsh
end Go.Proofs.YtlikjknakplamaaDoor
/-! ### LexNumbersRow -/
namespace Go.Proofs.YtlikjknakplamaaDoor.lexNumbers
open Go.ChangeShapes Go.WideShapes Go.ChangeAt Go.RowKit Go.Shelf Go.Lib Go.Proofs.YtlikjknakplamaaDoor.Print
open Go.ChangeMaps (open_string shut_string)
set_option linter.unusedVariables false
set_option linter.unusedSimpArgs false
theorem own : ownKnob Tryd.prog.godebug = none := by kernel_rfl
set_option maxRecDepth 100000 in
theorem lifted (os : Os) (started : os.Started) (H : Type) (enc : TypeId × Value → H) :
    ReturnsInHanded {} Tryd.checked os 5 .any (fun w args => (Rows.lexNumbersSpec.pre enc Tryd.prog Tryd.f5 [] false w args ∧ laidMetH Tryd.prog Rows.lexNumbersRow.laid w) ∧ sizedMet enc Tryd.prog Tryd.f5 (OpenSpec.ofChange Rows.lexNumbersSpec) false w args) (Rows.lexNumbersSpec.post enc Tryd.prog Tryd.f5 false true false false) := by
  refine returnsInHanded_of_change_and_shaped (C := Tryd.checked) (X := fun w _ => laidMetH Tryd.prog Rows.lexNumbersRow.laid w) (fun _ _ _ hh h => h.of_heap hh) own started (by kernel_rfl) Tryd.func5
    (ChangeSpec.witness_shaped (enc := enc) (C := Tryd.checked) (os := os) (X := fun w _ => laidMetH Tryd.prog Rows.lexNumbersRow.laid w) false (World.laidAll Tryd.prog os Rows.lexNumbersRow.laid) #[.int .i64 0, .string ByteArray.empty] 8 (World.laidAll_os _ _ _)
      (World.shaped_of_ZipB (by kernel_rfl) (by kernel_rfl)) (by kernel_rfl) (by kernel_rfl) (by kernel_rfl)
      (by rw [MakeChecks.laidMetH_plain _ _ _ (by kernel_rfl)]; exact laidMet_laidAll _ (by kernel_rfl) (by kernel_rfl))) ?_
  intro W base args ds gs before hval0 hW hcnd hsz0 hL0 hsh _
  have hL : laidMet Tryd.prog Rows.lexNumbersRow.laid W := by
    have h := hL0
    rw [MakeChecks.laidMetH_plain _ _ _ (by kernel_rfl)] at h
    exact h
  have hT : Tabs W := tabs_of (show laidMet Tryd.prog Rows.lexFoldsRow.laid W from hL) hsh
  have hsz : (DataW.weightsEach Tryd.prog (Tryd.f5.params.toList ++ Rows.lexNumbersSpec.plain.varTypes Tryd.prog) (ds ++ gs)).all (· ≤ reachBytes) = true := hsz0
  have hval : ∀ (j : Nat) t v, Tryd.f5.params[j]? = some t → args[j]? = some v → Value.okWide Tryd.prog W .any base t v := hval0
  have hW' := hW
  obtain ⟨p, q, hA0, hV, rfl, hfz, hnd⟩ := hW
  have hA : DataW.TrodAll enc Tryd.prog W 0 (fun _ => true) true Tryd.f5.params.toList args.toList ds p := hA0
  rw [Tryd.params5] at hA hval hsz
  obtain ⟨v0, vs0, d0, ds0, p0, q0, hargs, rfl, rfl, h0, r0⟩ := trodAll_cons hA
  obtain ⟨v1, vs1, d1, ds1, p1, q1, rfl, rfl, rfl, h1, r1⟩ := trodAll_cons r0
  obtain ⟨rfl, rfl, rfl⟩ := trodAll_nil r1
  obtain rfl : args = #[v0, v1] := by cases args; simp_all
  obtain ⟨rfl, rfl⟩ := trodVars_none hV
  obtain ⟨a0, rfl, rfl, rfl, w0⟩ := open_int Tryd.underlying3 (hval 0 3 v0 rfl rfl) h0
  obtain ⟨a1, rfl, rfl, rfl, y1⟩ := open_string Tryd.underlying9 (hval 1 9 v1 rfl rfl) h1
  have w1 : a1.size ≤ 140737488351232 := by
    have z := sized_string hsz (j := 1) (t := 9) rfl rfl
    rw [Array.length_toList] at z
    exact z
  clear hA0 hval0 hsz0 hsz
  refine (lexNumbers_walk a0 a1 W w0 w1 hT).mono fun e W' ⟨he, bel⟩ => ?_
  subst he
  exact ⟨_, rfl, _, _, _, [], _, [], hW', trodAll_mk1 (shut_bool Tryd.underlying4 _), (trodAll_cons_mk (shut_int Tryd.underlying3 w0) (trodAll_cons_mk (shut_string Tryd.underlying9 y1) trodAll_mk0)), rfl, bel.frame _, fun h => by cases h⟩
theorem over : Rows.lexNumbersRow.holds Tryd.pinned (OpenSpec.ofChange Rows.lexNumbersSpec) :=
  OpenClaim.holds_of_wide 5 Tryd.f5 rfl rfl rfl rfl rfl rfl rfl ⟨rfl, rfl, rfl, rfl, rfl⟩ rfl rfl rfl rfl rfl (by kernel_rfl) Tryd.func5 (by kernel_rfl)
    (of_decide_eq_true (by kernel_rfl)) (by unfold Func.isWrapper; first | (rw [if_pos (by decide +kernel)]; kernel_rfl) | (rw [if_neg (by decide +kernel)]; exact ⟨rfl, rfl⟩))
    (fun os started H enc _ => lifted os started H enc)
theorem card_holds : Claim7.holds Tryd.pinned (.plain (OpenSpec.ofChange Rows.lexNumbersSpec)) Rows.lexNumbersCard :=
  Claim7.holds_tied_plain_at .later [] [.data, .data, .data, .data, .pinned] true (true, "2df379d0a8e382ae56a4a25da8425f329115bfa31b6102406861f16ecf271d0c") false over (fun _ h => by cases h) (by kernel_rfl) (fun _ h => by cases h) lexNumbers_row_tie rfl ⟨rfl, rfl⟩ (by kernel_rfl) rfl
    (fun f fn hf hfn => by
      obtain rfl : f = 5 := Option.some.inj ((show Tryd.prog.funcNamed "malthouse/malthouselaw01.LexNumbers" = some 5 by kernel_rfl).symm.trans hf) |>.symm
      obtain rfl : fn = Tryd.f5 := (Option.some.inj (Tryd.func5.symm.trans hfn)).symm
      exact ⟨by kernel_rfl, fun j t ht => by
        rw [Tryd.params5] at ht
        have hm : t ∈ [3, 9] := by simpa using Array.mem_of_getElem? ht
        have hall : ([3, 9].all fun u => !Tryd.prog.wantsStandIn u) = true := by kernel_rfl
        exact (show Tryd.prog.wantsStandIn t = false by simpa using List.all_eq_true.1 hall t hm)⟩)
    (by kernel_rfl)
theorem proved : Rows.LexNumbersCardSaid := card_holds
#print axioms proved
end Go.Proofs.YtlikjknakplamaaDoor.lexNumbers
namespace Go.Proofs.YtlikjknakplamaaDoor
/-- The card, under a short name, for the claim. -/
theorem lexNumbers_holds : Rows.LexNumbersCardSaid := lexNumbers.proved
end Go.Proofs.YtlikjknakplamaaDoor
