import Derived.Test.YtejecmjajdhiiaaDoorLp3
import Derived.Laws.RangeAny
import Derived.Lib.TrimUEq
set_option linter.unusedVariables false
set_option linter.unusedSimpArgs false
namespace Go.Proofs.YtejecmjajdhiiaaDoorW.PrintWords
end Go.Proofs.YtejecmjajdhiiaaDoorW.PrintWords
namespace Go.Proofs.YtejecmjajdhiiaaDoorW.PrintLast
end Go.Proofs.YtejecmjajdhiiaaDoorW.PrintLast
namespace Go.Proofs.YtejecmjajdhiiaaDoorW.PrintMore
end Go.Proofs.YtejecmjajdhiiaaDoorW.PrintMore
/-! ### NmPure -/
namespace Go.Proofs.YtejecmjajdhiiaaDoor.Print
open Go.RowKit Go.Proofs.YtejecmjajdhiiaaDoorW.PrintWords Go.Proofs.YtejecmjajdhiiaaDoorW.PrintLast Go.Proofs.YtejecmjajdhiiaaDoorW.PrintMore
set_option linter.unusedSimpArgs false
set_option linter.unusedVariables false
def byteAt (s : ByteArray) (i : Nat) : Nat := (s.get! i).toNat
theorem byteAt_lt (s : ByteArray) (i : Nat) : byteAt s i < 256 := (s.get! i).toNat_lt
theorem bt_byteAt (s : ByteArray) (i : Nat) (h : i < s.size) : bt s (i : Int) = byteAt s i := by
  unfold bt byteAt
  have e : s.get! i = s[i]'h := by have := get_at s i h; simpa using this
  rw [Int.toNat_natCast, dif_pos h, e]
theorem wrap_small (x : Int) (h0 : -9223372036854775808 ≤ x) (h1 : x ≤ 9223372036854775807) : wrap64 x = x := by unfold wrap64; omega
theorem rune_step (s : ByteArray) (i j m : Nat) (x6 n least : Int) (hs : s.size ≤ 140737488351232) (hj : (j : Int) < n) (hlt : i + j < s.size) (hx0 : 0 ≤ x6) (hx1 : x6 ≤ 2000000) :
    malthouseref01_Rune.l0 (m + 1) s i x6 n least j = if 128 ≤ byteAt s (i + j) ∧ byteAt s (i + j) < 192 then malthouseref01_Rune.l0 m s i (64 * x6 + byteAt s (i + j) - 128) n least ((j + 1 : Nat) : Int) else some (0, 0) := by
  have hb := byteAt_lt s (i + j)
  have e1 : wrap64 ((i : Int) + j) = ((i + j : Nat) : Int) := by rw [wrap_small _ (by omega) (by omega)]; omega
  have e2 := bt_byteAt s (i + j) hlt
  simp only [malthouseref01_Rune.l0]
  rw [if_pos hj, e1, if_pos (by omega), if_pos (by omega), e2, wrap_small (byteAt s (i + j) : Int) (by omega) (by omega), wrap_small (64 * x6) (by omega) (by omega), wrap_small (64 * x6 + (byteAt s (i + j) : Int)) (by omega) (by omega), wrap_small (64 * x6 + (byteAt s (i + j) : Int) - 128) (by omega) (by omega), wrap_small ((j : Int) + 1) (by omega) (by omega)]
  by_cases h1 : byteAt s (i + j) < 128
  · rw [if_pos (by omega), if_neg (by omega)]
  · rw [if_neg (by omega)]
    by_cases h2 : 192 ≤ byteAt s (i + j)
    · rw [if_pos (by omega), if_neg (by omega)]
    · rw [if_neg (by omega), if_pos (by omega)]
      rfl
theorem rune_end (s : ByteArray) (i : Int) (j : Int) (m : Nat) (x6 n least : Int) (hj : ¬ j < n) :
    malthouseref01_Rune.l0 (m + 1) s i x6 n least j = if least ≤ x6 ∧ x6 ≤ 1114111 ∧ (x6 < 55296 ∨ 57343 < x6) then some (x6, n) else some (0, 0) := by
  simp only [malthouseref01_Rune.l0]
  rw [if_neg hj]
  by_cases h1 : x6 < least
  · rw [if_pos h1, if_neg (by omega)]
  · rw [if_neg h1]
    by_cases h2 : x6 > 1114111
    · rw [if_pos h2, if_neg (by omega)]
    · rw [if_neg h2]
      by_cases h3 : x6 ≥ 55296
      · rw [if_pos h3]
        by_cases h4 : x6 ≤ 57343
        · rw [if_pos h4, if_neg (by omega)]
        · rw [if_neg h4, if_pos (by omega)]
      · rw [if_neg h3, if_pos (by omega)]
theorem rune_begin (s : ByteArray) (i m : Nat) (x6 n least : Int) (hs : s.size ≤ 140737488351232) (hi : i < s.size) :
    malthouseref01_Rune.j2 (m + 1) s i x6 n least = if n ≤ ((s.size - i : Nat) : Int) then malthouseref01_Rune.l0 m s i x6 n least 1 else some (0, 0) := by
  simp only [malthouseref01_Rune.j2]
  rw [wrap_small ((s.size : Int) - i) (by omega) (by omega)]
  by_cases h : n > (s.size : Int) - i
  · rw [if_pos h, if_neg (by omega)]
  · rw [if_neg h, if_pos (by omega)]
/-- What the reference's Rune answers. -/
def runeR (d : Nat × Nat) (b0 : Nat) : Int × Int := if 128 ≤ b0 ∧ d = (65533, 1) then (0, 0) else ((d.1 : Int), (d.2 : Int))
set_option maxHeartbeats 4000000 in
set_option maxRecDepth 100000 in
theorem rune_is (s : ByteArray) (i k : Nat) (hs : s.size ≤ 140737488351232) (hi : i < s.size) : malthouseref01_Rune.f (k + 8) s (i : Int) = some (runeR (Utf8.decode s i) (byteAt s i)) := by
  have h0 := byteAt_lt s i
  have h1 := byteAt_lt s (i + 1)
  have h2 := byteAt_lt s (i + 2)
  have h3 := byteAt_lt s (i + 3)
  have e0 := bt_byteAt s i hi
  rw [Lib.decode_at]
  show _ = some (runeR (Lib.decodeN (s.size - i) (byteAt s i) (byteAt s (i + 1)) (byteAt s (i + 2)) (byteAt s (i + 3))) (byteAt s i))
  unfold malthouseref01_Rune.f
  rw [if_pos (by omega), if_pos (by omega), e0, wrap_small (byteAt s i : Int) (by omega) (by omega)]
  have r2 := fun m x6 n least (hn : 1 < n) (hl : i + 1 < s.size) (a : 0 ≤ x6) (b : x6 ≤ 2000000) => rune_step s i 1 m x6 n least hs hn hl a b
  have r3 := fun m x6 n least (hn : 2 < n) (hl : i + 2 < s.size) (a : 0 ≤ x6) (b : x6 ≤ 2000000) => rune_step s i 2 m x6 n least hs hn hl a b
  have r4 := fun m x6 n least (hn : 3 < n) (hl : i + 3 < s.size) (a : 0 ≤ x6) (b : x6 ≤ 2000000) => rune_step s i 3 m x6 n least hs hn hl a b
  have rb := fun m x6 n least => rune_begin s i m x6 n least hs hi
  generalize hN : s.size - i = N at *
  generalize byteAt s i = b0 at *
  generalize byteAt s (i + 1) = b1 at *
  generalize byteAt s (i + 2) = b2 at *
  generalize byteAt s (i + 3) = b3 at *
  by_cases c0 : b0 < 128
  · rw [if_pos (by omega)]
    unfold runeR Lib.decodeN
    rw [if_neg (by omega), if_pos c0]
    rfl
  rw [if_neg (by omega)]
  by_cases c1 : b0 < 192
  · rw [if_neg (by omega)]
    simp only [malthouseref01_Rune.j0, malthouseref01_Rune.j1]
    rw [if_neg (by simp), if_neg (by omega), if_neg (by simp), if_neg (by omega)]
    unfold Lib.decodeN
    rw [if_neg (by omega), if_neg (by omega), if_neg (by omega), if_neg (by omega)]
    unfold runeR
    rw [if_pos ⟨by omega, rfl⟩]
  rw [if_pos (by omega)]
  simp only [malthouseref01_Rune.j0, malthouseref01_Rune.j1, decide_eq_true_eq]
  have fin : ∀ (x : Nat) (w : Nat), (x, w) ≠ (65533, 1) → some ((x : Int), (w : Int)) = some (runeR (x, w) b0) := fun x w h => by
    unfold runeR
    rw [if_neg (fun hh => h hh.2)]
  have bad : some ((0 : Int), (0 : Int)) = some (runeR (65533, 1) b0) := by
    unfold runeR
    rw [if_pos ⟨by omega, rfl⟩]
  by_cases c2 : b0 < 224
  · rw [if_pos (by omega), wrap_small _ (by omega) (by omega), rb]
    by_cases d1 : 1 < N
    · rw [if_pos (by omega), show ((1 : Int)) = ((1 : Nat) : Int) from rfl, r2 _ _ _ _ (by omega) (by omega) (by omega) (by omega)]
      by_cases d2 : 128 ≤ b1 ∧ b1 < 192
      · rw [if_pos d2]
        unfold Lib.decodeN
        rw [if_neg (by omega), if_pos (by omega)]
        by_cases d3 : b0 % 32 * 64 + b1 % 64 ≥ 128
        · rw [if_pos d3, rune_end _ _ _ _ _ _ _ (by omega), if_pos (by omega), ← fin _ _ (by simp)]
          congr 2; omega
        · rw [if_neg d3, rune_end _ _ _ _ _ _ _ (by omega), if_neg (by omega)]; exact bad
      · rw [if_neg d2]
        unfold Lib.decodeN
        rw [if_neg (by omega), if_neg (by omega), if_neg (by omega), if_neg (by omega)]; exact bad
    · rw [if_neg (by omega)]
      unfold Lib.decodeN
      rw [if_neg (by omega), if_neg (by omega), if_neg (by omega), if_neg (by omega)]; exact bad
  rw [if_neg (by omega), if_pos (by omega)]
  by_cases c3 : b0 < 240
  · rw [if_pos (by omega), wrap_small _ (by omega) (by omega), rb]
    by_cases d1 : 2 < N
    · rw [if_pos (by omega), show ((1 : Int)) = ((1 : Nat) : Int) from rfl, r2 _ _ _ _ (by omega) (by omega) (by omega) (by omega)]
      by_cases d2 : 128 ≤ b1 ∧ b1 < 192
      · rw [if_pos d2, show 1 + 1 = 2 from rfl, r3 _ _ _ _ (by omega) (by omega) (by omega) (by omega)]
        by_cases d3 : 128 ≤ b2 ∧ b2 < 192
        · rw [if_pos d3]
          unfold Lib.decodeN
          rw [if_neg (by omega), if_neg (by omega), if_pos (by omega)]
          by_cases d4 : b0 % 16 * 4096 + b1 % 64 * 64 + b2 % 64 ≥ 2048 ∧ (b0 % 16 * 4096 + b1 % 64 * 64 + b2 % 64 < 55296 ∨ (57344 ≤ b0 % 16 * 4096 + b1 % 64 * 64 + b2 % 64 ∧ b0 % 16 * 4096 + b1 % 64 * 64 + b2 % 64 ≤ 1114111))
          · rw [if_pos d4, rune_end _ _ _ _ _ _ _ (by omega), if_pos (by omega), ← fin _ _ (by simp)]
            congr 2; omega
          · rw [if_neg d4, rune_end _ _ _ _ _ _ _ (by omega), if_neg (by omega)]; exact bad
        · rw [if_neg d3]
          unfold Lib.decodeN
          rw [if_neg (by omega), if_neg (by omega), if_neg (by omega), if_neg (by omega)]; exact bad
      · rw [if_neg d2]
        unfold Lib.decodeN
        rw [if_neg (by omega), if_neg (by omega), if_neg (by omega), if_neg (by omega)]; exact bad
    · rw [if_neg (by omega)]
      unfold Lib.decodeN
      rw [if_neg (by omega), if_neg (by omega), if_neg (by omega), if_neg (by omega)]; exact bad
  rw [if_neg (by omega), if_pos (by omega)]
  by_cases c4 : b0 < 248
  · rw [if_pos (by omega), wrap_small _ (by omega) (by omega), rb]
    by_cases d1 : 3 < N
    · rw [if_pos (by omega), show ((1 : Int)) = ((1 : Nat) : Int) from rfl, r2 _ _ _ _ (by omega) (by omega) (by omega) (by omega)]
      by_cases d2 : 128 ≤ b1 ∧ b1 < 192
      · rw [if_pos d2, show 1 + 1 = 2 from rfl, r3 _ _ _ _ (by omega) (by omega) (by omega) (by omega)]
        by_cases d3 : 128 ≤ b2 ∧ b2 < 192
        · rw [if_pos d3, show 2 + 1 = 3 from rfl, r4 _ _ _ _ (by omega) (by omega) (by omega) (by omega)]
          by_cases d5 : 128 ≤ b3 ∧ b3 < 192
          · rw [if_pos d5]
            unfold Lib.decodeN
            rw [if_neg (by omega), if_neg (by omega), if_neg (by omega), if_pos (by omega)]
            by_cases d4 : b0 % 8 * 262144 + b1 % 64 * 4096 + b2 % 64 * 64 + b3 % 64 ≥ 65536 ∧ (b0 % 8 * 262144 + b1 % 64 * 4096 + b2 % 64 * 64 + b3 % 64 < 55296 ∨ (57344 ≤ b0 % 8 * 262144 + b1 % 64 * 4096 + b2 % 64 * 64 + b3 % 64 ∧ b0 % 8 * 262144 + b1 % 64 * 4096 + b2 % 64 * 64 + b3 % 64 ≤ 1114111))
            · rw [if_pos d4, rune_end _ _ _ _ _ _ _ (by omega), if_pos (by omega), ← fin _ _ (by simp)]
              congr 2; omega
            · rw [if_neg d4, rune_end _ _ _ _ _ _ _ (by omega), if_neg (by omega)]; exact bad
          · rw [if_neg d5]
            unfold Lib.decodeN
            rw [if_neg (by omega), if_neg (by omega), if_neg (by omega), if_neg (by omega)]; exact bad
        · rw [if_neg d3]
          unfold Lib.decodeN
          rw [if_neg (by omega), if_neg (by omega), if_neg (by omega), if_neg (by omega)]; exact bad
      · rw [if_neg d2]
        unfold Lib.decodeN
        rw [if_neg (by omega), if_neg (by omega), if_neg (by omega), if_neg (by omega)]; exact bad
    · rw [if_neg (by omega)]
      unfold Lib.decodeN
      rw [if_neg (by omega), if_neg (by omega), if_neg (by omega), if_neg (by omega)]; exact bad
  · rw [if_neg (by omega)]
    unfold Lib.decodeN
    rw [if_neg (by omega), if_neg (by omega), if_neg (by omega), if_neg (by omega)]; exact bad
/-- A text's runes from a place on, where each begins, is there no bad byte. -/
def runesFrom (s : ByteArray) : Nat → Nat → List Int × List Int × Bool
  | 0, _ => ([], [(s.size : Int)], true)
  | f + 1, p => if p < s.size then
      (if (Utf8.decode s p).1 = 65533 ∧ (Utf8.decode s p).2 = 1 then ([], [], false)
       else (((Utf8.decode s p).1 : Int) :: (runesFrom s f (p + (Utf8.decode s p).2)).1, (p : Int) :: (runesFrom s f (p + (Utf8.decode s p).2)).2.1, (runesFrom s f (p + (Utf8.decode s p).2)).2.2)) else ([], [(s.size : Int)], true)
theorem decode_small (s : ByteArray) (p : Nat) (h : byteAt s p < 128) : Utf8.decode s p = (byteAt s p, 1) := by
  rw [Lib.decode_at]
  unfold Lib.decodeN
  rw [if_pos (by exact h)]
  rfl
theorem runeR_good (s : ByteArray) (p : Nat) (h : ¬ ((Utf8.decode s p).1 = 65533 ∧ (Utf8.decode s p).2 = 1)) : runeR (Utf8.decode s p) (byteAt s p) = (((Utf8.decode s p).1 : Int), ((Utf8.decode s p).2 : Int)) := by
  unfold runeR
  rw [if_neg]
  rintro ⟨_, h2⟩
  exact h (by rw [h2]; exact ⟨rfl, rfl⟩)
theorem runeR_bad (s : ByteArray) (p : Nat) (h : (Utf8.decode s p).1 = 65533 ∧ (Utf8.decode s p).2 = 1) : runeR (Utf8.decode s p) (byteAt s p) = (0, 0) := by
  unfold runeR
  rw [if_pos]
  refine ⟨?_, Prod.ext h.1 h.2⟩
  rcases Nat.lt_or_ge (byteAt s p) 128 with hb | hb
  · rw [decode_small s p hb] at h
    have := h.1
    simp only at this
    omega
  · exact hb
theorem decode_width (s : ByteArray) (p : Nat) (h : p < s.size) : 1 ≤ (Utf8.decode s p).2 ∧ p + (Utf8.decode s p).2 ≤ s.size ∧ (Utf8.decode s p).2 ≤ 4 := by
  rw [Lib.decode_at]
  unfold Lib.decodeN
  repeat' split
  all_goals (simp only; omega)
set_option maxRecDepth 100000 in
theorem runes_loop (s S : ByteArray) (hs : s.size ≤ 1000000000) : ∀ (f p k : Nat) (rs qs : List Int), s.size ≤ p + f → p ≤ s.size → rs.length ≤ p → qs.length ≤ p →
    malthouseref01_Runes.l0 (k + f + 9) s (p : Int) S rs qs = some (S, rs ++ (runesFrom s f p).1, qs ++ (runesFrom s f p).2.1, (runesFrom s f p).2.2) := by
  intro f
  induction f with
  | zero =>
    intro p k rs qs h1 h2 h3 h4
    have e : k + 0 + 9 = (k + 8) + 1 := by omega
    rw [e]
    generalize k + 8 = K
    simp only [malthouseref01_Runes.l0, runesFrom]
    rw [if_neg (by omega), if_pos (by omega)]
    simp
  | succ f ih =>
    intro p k rs qs h1 h2 h3 h4
    have e : k + (f + 1) + 9 = (k + f + 9) + 1 := by omega
    rw [e]
    have ih' := fun p rs qs => ih p k rs qs
    have hrune := rune_is s p (k + f + 1) (by omega)
    rw [show k + f + 1 + 8 = k + f + 9 by omega] at hrune
    clear ih e
    generalize k + f + 9 = K at *
    by_cases hp : p < s.size
    · simp only [malthouseref01_Runes.l0, runesFrom]
      rw [if_pos (by omega), hrune hp]
      simp only [Option.bind_some]
      obtain ⟨w1, w2, w3⟩ := decode_width s p hp
      rw [if_pos hp]
      by_cases hb : (Utf8.decode s p).1 = 65533 ∧ (Utf8.decode s p).2 = 1
      · rw [runeR_bad s p hb, if_pos rfl, if_pos hb]
        simp
      · rw [runeR_good s p hb, if_neg hb]
        simp only
        rw [if_neg (by omega), if_pos (by omega), if_pos (by omega), wrap_small _ (by omega) (by omega)]
        have := ih' (p + (Utf8.decode s p).2) (rs ++ [((Utf8.decode s p).1 : Int)]) (qs ++ [(p : Int)]) (by omega) w2 (by simp; omega) (by simp; omega)
        rw [show (p : Int) + ((Utf8.decode s p).2 : Int) = ((p + (Utf8.decode s p).2 : Nat) : Int) by omega, this]
        simp
    · simp only [malthouseref01_Runes.l0, runesFrom]
      rw [if_neg (by omega), if_pos (by omega), if_neg hp]
      simp
theorem runes_is (s : ByteArray) (hs : s.size ≤ 1000000000) (k : Nat) : malthouseref01_Runes.f (k + s.size + 9) s = some (s, (runesFrom s s.size 0).1, (runesFrom s s.size 0).2.1, (runesFrom s s.size 0).2.2) := by
  have := runes_loop s s hs s.size 0 k [] [] (by omega) (by omega) (by simp) (by simp)
  simpa [malthouseref01_Runes.f] using this
theorem valid_from (s : ByteArray) : ∀ (f p : Nat), s.size ≤ p + f → p ≤ s.size → (runesFrom s f p).2.2 = Lib.validD (s.data.toList.drop p) := by
  have hsz : s.data.toList.length = s.size := by rw [Array.length_toList]; rfl
  intro f
  induction f with
  | zero =>
    intro p h1 h2
    rw [List.drop_eq_nil_of_le (by omega)]
    rfl
  | succ f ih =>
    intro p h1 h2
    simp only [runesFrom]
    by_cases hp : p < s.size
    · rw [if_pos hp]
      have hne : s.data.toList.drop p ≠ [] := by
        intro h
        have := congrArg List.length h
        rw [List.length_drop] at this
        simp at this
        omega
      rw [Lib.validD_step _ hne, Lib.decodeL_drop]
      obtain ⟨w1, w2, w3⟩ := decode_width s p hp
      by_cases hb : (Utf8.decode s p).1 = 65533 ∧ (Utf8.decode s p).2 = 1
      · rw [if_pos hb, if_pos hb]
      · rw [if_neg hb, if_neg hb]
        simp only
        rw [ih _ (by omega) w2, List.drop_drop]
    · rw [if_neg hp, List.drop_eq_nil_of_le (by omega)]
      rfl
theorem count_from (s : ByteArray) : ∀ (f p : Nat), s.size ≤ p + f → p ≤ s.size → (runesFrom s f p).2.2 = true → (runesFrom s f p).1.length = Lib.runeCountFrom s f p := by
  intro f
  induction f with
  | zero => intro p _ _ _; rfl
  | succ f ih =>
    intro p h1 h2 h3
    simp only [runesFrom, Lib.runeCountFrom] at h3 ⊢
    by_cases hp : p < s.size
    · rw [if_pos hp] at h3 ⊢
      rw [if_pos hp]
      obtain ⟨w1, w2, w3⟩ := decode_width s p hp
      by_cases hb : (Utf8.decode s p).1 = 65533 ∧ (Utf8.decode s p).2 = 1
      · rw [if_pos hb] at h3; cases h3
      · rw [if_neg hb] at h3 ⊢
        simp only at h3 ⊢
        rw [List.length_cons, ih _ (by omega) w2 h3]
        omega
    · rw [if_neg hp, if_neg hp]; rfl
theorem wordy_from (s : ByteArray) : ∀ (f p : Nat), s.size ≤ p + f → p ≤ s.size → (runesFrom s f p).2.2 = true → (runesFrom s f p).1.all wordyZ = wordyFrom s f p := by
  intro f
  induction f with
  | zero => intro p _ _ _; rfl
  | succ f ih =>
    intro p h1 h2 h3
    simp only [runesFrom, wordyFrom] at h3 ⊢
    by_cases hp : p < s.size
    · rw [if_pos hp] at h3 ⊢
      rw [if_pos hp]
      obtain ⟨w1, w2, w3⟩ := decode_width s p hp
      by_cases hb : (Utf8.decode s p).1 = 65533 ∧ (Utf8.decode s p).2 = 1
      · rw [if_pos hb] at h3; cases h3
      · rw [if_neg hb] at h3 ⊢
        simp only at h3 ⊢
        rw [List.all_cons, ih _ (by omega) w2 h3]
    · rw [if_neg hp, if_neg hp]; rfl
/-- Is a text a name? -/
def nameB (s : ByteArray) : Bool := Lib.validD s.data.toList && wordyB s && (decide (byteAt s 0 < 48) || decide (57 < byteAt s 0)) && decide (Lib.runeCount s ≤ 12)
theorem lex_name_is (s : ByteArray) (hs : s.size ≤ 1000000000) : lex_Name.f s = some (nameB s) := by
  have hcount : utf8_RuneCountInString.f s = some (Lib.runeCount s : Int) := if_pos (by omega)
  have hvalid : utf8_ValidString.f s = some (Lib.validD s.data.toList) := if_pos (by omega)
  unfold lex_Name.f nameB lex_wordy.f
  rw [hvalid, hcount]
  simp only [Option.bind_some]
  by_cases h1 : Lib.validD s.data.toList = true
  · rw [if_pos h1, h1]
    by_cases h2 : wordyB s = true
    · rw [if_pos h2, h2]
      have hpos : 0 < s.size := by
        have := h2
        unfold wordyB at this
        simp at this
        exact this.2
      rw [if_pos (by omega), show (0 : Int) = ((0 : Nat) : Int) from rfl, bt_byteAt s 0 hpos]
      simp only [Bool.true_and]
      by_cases h3 : byteAt s 0 < 48
      · rw [if_pos (by omega)]
        simp [h3]
        norm_cast
      · rw [if_neg (by omega)]
        by_cases h4 : 57 < byteAt s 0
        · rw [if_pos (by omega)]
          simp [h3, h4]
          norm_cast
        · rw [if_neg (by omega)]
          simp [h3, h4]
    · rw [if_neg h2]
      simp [h2]
  · rw [if_neg h1]
    simp [h1]
theorem wordy_is (r : Int) : malthouseref01_wordy.f r = some (wordyZ r) := by
  unfold malthouseref01_wordy.f malthouseref01_Class.f wordyZ
  simp only [Option.bind_some]
  by_cases h : classZ r = 2
  · rw [if_pos h, h]; rfl
  · rw [if_neg h]
    simp [h]
theorem name_loop (S : ByteArray) (rs qs : List Int) (hl : rs.length ≤ 1000000000) : ∀ (f i k : Nat), rs.length ≤ i + f → i ≤ rs.length → malthouseref01_Name.l0 (k + f + 1) (i : Int) S rs qs = some ((rs.drop i).all wordyZ) := by
  intro f
  induction f with
  | zero =>
    intro i k h1 h2
    simp only [malthouseref01_Name.l0]
    rw [if_neg (by omega), List.drop_eq_nil_of_le (by omega)]
    rfl
  | succ f ih =>
    intro i k h1 h2
    rw [show k + (f + 1) + 1 = (k + f + 1) + 1 by omega]
    have ih' := fun i => ih i k
    clear ih
    generalize k + f + 1 = K at *
    simp only [malthouseref01_Name.l0]
    by_cases hi : i < rs.length
    · rw [if_pos (by omega), if_pos (by omega), wordy_is, List.drop_eq_getElem_cons hi]
      simp only [Option.bind_some]
      have e : rd rs (i : Int) = rs[i] := getD_at rs 0 i hi
      rw [e, List.all_cons]
      cases h : wordyZ rs[i]
      · rw [if_neg (by simp)]; rfl
      · rw [if_pos rfl, wrap_small _ (by omega) (by omega)]
        have := ih' (i + 1) (by omega) (by omega)
        rw [show (i : Int) + 1 = ((i + 1 : Nat) : Int) by omega, this]
        rfl
    · rw [if_neg (by omega), List.drop_eq_nil_of_le (by omega)]
      rfl
theorem ref_name_is (s : ByteArray) (hs : s.size ≤ 1000000000) (k : Nat) : malthouseref01_Name.f (k + s.size + 20) s = some (nameB s) := by
  unfold malthouseref01_Name.f
  rw [show k + s.size + 20 = (k + 11) + s.size + 9 by omega, runes_is s hs]
  simp only [Option.bind_some]
  have hv := valid_from s s.size 0 (by omega) (by omega)
  rw [List.drop_zero] at hv
  unfold nameB
  rw [← hv]
  cases hok : (runesFrom s s.size 0).2.2 with
  | false =>
    rw [if_neg (by simp)]
    rw [show k + 11 + s.size + 9 = (k + s.size + 19) + 1 by omega]
    simp only [malthouseref01_Name.j0]
    simp
  | true =>
    have hc := count_from s s.size 0 (by omega) (by omega) hok
    have hw := wordy_from s s.size 0 (by omega) (by omega) hok
    have hle := Lib.runeCount_le s
    have hrc : Lib.runeCount s = (runesFrom s s.size 0).1.length := hc.symm
    have hwb : wordyB s = ((runesFrom s s.size 0).1.all wordyZ && decide (0 < s.size)) := by unfold wordyB; rw [hw]
    rw [if_pos rfl, hrc, hwb]
    have hfirst : 0 < s.size → ∃ l, (runesFrom s s.size 0).1 = ((Utf8.decode s 0).1 : Int) :: l := by
      intro hp
      obtain ⟨m, hm⟩ : ∃ m, s.size = m + 1 := ⟨s.size - 1, by omega⟩
      rw [hm] at hok ⊢
      simp only [runesFrom] at hok ⊢
      rw [if_pos hp] at hok ⊢
      split at hok
      · cases hok
      · rename_i hb
        rw [if_neg hb]
        exact ⟨_, rfl⟩
    have hempty : ¬ 0 < s.size → (runesFrom s s.size 0).1 = [] := by
      intro hp
      rw [show s.size = 0 by omega]
      rfl
    rw [hrc] at hle
    generalize (runesFrom s s.size 0).1 = rs at *
    generalize (runesFrom s s.size 0).2.1 = qs at *
    have hj := name_loop s rs qs (by omega) rs.length 0 (k + 19 + (s.size - rs.length) - 1) (by omega) (by omega)
    rw [show k + 19 + (s.size - rs.length) - 1 + rs.length + 1 = k + s.size + 19 by omega, List.drop_zero] at hj
    have hjt : malthouseref01_Name.j0 (k + 11 + s.size + 9) true s rs qs = some false := by
      rw [show k + 11 + s.size + 9 = (k + s.size + 19) + 1 by omega]
      simp only [malthouseref01_Name.j0]
      simp
    have hjf : malthouseref01_Name.j0 (k + 11 + s.size + 9) false s rs qs = some (rs.all wordyZ) := by
      rw [show k + 11 + s.size + 9 = (k + s.size + 19) + 1 by omega]
      simp only [malthouseref01_Name.j0]
      rw [if_neg (by simp)]
      exact hj
    by_cases hz : rs.length = 0
    · rw [if_pos (by omega), hjt]
      have hp : ¬ 0 < s.size := by
        intro hp
        obtain ⟨l, hl⟩ := hfirst hp
        rw [hl] at hz
        simp at hz
      simp [hp]
    · rw [if_neg (by omega)]
      by_cases h12 : rs.length ≤ 12
      · rw [if_neg (by omega), if_pos (by omega)]
        have hp : 0 < s.size := by
          rcases Nat.lt_or_ge 0 s.size with h | h
          · exact h
          · exact absurd (by rw [hempty (by omega)]; rfl) hz
        obtain ⟨l, hl⟩ := hfirst hp
        have e : rd rs 0 = ((Utf8.decode s 0).1 : Int) := by rw [hl]; rfl
        rw [e]
        unfold malthouseref01_Class.f
        simp only [Option.bind_some]
        have hall : rs.all wordyZ = (wordyZ (Utf8.decode s 0).1 && l.all wordyZ) := by rw [hl]; rfl
        -- the first rune is a letter just where it is a letter or digit and no digit
        have hd : (classZ (Utf8.decode s 0).1 != 2) = (!wordyZ (Utf8.decode s 0).1 || !(decide (byteAt s 0 < 48) || decide (57 < byteAt s 0))) := by
          have hcl : ∀ r : Int, classZ r = 3 ↔ 48 ≤ r ∧ r ≤ 57 := by
            intro r
            unfold classZ
            constructor
            · intro h
              repeat' split at h
              all_goals omega
            · rintro ⟨a, b⟩
              rw [if_neg (by omega), if_neg (by omega), if_neg (by omega), if_pos ⟨a, b⟩]
          rcases Nat.lt_or_ge (byteAt s 0) 128 with hb | hb
          · rw [decode_small s 0 hb]
            simp only
            have h3 := hcl (byteAt s 0)
            unfold wordyZ
            by_cases d2 : classZ (byteAt s 0) = 2
            · have : ¬ (48 ≤ (byteAt s 0 : Int) ∧ (byteAt s 0 : Int) ≤ 57) := by rw [← h3]; omega
              simp [d2]
              omega
            · by_cases d3 : classZ (byteAt s 0) = 3
              · have := h3.1 d3
                simp [d3]
                omega
              · have b2 : (classZ (byteAt s 0) == 2) = false := by simpa using d2
                have b3 : (classZ (byteAt s 0) == 3) = false := by simpa using d3
                have b4 : (classZ (byteAt s 0) != 2) = true := by simpa using d2
                rw [b2, b3, b4]
                rfl
          · have hge : 128 ≤ (Utf8.decode s 0).1 := by
              rw [Lib.decode_at]
              have h0 := byteAt_lt s 0
              unfold byteAt at hb h0
              unfold Lib.decodeN
              repeat' split
              all_goals (simp only; omega)
            have h3 := hcl ((Utf8.decode s 0).1 : Int)
            have n3 : classZ ((Utf8.decode s 0).1 : Int) ≠ 3 := by rw [ne_eq, h3]; omega
            unfold wordyZ
            by_cases d2 : classZ ((Utf8.decode s 0).1 : Int) = 2
            · simp [d2]; omega
            · have b2 : (classZ ((Utf8.decode s 0).1 : Int) == 2) = false := by simpa using d2
              have b3 : (classZ ((Utf8.decode s 0).1 : Int) == 3) = false := by simpa using n3
              have b4 : (classZ ((Utf8.decode s 0).1 : Int) != 2) = true := by simpa using d2
              rw [b2, b3, b4]
              rfl
        rw [hd]
        have hdp : decide (0 < s.size) = true := decide_eq_true hp
        have hd12 : decide (rs.length ≤ 12) = true := decide_eq_true h12
        rw [hdp, hd12, Bool.and_true, Bool.and_true, Bool.true_and]
        cases hw1 : wordyZ (Utf8.decode s 0).1
        · rw [hall, hw1]; simp [hjt]
        · cases hx : (decide (byteAt s 0 < 48) || decide (57 < byteAt s 0))
          · simp [hjt]
          · simp [hjf]
      · rw [if_pos (by omega), hjt]
        have : decide (rs.length ≤ 12) = false := decide_eq_false h12
        rw [this]
        simp
end Go.Proofs.YtejecmjajdhiiaaDoor.Print
/-! ### LgWrong -/
namespace Go.Proofs.YtejecmjajdhiiaaDoor.Print
open Go.RowKit Go.Proofs.YtejecmjajdhiiaaDoorW.PrintWords Go.Proofs.YtejecmjajdhiiaaDoorW.PrintLast Go.Proofs.YtejecmjajdhiiaaDoorW.PrintMore
set_option linter.unusedSimpArgs false
set_option linter.unusedVariables false
/-- May a lot stand here, with so many grams left, behind a lot of that name? -/
def lotB (left : Int) (prev : Option ByteArray) (x : S37) : Bool := nameB x.f0 && decide (1 ≤ x.f1) && decide (x.f1 ≤ left) && decide (prev ≠ some x.f0)
/-- What is left, where no lot is wrong. -/
def leftM : Int → Option ByteArray → List S37 → Option Int
  | left, _, [] => some left
  | left, prev, x :: l => if lotB left prev x = true then leftM (left - x.f1) (some x.f0) l else none
def wrongR (cap : Int) : Option Int → Int × Bool
  | some left => (cap - left, false)
  | none => (0, true)
def prevOf (L : List S37) : Nat → Option ByteArray
  | 0 => none
  | i + 1 => (L[i]?).map (·.f0)
theorem wrong_loop (name : ByteArray) (cap : Int) (hc1 : -9223372036854775808 ≤ cap) (hc2 : cap ≤ 9223372036854775807) (L : List S37) (hL : ∀ x ∈ L, x.f0.size ≤ 1000000000) (hl : L.length ≤ 1000000) : ∀ (f i k : Nat) (left : Int), L.length ≤ i + f → i ≤ L.length → (left = cap ∨ 0 ≤ left ∧ left ≤ cap) →
    ledger_wrong.l0 (k + f + 1) left L (L.length : Int) (i : Int) name cap L = some (wrongR cap (leftM left (prevOf L i) (L.drop i))) := by
  intro f
  induction f with
  | zero =>
    intro i k left h1 h2 h3
    simp only [ledger_wrong.l0]
    rw [if_neg (by omega), List.drop_eq_nil_of_le (by omega)]
    show some (wrap64 (cap - left), false) = some (cap - left, false)
    rw [wrap_small _ (by omega) (by omega)]
  | succ f ih =>
    intro i k left h1 h2 h3
    rw [show k + (f + 1) + 1 = (k + f + 1) + 1 by omega]
    have ih' := fun i => ih i k
    clear ih
    generalize k + f + 1 = K at *
    simp only [ledger_wrong.l0]
    by_cases hi : i < L.length
    · have e : rd_T37 L (i : Int) = L[i] := getD_at L _ i hi
      rw [if_pos (by omega), if_pos (by omega), if_pos (by omega), e, lex_name_is _ (hL _ (List.getElem_mem hi)), List.drop_eq_getElem_cons hi]
      simp only [Option.bind_some]
      obtain ⟨x, hx⟩ : ∃ x, L[i] = x := ⟨_, rfl⟩
      rw [hx]
      have hx2 : L[i]? = some x := by rw [List.getElem?_eq_getElem hi, hx]
      have hnext : leftM left (prevOf L i) (x :: L.drop (i + 1)) = if lotB left (prevOf L i) x = true then leftM (left - x.f1) (some x.f0) (L.drop (i + 1)) else none := rfl
      rw [hnext]
      have hp : prevOf L (i + 1) = some x.f0 := by show (L[i]?).map (·.f0) = _; rw [hx2]; rfl
      cases hn : nameB x.f0
      · rw [if_neg (by simp), if_neg (by unfold lotB; simp [hn])]
        rfl
      rw [if_pos rfl]
      by_cases h4 : x.f1 < 1
      · rw [if_pos h4, if_neg (by unfold lotB; simp only [Bool.and_eq_true, decide_eq_true_eq]; omega)]
        rfl
      rw [if_neg h4]
      by_cases h5 : x.f1 > left
      · rw [if_pos h5, if_neg (by unfold lotB; simp only [Bool.and_eq_true, decide_eq_true_eq]; omega)]
        rfl
      rw [if_neg h5]
      have hstep := ih' (i + 1) (left - x.f1) (by omega) (by omega) (by right; omega)
      rw [hp] at hstep
      rw [wrap_small (left - x.f1) (by omega) (by omega), wrap_small ((i : Int) + 1) (by omega) (by omega), show (i : Int) + 1 = ((i + 1 : Nat) : Int) by omega, hstep]
      cases i with
      | zero =>
        rw [if_neg (by omega), if_pos (by unfold lotB; simp only [Bool.and_eq_true, decide_eq_true_eq]; exact ⟨⟨⟨hn, by omega⟩, by omega⟩, by simp [prevOf]⟩)]
      | succ i =>
        have e2 : rd_T37 L (wrap64 (((i + 1 : Nat) : Int) - 1)) = L[i] := by
          rw [wrap_small _ (by omega) (by omega), show ((i + 1 : Nat) : Int) - 1 = (i : Int) by omega]
          exact getD_at L _ i (by omega)
        have hpi : prevOf L (i + 1) = some L[i].f0 := by show (L[i]?).map (·.f0) = _; rw [List.getElem?_eq_getElem (by omega)]; rfl
        rw [if_pos (by omega), e2, wrap_small _ (by omega) (by omega), if_pos (by omega), if_pos (by omega)]
        by_cases h6 : L[i].f0 = x.f0
        · rw [if_pos (by rw [h6]), if_neg (by unfold lotB; rw [hpi, h6]; simp)]
          rfl
        · rw [if_neg (fun h => h6 (by have := bytes_beq L[i].f0 x.f0; rw [h, beq_self_eq_true] at this; exact of_decide_eq_true this.symm)), if_pos (by unfold lotB; simp only [Bool.and_eq_true, decide_eq_true_eq]; exact ⟨⟨⟨hn, by omega⟩, by omega⟩, by rw [hpi]; simpa using h6⟩)]
    · rw [if_neg (by omega), List.drop_eq_nil_of_le (by omega)]
      show some (wrap64 (cap - left), false) = some (cap - left, false)
      rw [wrap_small _ (by omega) (by omega)]
theorem wrong_is (name : ByteArray) (cap : Int) (hc1 : -9223372036854775808 ≤ cap) (hc2 : cap ≤ 9223372036854775807) (L : List S37) (hL : ∀ x ∈ L, x.f0.size ≤ 1000000000) (hl : L.length ≤ 1000000) (k : Nat) : ledger_wrong.f (k + L.length + 1) name cap L = some (wrongR cap (leftM cap none L)) := by
  unfold ledger_wrong.f
  have := wrong_loop name cap hc1 hc2 L hL hl L.length 0 k cap (by omega) (by omega) (.inl rfl)
  rw [List.drop_zero] at this
  exact this
end Go.Proofs.YtejecmjajdhiiaaDoor.Print
/-! ### LgCheck -/
namespace Go.Proofs.YtejecmjajdhiiaaDoor.Print
open Go.RowKit Go.Proofs.YtejecmjajdhiiaaDoorW.PrintWords Go.Proofs.YtejecmjajdhiiaaDoorW.PrintLast Go.Proofs.YtejecmjajdhiiaaDoorW.PrintMore
set_option linter.unusedSimpArgs false
set_option linter.unusedVariables false
def vesB (x : S25) : Bool := nameB x.f0 && decide (1 ≤ x.f1) && decide (x.f1 ≤ 1125899906842624) && (leftM x.f1 none x.f2).isSome
def checkGo (l : List S25) : Nat → List S25 → Int
  | _, [] => 0
  | i, x :: t => if vesB x = true then (if firstFrom (vesselIs x.f0) 0 l < i then 5 else if 5 < x.f2.length then 2 else checkGo l (i + 1) t) else 1
def checkM (l : List S25) : Int := if 6 < l.length then 2 else checkGo l 0 l
/-- What the walks may be handed. -/
structure LtV (m : Nat) (x : S25) : Prop where
  name : x.f0.size ≤ 1000000000
  lo : -9223372036854775808 ≤ x.f1
  hi : x.f1 ≤ 9223372036854775807
  len : x.f2.length ≤ m
  lots : ∀ y ∈ x.f2, y.f0.size ≤ 1000000000
theorem check_flag (K : Nat) (l : List S25) (i : Int) (x : S25) :
    (if nameB x.f0 = true then (if x.f1 < 1 then ledger_Check.j1 K l i l (l.length : Int) i (decide (x.f1 < 1)) x.f0 x.f1 x.f2 else (if x.f1 > 1125899906842624 then ledger_Check.j1 K l i l (l.length : Int) i (decide (x.f1 > 1125899906842624)) x.f0 x.f1 x.f2 else ledger_Check.j1 K l i l (l.length : Int) i (wrongR x.f1 (leftM x.f1 none x.f2)).2 x.f0 x.f1 x.f2)) else ledger_Check.j1 K l i l (l.length : Int) i (!nameB x.f0) x.f0 x.f1 x.f2)
      = ledger_Check.j1 K l i l (l.length : Int) i (!vesB x) x.f0 x.f1 x.f2 := by
  unfold vesB
  cases hn : nameB x.f0
  · rw [if_neg (by simp)]; simp
  · rw [if_pos rfl]
    by_cases h1 : x.f1 < 1
    · rw [if_pos h1]
      have : ¬ 1 ≤ x.f1 := by omega
      simp [h1, this]
    · rw [if_neg h1]
      have h1' : 1 ≤ x.f1 := by omega
      by_cases h2 : x.f1 > 1125899906842624
      · rw [if_pos h2]
        have : ¬ x.f1 ≤ 1125899906842624 := by omega
        simp [h2, this]
      · rw [if_neg h2]
        have h2' : x.f1 ≤ 1125899906842624 := by omega
        cases leftM x.f1 none x.f2 <;> simp [wrongR, h1', h2']
theorem check_loop (m : Nat) (hm : m ≤ 1000000) (l : List S25) (hl : l.length ≤ 1000000) (hs : ∀ x ∈ l, LtV m x) : ∀ (f i k : Nat), l.length ≤ i + f → i ≤ l.length → ledger_Check.l0 (k + 2 * f + m + 2) l l (l.length : Int) (i : Int) = some (checkGo l i (l.drop i)) := by
  intro f
  induction f with
  | zero =>
    intro i k h1 h2
    simp only [ledger_Check.l0]
    rw [if_neg (by omega), List.drop_eq_nil_of_le (by omega)]
    rfl
  | succ f ih =>
    intro i k h1 h2
    have ih' := fun i => ih i k
    clear ih
    rw [show k + 2 * (f + 1) + m + 2 = (k + 2 * f + m + 2) + 1 + 1 by omega]
    simp only [ledger_Check.l0]
    by_cases hi : i < l.length
    · have e : rd_T25 l (i : Int) = l[i] := getD_at l _ i hi
      obtain ⟨x, hx⟩ : ∃ x, l[i] = x := ⟨_, rfl⟩
      have hxs := hs _ (List.getElem_mem hi)
      rw [if_pos (by omega), if_pos (by omega), if_pos (by omega), e, List.drop_eq_getElem_cons hi]
      rw [hx] at hxs ⊢
      have hw := wrong_is x.f0 x.f1 hxs.lo hxs.hi x.f2 hxs.lots (by have := hxs.len; omega) (k + 2 * f + m + 2 - x.f2.length)
      rw [show k + 2 * f + m + 2 - x.f2.length + x.f2.length + 1 = k + 2 * f + m + 2 + 1 by have := hxs.len; omega] at hw
      rw [hw, lex_name_is _ hxs.name]
      simp only [Option.bind_some]
      rw [check_flag]
      simp only [ledger_Check.j1]
      have hc : checkGo l i (x :: l.drop (i + 1)) = if vesB x = true then (if firstFrom (vesselIs x.f0) 0 l < i then 5 else if 5 < x.f2.length then 2 else checkGo l (i + 1) (l.drop (i + 1))) else 1 := rfl
      rw [hc]
      cases hv : vesB x
      · rw [if_pos (by simp), if_neg (by simp)]
      · rw [if_neg (by simp), if_pos rfl]
        have hf : ledger_find.f l x.f0 = some (firstFrom (vesselIs x.f0) 0 l) := by
          unfold ledger_find.f
          rw [if_pos (by omega)]
        rw [hf]
        simp only [Option.bind_some]
        by_cases h5 : firstFrom (vesselIs x.f0) 0 l < i
        · rw [if_pos h5, if_pos h5]
        rw [if_neg h5, if_neg h5]
        by_cases h6 : 5 < x.f2.length
        · rw [if_pos (by omega), if_pos h6]
        rw [if_neg (by omega), if_neg h6, wrap_small _ (by omega) (by omega), show (i : Int) + 1 = ((i + 1 : Nat) : Int) by omega]
        exact ih' (i + 1) (by omega) (by omega)
    · rw [if_neg (by omega), List.drop_eq_nil_of_le (by omega)]
      rfl
theorem check_is (m : Nat) (hm : m ≤ 1000000) (l : List S25) (hl : l.length ≤ 1000000) (hs : ∀ x ∈ l, LtV m x) (k : Nat) : ledger_Check.f (k + m + 14) l = some (checkM l) := by
  unfold ledger_Check.f checkM
  by_cases h6 : 6 < l.length
  · rw [if_pos (by omega), if_pos h6]
  · rw [if_neg (by omega), if_neg h6]
    have := check_loop m hm l hl hs l.length 0 (k + 12 - 2 * l.length) (by omega) (by omega)
    rw [show k + 12 - 2 * l.length + 2 * l.length + m + 2 = k + m + 14 by omega, List.drop_zero] at this
    exact this
/-- How full a vessel is. -/
def levelM (x : S25) : Int := if checkM [x] = 0 then (wrongR x.f1 (leftM x.f1 none x.f2)).1 else 0
theorem level_is (m : Nat) (hm : m ≤ 1000000) (x : S25) (hs : LtV m x) (k : Nat) : ledger_Level.f (k + m + 14) x.f0 x.f1 x.f2 = some (levelM x) := by
  unfold ledger_Level.f levelM
  have h1 := check_is m hm [x] (by simp) (by simpa using hs) k
  have h2 : ([(⟨x.f0, x.f1, x.f2⟩ : S25)] : List S25) = [x] := rfl
  rw [h2, h1]
  simp only [Option.bind_some]
  have hw := wrong_is x.f0 x.f1 hs.lo hs.hi x.f2 hs.lots (by have := hs.len; omega) (k + m + 13 - x.f2.length)
  rw [show k + m + 13 - x.f2.length + x.f2.length + 1 = k + m + 14 by have := hs.len; omega] at hw
  split
  · rw [hw]; rfl
  · rfl
end Go.Proofs.YtejecmjajdhiiaaDoor.Print
/-! ### LgGood -/
namespace Go.Proofs.YtejecmjajdhiiaaDoor.Print
open Go.RowKit Go.Proofs.YtejecmjajdhiiaaDoorW.PrintWords Go.Proofs.YtejecmjajdhiiaaDoorW.PrintLast Go.Proofs.YtejecmjajdhiiaaDoorW.PrintMore
set_option linter.unusedSimpArgs false
set_option linter.unusedVariables false
theorem checkGo_zero (l : List S25) : ∀ (t : List S25) (i : Nat), checkGo l i t = 0 ↔ ∀ (j : Nat) (x : S25), t[j]? = some x → vesB x = true ∧ ¬ firstFrom (vesselIs x.f0) 0 l < ((i + j : Nat) : Int) ∧ x.f2.length ≤ 5
  | [], i => by simp [checkGo]
  | y :: t, i => by
    have ih := checkGo_zero l t (i + 1)
    have e : checkGo l i (y :: t) = if vesB y = true then (if firstFrom (vesselIs y.f0) 0 l < i then 5 else if 5 < y.f2.length then 2 else checkGo l (i + 1) t) else 1 := rfl
    rw [e]
    constructor
    · intro h j x hx
      split at h
      · rename_i hv
        split at h
        · cases h
        · rename_i hf
          split at h
          · cases h
          · rename_i hl
            cases j with
            | zero =>
              obtain rfl := Option.some.inj hx
              exact ⟨hv, by simpa using hf, by omega⟩
            | succ j =>
              have := ih.1 h j x hx
              rw [show i + 1 + j = i + (j + 1) by omega] at this
              exact this
      · cases h
    · intro h
      obtain ⟨h1, h2, h3⟩ := h 0 y rfl
      rw [if_pos h1, if_neg (by simpa using h2), if_neg (by omega)]
      refine ih.2 (fun j x hx => ?_)
      have := h (j + 1) x hx
      rw [show i + (j + 1) = i + 1 + j by omega] at this
      exact this
structure Good (l : List S25) : Prop where
  len : l.length ≤ 6
  all : ∀ (j : Nat) (x : S25), l[j]? = some x → vesB x = true ∧ ¬ firstFrom (vesselIs x.f0) 0 l < (j : Int) ∧ x.f2.length ≤ 5
theorem good_iff (l : List S25) : checkM l = 0 ↔ Good l := by
  unfold checkM
  constructor
  · intro h
    split at h
    · cases h
    · refine ⟨by omega, fun j x hx => ?_⟩
      have := (checkGo_zero l l 0).1 h j x hx
      rwa [Nat.zero_add] at this
  · intro h
    rw [if_neg (by have := h.len; omega)]
    refine (checkGo_zero l l 0).2 (fun j x hx => ?_)
    rw [Nat.zero_add]
    exact h.all j x hx
theorem firstFrom_names (a : ByteArray) : ∀ (l l' : List S25) (i : Nat), l.map (·.f0) = l'.map (·.f0) → firstFrom (vesselIs a) i l = firstFrom (vesselIs a) i l'
  | [], [], _, _ => rfl
  | [], _ :: _, _, h => by simp at h
  | _ :: _, [], _, h => by simp at h
  | x :: l, y :: l', i, h => by
    simp only [List.map_cons, List.cons.injEq] at h
    unfold firstFrom
    rw [firstFrom_names a l l' (i + 1) h.2]
    unfold vesselIs
    rw [h.1]
theorem names_turn {l : List S25} {i : Nat} {x : S25} (m : List S37) (hx : l[i]? = some x) : (l.set i (turned x m)).map (·.f0) = l.map (·.f0) := by
  rw [List.map_set]
  exact set_same (by rw [List.getElem?_map, hx]; rfl)
theorem Good.turn {l : List S25} (h : Good l) {i : Nat} {x : S25} {m : List S37} (hx : l[i]? = some x) (hv : vesB (turned x m) = true) (hm : m.length ≤ 5) : Good (l.set i (turned x m)) := by
  refine ⟨by rw [List.length_set]; exact h.len, fun j y hy => ?_⟩
  rw [firstFrom_names _ _ l 0 (names_turn m hx)]
  by_cases hj : j = i
  · subst hj
    rw [List.getElem?_set_self (List.getElem?_eq_some_iff.1 hx).1] at hy
    obtain rfl := Option.some.inj hy
    exact ⟨hv, (h.all j x hx).2.1, hm⟩
  · rw [List.getElem?_set_ne (Ne.symm hj)] at hy
    exact h.all j y hy
def sumL (l : List S37) : Int := l.foldr (fun x s => x.f1 + s) 0
theorem sumL_cons (x : S37) (l : List S37) : sumL (x :: l) = x.f1 + sumL l := rfl
/-- Lots that stand well: by names and grams alone. -/
def fine : Option ByteArray → List S37 → Bool
  | _, [] => true
  | p, x :: l => nameB x.f0 && decide (1 ≤ x.f1) && decide (p ≠ some x.f0) && fine (some x.f0) l
theorem fine_sum : ∀ (l : List S37) (p : Option ByteArray), fine p l = true → 0 ≤ sumL l
  | [], _, _ => Int.le_refl _
  | x :: l, p, h => by
    unfold fine at h
    simp only [Bool.and_eq_true, decide_eq_true_eq] at h
    have := fine_sum l _ h.2
    rw [sumL_cons]
    omega
theorem leftM_fine : ∀ (l : List S37) (left : Int) (p : Option ByteArray), leftM left p l = if fine p l && (l.isEmpty || decide (sumL l ≤ left)) then some (left - sumL l) else none
  | [], left, p => by
    show some left = some (left - 0)
    rw [Int.sub_zero]
  | x :: l, left, p => by
    have ih := leftM_fine l (left - x.f1) (some x.f0)
    have e : leftM left p (x :: l) = if lotB left p x = true then leftM (left - x.f1) (some x.f0) l else none := rfl
    rw [e, ih]
    have ef : fine p (x :: l) = (nameB x.f0 && decide (1 ≤ x.f1) && decide (p ≠ some x.f0) && fine (some x.f0) l) := rfl
    rw [ef, sumL_cons]
    unfold lotB
    cases hf : fine (some x.f0) l
    · simp
    · have hs := fine_sum l _ hf
      cases hn : nameB x.f0
      · simp
      by_cases hp : p = some x.f0
      · simp [hp]
      by_cases h1 : 1 ≤ x.f1
      · by_cases h2 : x.f1 ≤ left
        · cases l with
          | nil =>
            have h0 : sumL ([] : List S37) = 0 := rfl
            simp [hp, h1, h2, h0]
          | cons z t =>
            by_cases h3 : x.f1 + sumL (z :: t) ≤ left
            · have h4 : sumL (z :: t) ≤ left - x.f1 := by omega
              simp [hp, h1, h2, h3, h4]
              omega
            · have h4 : ¬ sumL (z :: t) ≤ left - x.f1 := by omega
              simp [hp, h1, h2, h3, h4]
        · have h3 : ¬ x.f1 + sumL l ≤ left := by omega
          simp [hp, h1, h2, h3]
      · simp [h1]
end Go.Proofs.YtejecmjajdhiiaaDoor.Print
/-! ### LgSum -/
namespace Go.Proofs.YtejecmjajdhiiaaDoor.Print
open Go.RowKit Go.Proofs.YtejecmjajdhiiaaDoorW.PrintWords Go.Proofs.YtejecmjajdhiiaaDoorW.PrintLast Go.Proofs.YtejecmjajdhiiaaDoorW.PrintMore
set_option linter.unusedSimpArgs false
set_option linter.unusedVariables false
theorem fine_cons (p : Option ByteArray) (x : S37) (l : List S37) : fine p (x :: l) = true ↔ nameB x.f0 = true ∧ 1 ≤ x.f1 ∧ p ≠ some x.f0 ∧ fine (some x.f0) l = true := by
  have e : fine p (x :: l) = (nameB x.f0 && decide (1 ≤ x.f1) && decide (p ≠ some x.f0) && fine (some x.f0) l) := rfl
  rw [e]
  simp only [Bool.and_eq_true, decide_eq_true_eq]
  constructor
  · rintro ⟨⟨⟨h1, h2⟩, h3⟩, h4⟩
    exact ⟨h1, h2, h3, h4⟩
  · rintro ⟨h1, h2, h3, h4⟩
    exact ⟨⟨⟨h1, h2⟩, h3⟩, h4⟩
theorem fine_none {p : Option ByteArray} {l : List S37} (h : fine p l = true) : fine none l = true := by
  cases l with
  | nil => rfl
  | cons x l =>
    obtain ⟨h1, h2, h3, h4⟩ := (fine_cons p x l).1 h
    exact (fine_cons none x l).2 ⟨h1, h2, by simp, h4⟩
theorem takeM_fine : ∀ (l : List S37) (p : Option ByteArray) (n : Int), fine p l = true → fine none (takeM l n).1 = true
  | [], _, _, _ => rfl
  | x :: l, p, n, h => by
    obtain ⟨h1, h2, h3, h4⟩ := (fine_cons p x l).1 h
    rw [takeM]
    split
    · split
      · exact takeM_fine l _ _ h4
      · rename_i hn hz
        refine (fine_cons none _ l).2 ⟨h1, ?_, by simp, h4⟩
        show 1 ≤ x.f1 - mn n x.f1
        unfold mn at hz ⊢
        split at hz <;> omega
    · exact fine_none h
theorem takeM_sum : ∀ (l : List S37) (p : Option ByteArray) (n : Int), fine p l = true → 0 ≤ n → n ≤ sumL l → sumL (takeM l n).2 = n ∧ sumL (takeM l n).1 = sumL l - n
  | [], _, n, _, h0, h9 => by
    have : sumL ([] : List S37) = 0 := rfl
    rw [this] at h9
    obtain rfl : n = 0 := by omega
    exact ⟨rfl, rfl⟩
  | x :: l, p, n, h, h0, h9 => by
    obtain ⟨h1, h2, h3, h4⟩ := (fine_cons p x l).1 h
    rw [sumL_cons] at h9 ⊢
    have hs := fine_sum l _ h4
    rw [takeM]
    by_cases hn : 0 < n
    · rw [if_pos hn]
      by_cases hx : x.f1 ≤ n
      · have hm : mn n x.f1 = x.f1 := by unfold mn; split <;> omega
        rw [hm, if_pos (by omega)]
        obtain ⟨i1, i2⟩ := takeM_sum l _ (n - x.f1) h4 (by omega) (by omega)
        refine ⟨?_, ?_⟩
        · show (outL x n).f1 + sumL (takeM l (n - x.f1)).2 = n
          have : (outL x n).f1 = x.f1 := hm
          omega
        · show sumL (takeM l (n - x.f1)).1 = _
          omega
      · have hm : mn n x.f1 = n := by unfold mn; split <;> omega
        rw [hm, if_neg (by omega)]
        have e : (outL x n).f1 = n := hm
        refine ⟨?_, ?_⟩
        · show (outL x n).f1 + 0 = n
          omega
        · show (x.f1 - n) + sumL l = _
          omega
    · rw [if_neg hn]
      have e0 : sumL ([] : List S37) = 0 := rfl
      have e1 : sumL (x :: l) = x.f1 + sumL l := rfl
      refine ⟨by show sumL ([] : List S37) = n; omega, by show sumL (x :: l) = _; omega⟩
theorem takeM_out : ∀ (l : List S37) (p : Option ByteArray) (n : Int), fine p l = true → ∀ y ∈ (takeM l n).2, nameB y.f0 = true ∧ 1 ≤ y.f1 ∧ ∃ z ∈ l, z.f0 = y.f0
  | [], _, _, _ => by intro y hy; simp [takeM] at hy
  | x :: l, p, n, h => by
    obtain ⟨h1, h2, h3, h4⟩ := (fine_cons p x l).1 h
    rw [takeM]
    by_cases hn : 0 < n
    · rw [if_pos hn]
      have hm : 1 ≤ mn n x.f1 := by unfold mn; split <;> omega
      split
      · intro y hy
        rcases List.mem_cons.1 hy with rfl | hy
        · exact ⟨h1, hm, x, by simp, rfl⟩
        · obtain ⟨a, b, z, c, d⟩ := takeM_out l _ _ h4 y hy
          exact ⟨a, b, z, by simp [c], d⟩
      · intro y hy
        have hy2 : y = outL x n := by simpa using hy
        subst hy2
        exact ⟨h1, hm, x, by simp, rfl⟩
    · rw [if_neg hn]
      intro y hy
      simp at hy
theorem takeM_rest : ∀ (l : List S37) (n : Int), (takeM l n).1.length ≤ l.length ∧ ∀ y ∈ (takeM l n).1, ∃ z ∈ l, z.f0 = y.f0
  | [], _ => ⟨Nat.le_refl _, by intro y hy; simp [takeM] at hy⟩
  | x :: l, n => by
    obtain ⟨i1, i2⟩ := takeM_rest l (n - mn n x.f1)
    rw [takeM]
    split
    · split
      · refine ⟨by simp only [List.length_cons]; omega, fun y hy => ?_⟩
        obtain ⟨z, a, b⟩ := i2 y hy
        exact ⟨z, by simp [a], b⟩
      · refine ⟨by simp, fun y hy => ?_⟩
        have hy' : y ∈ (⟨x.f0, x.f1 - mn n x.f1⟩ : S37) :: l := hy
        rcases List.mem_cons.1 hy' with rfl | hy
        · exact ⟨x, by simp, rfl⟩
        · exact ⟨y, by simp [hy], rfl⟩
    · exact ⟨Nat.le_refl _, fun y hy => ⟨y, hy, rfl⟩⟩
theorem pourM_cons (z w x : S37) (l : List S37) : pourM (z :: w :: l) x = z :: pourM (w :: l) x := by
  unfold pourM
  rw [List.getLast?_cons_cons]
  cases hg : (w :: l).getLast? with
  | none => simp at hg
  | some y =>
    dsimp only
    by_cases h : y.f0 = x.f0
    · rw [if_pos h, if_pos h]
      rfl
    · rw [if_neg h, if_neg h]
      rfl
theorem pourM_one (z x : S37) : pourM [z] x = if z.f0 = x.f0 then [⟨z.f0, z.f1 + x.f1⟩] else [z, x] := rfl
theorem pour_fine (x : S37) (hn : nameB x.f0 = true) (h1 : 1 ≤ x.f1) : ∀ (l : List S37) (p : Option ByteArray), fine p l = true → (l = [] → p ≠ some x.f0) → fine p (pourM l x) = true
  | [], p, _, hp => (fine_cons p x []).2 ⟨hn, h1, hp rfl, rfl⟩
  | [z], p, h, _ => by
    obtain ⟨a, b, c, _⟩ := (fine_cons p z []).1 h
    rw [pourM_one]
    split
    · exact (fine_cons p _ []).2 ⟨a, by show 1 ≤ z.f1 + x.f1; omega, c, rfl⟩
    · rename_i hz
      exact (fine_cons p _ _).2 ⟨a, b, c, (fine_cons _ x []).2 ⟨hn, h1, by simpa using hz, rfl⟩⟩
  | z :: w :: l, p, h, _ => by
    obtain ⟨a, b, c, d⟩ := (fine_cons p z _).1 h
    rw [pourM_cons]
    exact (fine_cons p z _).2 ⟨a, b, c, pour_fine x hn h1 (w :: l) _ d (fun h => by simp at h)⟩
theorem pour_sum (x : S37) : ∀ (l : List S37), sumL (pourM l x) = sumL l + x.f1
  | [] => by show x.f1 + 0 = 0 + x.f1; omega
  | [z] => by
    rw [pourM_one]
    split
    · show (z.f1 + x.f1) + 0 = (z.f1 + 0) + x.f1
      omega
    · show z.f1 + (x.f1 + 0) = (z.f1 + 0) + x.f1
      omega
  | z :: w :: l => by
    rw [pourM_cons, sumL_cons, sumL_cons, pour_sum x (w :: l)]
    omega
theorem pour_names (x : S37) : ∀ (l : List S37), ∀ y ∈ pourM l x, y.f0 = x.f0 ∨ ∃ z ∈ l, z.f0 = y.f0
  | [] => by intro y hy; have : y = x := by simpa [pourM] using hy
             subst this; exact .inl rfl
  | [z] => by
    intro y hy
    rw [pourM_one] at hy
    split at hy
    · have : y = ⟨z.f0, z.f1 + x.f1⟩ := by simpa using hy
      subst this
      exact .inr ⟨z, by simp, rfl⟩
    · simp at hy
      rcases hy with rfl | rfl
      · exact .inr ⟨_, by simp, rfl⟩
      · exact .inl rfl
  | z :: w :: l => by
    intro y hy
    rw [pourM_cons] at hy
    rcases List.mem_cons.1 hy with rfl | hy
    · exact .inr ⟨_, by simp, rfl⟩
    · rcases pour_names x (w :: l) y hy with h | ⟨q, h1, h2⟩
      · exact .inl h
      · exact .inr ⟨q, by simp [h1], h2⟩
theorem getLast_le : ∀ (l : List S37) (p : Option ByteArray) (q : S37), fine p l = true → l.getLast? = some q → 1 ≤ q.f1 ∧ q.f1 ≤ sumL l
  | [], _, _, _, h => by simp at h
  | [z], p, q, hf, h => by
    obtain ⟨a, b, c, d⟩ := (fine_cons p z []).1 hf
    obtain rfl : z = q := by simpa using h
    exact ⟨b, by show z.f1 ≤ z.f1 + 0; omega⟩
  | z :: w :: l, p, q, hf, h => by
    obtain ⟨a, b, c, d⟩ := (fine_cons p z _).1 hf
    rw [List.getLast?_cons_cons] at h
    obtain ⟨i1, i2⟩ := getLast_le (w :: l) _ q d h
    rw [sumL_cons]
    exact ⟨i1, by omega⟩
end Go.Proofs.YtejecmjajdhiiaaDoor.Print
/-! ### Print7 -/
namespace Go.Proofs.YtejecmjajdhiiaaDoor.Print
open Go.RowKit Go.Proofs.YtejecmjajdhiiaaDoorW.PrintWords Go.Proofs.YtejecmjajdhiiaaDoorW.PrintLast Go.Proofs.YtejecmjajdhiiaaDoorW.PrintMore
attribute [local go_sem] min_two
set_option linter.unusedVariables false
set_option linter.unusedSimpArgs false
mutual
def malthouseref13_Light.l0 : Nat → List (S25) → Int → Option (Bool)
  | 0, _, _ => none
  | k + 1, x0, x3 => if x3 < (x0.length : Int) then (if 0 ≤ x3 then (if (((rd_T25 x0 x3).f2).length : Int) > 50 then (malthouseref13_Light.j1 k x0 x3 true) else (malthouseref13_Light.j1 k x0 x3 (decide ((((rd_T25 x0 x3).f0).size : Int) > 200)))) else (none)) else (some true)
def malthouseref13_Light.j1 : Nat → List (S25) → Int → Bool → Option (Bool)
  | 0, _, _, _ => none
  | k + 1, x0, x3, x29 => if x29 = true then (some false) else (malthouseref13_Light.l1 k x0 x3 0)
def malthouseref13_Light.l1 : Nat → List (S25) → Int → Int → Option (Bool)
  | 0, _, _, _ => none
  | k + 1, x0, x3, x4 => if 0 ≤ x3 then (if x3 < (x0.length : Int) then (if x4 < (((rd_T25 x0 x3).f2).length : Int) then (if 0 ≤ x4 then (if (((rd_T37 ((rd_T25 x0 x3).f2) x4).f0).size : Int) > 200 then (some false) else (malthouseref13_Light.l1 k x0 x3 (wrap64 (x4 + 1)))) else (none)) else (malthouseref13_Light.l0 k x0 (wrap64 (x3 + 1)))) else (none)) else (none)
end
def malthouseref13_Light.f (k : Nat) (l0 : List (S25)) : Option (Bool) := if (l0.length : Int) > 50 then (some false) else (malthouseref13_Light.l0 k l0 0)
set_option maxHeartbeats 8000000 in
set_option maxRecDepth 100000 in
theorem malthouseref13_Light.calls (k : Nat) (A0 : Option Addr) (c0 : Nat) (l0 : List (S25)) (r : Bool) (w : World) (hr0 : Kd.C k25 w A0 l0.length l0) (hc0 : l0.length ≤ c0) (h : malthouseref13_Light.f k l0 = some r) :
    Calls Tryd.prog 11 #[.slice A0 l0.length c0] w fun e w' => e = .returned (.bool r) ∧ Drawn0 w w' := by
  have HR0 := Aside0.mk hr0
  have HC0 := Aside0.mk hc0
  clear hr0 hc0
  have H : (if (l0.length : Int) > 50 then (some false) else (malthouseref13_Light.l0 k l0 0)) = some r := h
  clear h
  by_cases c2 : (l0.length : Int) > 50
  · rw [if_pos c2] at H
    have c2b0 : decide (50 < (l0.length : Int)) = true := decide_eq_true c2
    have c2b1 : decide (50 < l0.length) = true := decide_eq_true (by omega)
    clear c2
    obtain rfl := Option.some.inj H
    go_enter Tryd.func11, Tryd.ntmps11
    go_wp2
    go_ret
    exact ⟨by first | rfl | (simp; done) | (simp [*]; done), by repeat (first | exact Drawn0.refl _ | apply Drawn0.step)⟩
  · rw [if_neg c2] at H
    have c2b0 : decide (50 < (l0.length : Int)) = false := decide_eq_false c2
    have c2b1 : decide (50 < l0.length) = false := decide_eq_false (by omega)
    clear c2
    have H' := Aside0.mk H
    clear H
    go_enter Tryd.func11, Tryd.ntmps11
    go_wp2
    go_loopg [3] k (fun kq v3 w' => ∃ (x3_1 : Int), v3 = .int .i64 x3_1 ∧ Aside0 (malthouseref13_Light.l0 kq l0 x3_1 = some r) ∧ Aside0 (kq ≤ k) ∧ Drawn0 w w')
    case atStart => exact ⟨(0), (by first | rfl | (simp; done) | (simp [*]; done)), H', ⟨Nat.le_refl _⟩, by repeat (first | exact Drawn0.refl _ | apply Drawn0.step)⟩
    case round =>
      clear H'
      try clear c1
      try clear c2
      try clear c2b0
      try clear c2b1
      try clear p2
      obtain ⟨x3_1, rfl, HA, HK1, ⟨m1, rfl⟩⟩ := hrel
      cases gk with
      | zero => exact absurd HA.out (by simp [malthouseref13_Light.l0])
      | succ k1 =>
        have H := HA.out
        clear HA
        simp only [malthouseref13_Light.l0] at H
        by_cases c3 : x3_1 < (l0.length : Int)
        · rw [if_pos c3] at H
          have c3b0 : decide (x3_1 < (l0.length : Int)) = true := decide_eq_true c3
          clear c3
          have HC4 := Aside0.mk H
          clear H
          go_upto_region 6 with (fail)
          go_cut [29] (fun v29 wc => ∃ (kq : Nat) (x29_3 : Bool), v29 = .bool x29_3 ∧ Aside0 (malthouseref13_Light.j1 kq l0 x3_1 x29_3 = some r) ∧ Aside0 (kq ≤ k1) ∧ Drawn0 w wc)
          case first =>
            have H := HC4.out
            clear HC4
            by_cases c5 : 0 ≤ x3_1
            · rw [if_pos c5] at H
              have c5b0 : decide (0 ≤ x3_1) = true := decide_eq_true c5
              clear c5
              (first | rw [c5b0] | (simp only [i64_w, i32_w]; rw [c5b0]) | skip)
              by_cases c6 : (((rd_T25 l0 x3_1).f2).length : Int) > 50
              · rw [if_pos c6] at H
                have c6b0 : decide (50 < (((rd_T25 l0 x3_1).f2).length : Int)) = true := decide_eq_true c6
                have c6b1 : decide (50 < ((rd_T25 l0 x3_1).f2).length) = true := decide_eq_true (by omega)
                clear c6
                have H' := Aside0.mk H
                clear H
                have p126 : 0 ≤ (x3_1 : Int) := of_decide_eq_true (by first | (with_reducible assumption) | assumption)
                have q126 : x3_1 < (l0.length : Int) := of_decide_eq_true (by first | (with_reducible assumption) | assumption)
                obtain ⟨ad126, A126_2, c126_2, e126, hx126_0, hx126_1, hx126_2, hl126_2, hi126_2⟩ := at_T25 HR0.out x3_1 p126 q126
                cases e126
                have HR126_2 := Aside0.mk hi126_2
                have HC126_2 := Aside0.mk hl126_2
                clear hi126_2 hl126_2
                replace p126 := eq_true p126
                replace q126 := eq_true q126
                go_wp2
                go_meet
                case rel => exact ⟨_, (true), (by first | rfl | (simp; done) | (simp [*]; done)), H', ⟨by have := HK1.out; first | omega | exact Nat.le_refl _⟩, by repeat (first | exact Drawn0.refl _ | apply Drawn0.step)⟩
              · rw [if_neg c6] at H
                have c6b0 : decide (50 < (((rd_T25 l0 x3_1).f2).length : Int)) = false := decide_eq_false c6
                have c6b1 : decide (50 < ((rd_T25 l0 x3_1).f2).length) = false := decide_eq_false (by omega)
                clear c6
                have H' := Aside0.mk H
                clear H
                have p126 : 0 ≤ (x3_1 : Int) := of_decide_eq_true (by first | (with_reducible assumption) | assumption)
                have q126 : x3_1 < (l0.length : Int) := of_decide_eq_true (by first | (with_reducible assumption) | assumption)
                obtain ⟨ad126, A126_2, c126_2, e126, hx126_0, hx126_1, hx126_2, hl126_2, hi126_2⟩ := at_T25 HR0.out x3_1 p126 q126
                cases e126
                have HR126_2 := Aside0.mk hi126_2
                have HC126_2 := Aside0.mk hl126_2
                clear hi126_2 hl126_2
                replace p126 := eq_true p126
                replace q126 := eq_true q126
                have p127 : 0 ≤ (x3_1 : Int) := of_decide_eq_true (by first | (with_reducible assumption) | assumption)
                have q127 : x3_1 < (l0.length : Int) := of_decide_eq_true (by first | (with_reducible assumption) | assumption)
                obtain ⟨ad127, A127_2, c127_2, e127, hx127_0, hx127_1, hx127_2, hl127_2, hi127_2⟩ := at_T25 HR0.out x3_1 p127 q127
                obtain rfl : ad126 = ad127 := (by injection e127)
                have HR127_2 := Aside0.mk hi127_2
                have HC127_2 := Aside0.mk hl127_2
                clear hi127_2 hl127_2
                replace p127 := eq_true p127
                replace q127 := eq_true q127
                have ea_ := Option.some.inj (hx126_2.symm.trans hx127_2)
                injection ea_ with ea_ en_ ec_
                subst ea_
                subst ec_
                clear en_
                go_wp2
                go_meet
                case rel => exact ⟨_, (decide ((((rd_T25 l0 x3_1).f0).size : Int) > 200)), (by first | rfl | (simp; done) | (simp [*]; done)), H', ⟨by have := HK1.out; first | omega | exact Nat.le_refl _⟩, by repeat (first | exact Drawn0.refl _ | apply Drawn0.step)⟩
            · rw [if_neg c5] at H
              exact absurd H (by simp)
          case rest =>
            clear HC4
            try clear c1
            try clear p1
            try clear q1
            try clear hx1
            try clear c2
            try clear c2b0
            try clear c2b1
            try clear p2
            try clear c3
            try clear c3b0
            try clear c5
            try clear c5b0
            try clear c6
            try clear c6b0
            try clear c6b1
            try clear hx126_0
            try clear hx126_1
            try clear hx126_2
            try clear hx127_0
            try clear hx127_1
            try clear hx127_2
            try clear p126
            try clear p127
            try clear p2
            try clear q126
            try clear q127
            obtain ⟨kq, x29_3, rfl, HA, HJ3, ⟨mc3, rfl⟩⟩ := hcut
            cases kq with
            | zero => exact absurd HA.out (by simp [malthouseref13_Light.j1])
            | succ kj3 =>
              have H := HA.out
              clear HA
              simp only [malthouseref13_Light.j1] at H
              by_cases c7 : x29_3 = true
              · subst c7
                have H1 : (some false) = some r := by rw [if_pos rfl] at H; exact H
                clear H
                have H := H1
                clear H1
                obtain rfl := Option.some.inj H
                go_wp2
                go_ret
                exact ⟨by first | rfl | (simp; done) | (simp [*]; done), by repeat (first | exact Drawn0.refl _ | apply Drawn0.step)⟩
              · replace c7 := Bool.eq_false_iff.mpr c7
                subst c7
                have H1 : (malthouseref13_Light.l1 kj3 l0 x3_1 0) = some r := by rw [if_neg (show ¬ (false = true) by decide)] at H; exact H
                clear H
                have H := H1
                clear H1
                have H' := Aside0.mk H
                clear H
                go_wp2
                go_loopg [4] kj3 (fun kq v4 w' => ∃ (x4_3 : Int), v4 = .int .i64 x4_3 ∧ Aside0 (malthouseref13_Light.l1 kq l0 x3_1 x4_3 = some r) ∧ Aside0 (kq ≤ kj3) ∧ Drawn0 w w')
                case atStart => exact ⟨(0), (by first | rfl | (simp; done) | (simp [*]; done)), H', ⟨Nat.le_refl _⟩, by repeat (first | exact Drawn0.refl _ | apply Drawn0.step)⟩
                case round =>
                  clear H'
                  try clear c1
                  try clear p1
                  try clear q1
                  try clear hx1
                  try clear c2
                  try clear c2b0
                  try clear c2b1
                  try clear p2
                  try clear c3
                  try clear c3b0
                  try clear c5
                  try clear c5b0
                  try clear c6
                  try clear c6b0
                  try clear c6b1
                  try clear c7
                  try clear hx126_0
                  try clear hx126_1
                  try clear hx126_2
                  try clear hx127_0
                  try clear hx127_1
                  try clear hx127_2
                  try clear p1
                  try clear p126
                  try clear p127
                  try clear p2
                  try clear q1
                  try clear q126
                  try clear q127
                  obtain ⟨x4_3, rfl, HA, HK3, ⟨m3, rfl⟩⟩ := hrel
                  cases gk with
                  | zero => exact absurd HA.out (by simp [malthouseref13_Light.l1])
                  | succ k3 =>
                    have H := HA.out
                    clear HA
                    simp only [malthouseref13_Light.l1] at H
                    by_cases c8 : 0 ≤ x3_1
                    · rw [if_pos c8] at H
                      have c8b0 : decide (0 ≤ x3_1) = true := decide_eq_true c8
                      clear c8
                      by_cases c9 : x3_1 < (l0.length : Int)
                      · rw [if_pos c9] at H
                        have c9b0 : decide (x3_1 < (l0.length : Int)) = true := decide_eq_true c9
                        clear c9
                        by_cases c10 : x4_3 < (((rd_T25 l0 x3_1).f2).length : Int)
                        · rw [if_pos c10] at H
                          have c10b0 : decide (x4_3 < (((rd_T25 l0 x3_1).f2).length : Int)) = true := decide_eq_true c10
                          clear c10
                          by_cases c11 : 0 ≤ x4_3
                          · rw [if_pos c11] at H
                            have c11b0 : decide (0 ≤ x4_3) = true := decide_eq_true c11
                            clear c11
                            by_cases c12 : (((rd_T37 ((rd_T25 l0 x3_1).f2) x4_3).f0).size : Int) > 200
                            · rw [if_pos c12] at H
                              have c12b0 : decide (200 < (((rd_T37 ((rd_T25 l0 x3_1).f2) x4_3).f0).size : Int)) = true := decide_eq_true c12
                              have c12b1 : decide (200 < ((rd_T37 ((rd_T25 l0 x3_1).f2) x4_3).f0).size) = true := decide_eq_true (by omega)
                              clear c12
                              obtain rfl := Option.some.inj H
                              have p128 : 0 ≤ (x3_1 : Int) := of_decide_eq_true (by first | (with_reducible assumption) | assumption)
                              have q128 : x3_1 < (l0.length : Int) := of_decide_eq_true (by first | (with_reducible assumption) | assumption)
                              obtain ⟨ad128, A128_2, c128_2, e128, hx128_0, hx128_1, hx128_2, hl128_2, hi128_2⟩ := at_T25 HR0.out x3_1 p128 q128
                              cases e128
                              have HR128_2 := Aside0.mk hi128_2
                              have HC128_2 := Aside0.mk hl128_2
                              clear hi128_2 hl128_2
                              replace p128 := eq_true p128
                              replace q128 := eq_true q128
                              have p129 : 0 ≤ (x3_1 : Int) := of_decide_eq_true (by first | (with_reducible assumption) | assumption)
                              have q129 : x3_1 < (l0.length : Int) := of_decide_eq_true (by first | (with_reducible assumption) | assumption)
                              obtain ⟨ad129, A129_2, c129_2, e129, hx129_0, hx129_1, hx129_2, hl129_2, hi129_2⟩ := at_T25 HR0.out x3_1 p129 q129
                              obtain rfl : ad128 = ad129 := (by injection e129)
                              have HR129_2 := Aside0.mk hi129_2
                              have HC129_2 := Aside0.mk hl129_2
                              clear hi129_2 hl129_2
                              replace p129 := eq_true p129
                              replace q129 := eq_true q129
                              have ea_ := Option.some.inj (hx128_2.symm.trans hx129_2)
                              injection ea_ with ea_ en_ ec_
                              subst ea_
                              subst ec_
                              clear en_
                              have p130 : 0 ≤ (x4_3 : Int) := of_decide_eq_true (by first | (with_reducible assumption) | assumption)
                              have q130 : x4_3 < (((rd_T25 l0 x3_1).f2).length : Int) := of_decide_eq_true (by first | (with_reducible assumption) | assumption)
                              obtain ⟨ad130, e130, hx130_0, hx130_1⟩ := at_T37 HR129_2.out x4_3 p130 q130
                              cases e130
                              replace p130 := eq_true p130
                              replace q130 := eq_true q130
                              go_wp2
                              go_ret
                              exact ⟨by first | rfl | (simp; done) | (simp [*]; done), by repeat (first | exact Drawn0.refl _ | apply Drawn0.step)⟩
                            · rw [if_neg c12] at H
                              have c12b0 : decide (200 < (((rd_T37 ((rd_T25 l0 x3_1).f2) x4_3).f0).size : Int)) = false := decide_eq_false c12
                              have c12b1 : decide (200 < ((rd_T37 ((rd_T25 l0 x3_1).f2) x4_3).f0).size) = false := decide_eq_false (by omega)
                              clear c12
                              have H' := Aside0.mk H
                              clear H
                              have p128 : 0 ≤ (x3_1 : Int) := of_decide_eq_true (by first | (with_reducible assumption) | assumption)
                              have q128 : x3_1 < (l0.length : Int) := of_decide_eq_true (by first | (with_reducible assumption) | assumption)
                              obtain ⟨ad128, A128_2, c128_2, e128, hx128_0, hx128_1, hx128_2, hl128_2, hi128_2⟩ := at_T25 HR0.out x3_1 p128 q128
                              cases e128
                              have HR128_2 := Aside0.mk hi128_2
                              have HC128_2 := Aside0.mk hl128_2
                              clear hi128_2 hl128_2
                              replace p128 := eq_true p128
                              replace q128 := eq_true q128
                              have p129 : 0 ≤ (x3_1 : Int) := of_decide_eq_true (by first | (with_reducible assumption) | assumption)
                              have q129 : x3_1 < (l0.length : Int) := of_decide_eq_true (by first | (with_reducible assumption) | assumption)
                              obtain ⟨ad129, A129_2, c129_2, e129, hx129_0, hx129_1, hx129_2, hl129_2, hi129_2⟩ := at_T25 HR0.out x3_1 p129 q129
                              obtain rfl : ad128 = ad129 := (by injection e129)
                              have HR129_2 := Aside0.mk hi129_2
                              have HC129_2 := Aside0.mk hl129_2
                              clear hi129_2 hl129_2
                              replace p129 := eq_true p129
                              replace q129 := eq_true q129
                              have ea_ := Option.some.inj (hx128_2.symm.trans hx129_2)
                              injection ea_ with ea_ en_ ec_
                              subst ea_
                              subst ec_
                              clear en_
                              have p130 : 0 ≤ (x4_3 : Int) := of_decide_eq_true (by first | (with_reducible assumption) | assumption)
                              have q130 : x4_3 < (((rd_T25 l0 x3_1).f2).length : Int) := of_decide_eq_true (by first | (with_reducible assumption) | assumption)
                              obtain ⟨ad130, e130, hx130_0, hx130_1⟩ := at_T37 HR129_2.out x4_3 p130 q130
                              cases e130
                              replace p130 := eq_true p130
                              replace q130 := eq_true q130
                              go_wp2
                              go_roundg k3
                              case measure => have := HK1.out; have := HJ3.out; have := HK3.out; omega
                              case rel => exact ⟨(wrap64 (x4_3 + 1)), (by first | rfl | (simp; done) | (simp [*]; done)), H', ⟨by have := HK1.out; have := HJ3.out; have := HK3.out; omega⟩, by repeat (first | exact Drawn0.refl _ | apply Drawn0.step)⟩
                          · rw [if_neg c11] at H
                            exact absurd H (by simp)
                        · rw [if_neg c10] at H
                          have c10b0 : decide (x4_3 < (((rd_T25 l0 x3_1).f2).length : Int)) = false := decide_eq_false c10
                          clear c10
                          have H' := Aside0.mk H
                          clear H
                          have p128 : 0 ≤ (x3_1 : Int) := of_decide_eq_true (by first | (with_reducible assumption) | assumption)
                          have q128 : x3_1 < (l0.length : Int) := of_decide_eq_true (by first | (with_reducible assumption) | assumption)
                          obtain ⟨ad128, A128_2, c128_2, e128, hx128_0, hx128_1, hx128_2, hl128_2, hi128_2⟩ := at_T25 HR0.out x3_1 p128 q128
                          cases e128
                          have HR128_2 := Aside0.mk hi128_2
                          have HC128_2 := Aside0.mk hl128_2
                          clear hi128_2 hl128_2
                          replace p128 := eq_true p128
                          replace q128 := eq_true q128
                          go_wp2
                          go_roundg k3
                          case measure => have := HK1.out; have := HJ3.out; have := HK3.out; omega
                          case rel => exact ⟨(wrap64 (x3_1 + 1)), (by first | rfl | (simp; done) | (simp [*]; done)), H', ⟨by have := HK1.out; have := HJ3.out; have := HK3.out; omega⟩, by repeat (first | exact Drawn0.refl _ | apply Drawn0.step)⟩
                      · rw [if_neg c9] at H
                        exact absurd H (by simp)
                    · rw [if_neg c8] at H
                      exact absurd H (by simp)
        · rw [if_neg c3] at H
          have c3b0 : decide (x3_1 < (l0.length : Int)) = false := decide_eq_false c3
          clear c3
          obtain rfl := Option.some.inj H
          go_wp2
          go_ret
          exact ⟨by first | rfl | (simp; done) | (simp [*]; done), by repeat (first | exact Drawn0.refl _ | apply Drawn0.step)⟩
end Go.Proofs.YtejecmjajdhiiaaDoor.Print
/-! ### Print1 -/
namespace Go.Proofs.YtejecmjajdhiiaaDoor.Print
open Go.RowKit Go.Proofs.YtejecmjajdhiiaaDoorW.PrintWords Go.Proofs.YtejecmjajdhiiaaDoorW.PrintLast Go.Proofs.YtejecmjajdhiiaaDoorW.PrintMore
attribute [local go_sem] min_two
set_option linter.unusedVariables false
set_option linter.unusedSimpArgs false
theorem eqA37 (d : Nat) (w : World) (x0 y0 : ByteArray) (x1 y1 : Int) :
    (Op.equalIn (d + 2) 37 (.agg #[.string x0, .int .i64 x1]) (.agg #[.string y0, .int .i64 y1])).run Tryd.prog w = .ok (x0.toList == y0.toList && (x1 == y1)) w := by
  refine eqA_of Tryd.underlying37 (by kernel_rfl) ?_
  refine eqf_cons (by rfl) (by go_simp; rfl) (by go_simp; rfl) (by go_simp) ?_
  exact eqf_last (by rfl) (by go_simp; rfl) (by go_simp; rfl) (by go_simp)
end Go.Proofs.YtejecmjajdhiiaaDoor.Print
/-! ### Print12 -/
namespace Go.Proofs.YtejecmjajdhiiaaDoor.Print
open Go.RowKit Go.Proofs.YtejecmjajdhiiaaDoorW.PrintWords Go.Proofs.YtejecmjajdhiiaaDoorW.PrintLast Go.Proofs.YtejecmjajdhiiaaDoorW.PrintMore
attribute [local go_sem] min_two
set_option linter.unusedVariables false
set_option linter.unusedSimpArgs false
attribute [local go_sem high] eqA37
def malthouseref13_Lots.l0 : Nat → List (S37) → List (S37) → Int → Option (Bool)
  | 0, _, _, _ => none
  | k + 1, x0, x1, x5 => if x5 < (x0.length : Int) then (if 0 ≤ x5 then (if x5 < (x1.length : Int) then (if (!((((rd_T37 x0 x5).f0).toList) == (((rd_T37 x1 x5).f0).toList)) || (!(((rd_T37 x0 x5).f1) == ((rd_T37 x1 x5).f1)))) = true then (some false) else (malthouseref13_Lots.l0 k x0 x1 (wrap64 (x5 + 1)))) else (none)) else (none)) else (some true)
def malthouseref13_Lots.f (k : Nat) (l0 : List (S37)) (l1 : List (S37)) : Option (Bool) := if (l0.length : Int) = (l1.length : Int) then (malthouseref13_Lots.l0 k l0 l1 0) else (some false)
set_option maxHeartbeats 8000000 in
set_option maxRecDepth 100000 in
theorem malthouseref13_Lots.calls (k : Nat) (A0 : Option Addr) (c0 : Nat) (l0 : List (S37)) (A1 : Option Addr) (c1 : Nat) (l1 : List (S37)) (r : Bool) (w : World) (hr0 : Kd.C k37 w A0 l0.length l0) (hc0 : l0.length ≤ c0) (hr1 : Kd.C k37 w A1 l1.length l1) (hc1 : l1.length ≤ c1) (h : malthouseref13_Lots.f k l0 l1 = some r) :
    Calls Tryd.prog 20 #[.slice A0 l0.length c0, .slice A1 l1.length c1] w fun e w' => e = .returned (.bool r) ∧ Drawn0 w w' := by
  have hu37 := Tryd.underlying37
  have HR0 := Aside0.mk hr0
  have HC0 := Aside0.mk hc0
  clear hr0 hc0
  have HR1 := Aside0.mk hr1
  have HC1 := Aside0.mk hc1
  clear hr1 hc1
  have H : (if (l0.length : Int) = (l1.length : Int) then (malthouseref13_Lots.l0 k l0 l1 0) else (some false)) = some r := h
  clear h
  by_cases c3 : (l0.length : Int) = (l1.length : Int)
  · rw [if_pos c3] at H
    have c3b0 : ((l0.length : Int) == (l1.length : Int)) = true := beq_iff_eq.mpr c3
    have c3b1 : ((l0.length : Int) != (l1.length : Int)) = false := bne_eq_false_iff_eq.mpr c3
    have c3b2 : (l0.length == l1.length) = true := by first | simpa using c3 | (simp at c3 ⊢; omega)
    clear c3
    have H' := Aside0.mk H
    clear H
    go_enter Tryd.func20, Tryd.ntmps20
    go_wp2
    repeat (go_quiet (fail); try go_wp2)
    go_loopg [5] k (fun kq v5 w' => ∃ (x5_1 : Int), v5 = .int .i64 x5_1 ∧ Aside0 (malthouseref13_Lots.l0 kq l0 l1 x5_1 = some r) ∧ Aside0 (kq ≤ k) ∧ Drawn0 w w')
    case atStart => exact ⟨(0), (by first | rfl | (simp; done) | (simp [*]; done)), H', ⟨Nat.le_refl _⟩, by repeat (first | exact Drawn0.refl _ | apply Drawn0.step)⟩
    case round =>
      clear H'
      try clear c1
      try clear c2
      try clear p2
      try clear c3
      try clear c3b0
      try clear c3b1
      try clear c3b2
      obtain ⟨x5_1, rfl, HA, HK1, ⟨m1, rfl⟩⟩ := hrel
      cases gk with
      | zero => exact absurd HA.out (by simp [malthouseref13_Lots.l0])
      | succ k1 =>
        have H := HA.out
        clear HA
        simp only [malthouseref13_Lots.l0] at H
        by_cases c4 : x5_1 < (l0.length : Int)
        · rw [if_pos c4] at H
          have c4b0 : decide (x5_1 < (l0.length : Int)) = true := decide_eq_true c4
          clear c4
          by_cases c5 : 0 ≤ x5_1
          · rw [if_pos c5] at H
            have c5b0 : decide (0 ≤ x5_1) = true := decide_eq_true c5
            clear c5
            by_cases c6 : x5_1 < (l1.length : Int)
            · rw [if_pos c6] at H
              have c6b0 : decide (x5_1 < (l1.length : Int)) = true := decide_eq_true c6
              clear c6
              by_cases c7 : (!((((rd_T37 l0 x5_1).f0).toList) == (((rd_T37 l1 x5_1).f0).toList)) || (!(((rd_T37 l0 x5_1).f1) == ((rd_T37 l1 x5_1).f1)))) = true
              · rw [if_pos c7] at H
                have c7b0 : (!((((rd_T37 l0 x5_1).f0).toList) == (((rd_T37 l1 x5_1).f0).toList)) || (!(((rd_T37 l0 x5_1).f1) == ((rd_T37 l1 x5_1).f1)))) = true := c7
                clear c7
                obtain rfl := Option.some.inj H
                have p194 : 0 ≤ (x5_1 : Int) := of_decide_eq_true (by first | (with_reducible assumption) | assumption)
                have q194 : x5_1 < (l0.length : Int) := of_decide_eq_true (by first | (with_reducible assumption) | assumption)
                obtain ⟨ad194, e194, hx194_0, hx194_1⟩ := at_T37 HR0.out x5_1 p194 q194
                cases e194
                replace p194 := eq_true p194
                replace q194 := eq_true q194
                have p195 : 0 ≤ (x5_1 : Int) := of_decide_eq_true (by first | (with_reducible assumption) | assumption)
                have q195 : x5_1 < (l1.length : Int) := of_decide_eq_true (by first | (with_reducible assumption) | assumption)
                obtain ⟨ad195, e195, hx195_0, hx195_1⟩ := at_T37 HR1.out x5_1 p195 q195
                cases e195
                replace p195 := eq_true p195
                replace q195 := eq_true q195
                go_wp2
                repeat (go_quiet (fail); try go_wp2)
                go_ret
                exact ⟨by first | rfl | (simp; done) | (simp [*]; done), by repeat (first | exact Drawn0.refl _ | apply Drawn0.step)⟩
              · rw [if_neg c7] at H
                have c7b0 : (!((((rd_T37 l0 x5_1).f0).toList) == (((rd_T37 l1 x5_1).f0).toList)) || (!(((rd_T37 l0 x5_1).f1) == ((rd_T37 l1 x5_1).f1)))) = false := by simpa using c7
                clear c7
                have H' := Aside0.mk H
                clear H
                have p194 : 0 ≤ (x5_1 : Int) := of_decide_eq_true (by first | (with_reducible assumption) | assumption)
                have q194 : x5_1 < (l0.length : Int) := of_decide_eq_true (by first | (with_reducible assumption) | assumption)
                obtain ⟨ad194, e194, hx194_0, hx194_1⟩ := at_T37 HR0.out x5_1 p194 q194
                cases e194
                replace p194 := eq_true p194
                replace q194 := eq_true q194
                have p195 : 0 ≤ (x5_1 : Int) := of_decide_eq_true (by first | (with_reducible assumption) | assumption)
                have q195 : x5_1 < (l1.length : Int) := of_decide_eq_true (by first | (with_reducible assumption) | assumption)
                obtain ⟨ad195, e195, hx195_0, hx195_1⟩ := at_T37 HR1.out x5_1 p195 q195
                cases e195
                replace p195 := eq_true p195
                replace q195 := eq_true q195
                go_wp2
                repeat (go_quiet (fail); try go_wp2)
                go_roundg k1
                case measure => have := HK1.out; omega
                case rel => exact ⟨(wrap64 (x5_1 + 1)), (by first | rfl | (simp; done) | (simp [*]; done)), H', ⟨by have := HK1.out; omega⟩, by repeat (first | exact Drawn0.refl _ | apply Drawn0.step)⟩
            · rw [if_neg c6] at H
              exact absurd H (by simp)
          · rw [if_neg c5] at H
            exact absurd H (by simp)
        · rw [if_neg c4] at H
          have c4b0 : decide (x5_1 < (l0.length : Int)) = false := decide_eq_false c4
          clear c4
          obtain rfl := Option.some.inj H
          go_wp2
          repeat (go_quiet (fail); try go_wp2)
          go_ret
          exact ⟨by first | rfl | (simp; done) | (simp [*]; done), by repeat (first | exact Drawn0.refl _ | apply Drawn0.step)⟩
  · rw [if_neg c3] at H
    have c3b0 : ((l0.length : Int) == (l1.length : Int)) = false := beq_eq_false_iff_ne.mpr c3
    have c3b1 : ((l0.length : Int) != (l1.length : Int)) = true := bne_iff_ne.mpr c3
    have c3b2 : (l0.length == l1.length) = false := by first | simpa using c3 | (simp at c3 ⊢; omega)
    obtain rfl := Option.some.inj H
    go_enter Tryd.func20, Tryd.ntmps20
    go_wp2
    repeat (go_quiet (fail); try go_wp2)
    go_ret
    exact ⟨by first | rfl | (simp; done) | (simp [*]; done), by repeat (first | exact Drawn0.refl _ | apply Drawn0.step)⟩
def malthouseref13_Same.l0 : Nat → List (S25) → List (S25) → Int → Option (Bool)
  | 0, _, _, _ => none
  | k + 1, x0, x1, x5 => if x5 < (x0.length : Int) then (if 0 ≤ x5 then (if x5 < (x1.length : Int) then ((malthouseref13_Lots.f k ((rd_T25 x0 x5).f2) ((rd_T25 x1 x5).f2)).bind fun t198 => (if t198 = true then (if ((rd_T25 x0 x5).f0).toList = ((rd_T25 x1 x5).f0).toList then (if ((rd_T25 x0 x5).f1) = ((rd_T25 x1 x5).f1) then (malthouseref13_Same.l0 k x0 x1 (wrap64 (x5 + 1))) else (some false)) else (some false)) else (some false))) else (none)) else (none)) else (some true)
def malthouseref13_Same.f (k : Nat) (l0 : List (S25)) (l1 : List (S25)) : Option (Bool) := if (l0.length : Int) = (l1.length : Int) then (malthouseref13_Same.l0 k l0 l1 0) else (some false)
set_option maxHeartbeats 8000000 in
set_option maxRecDepth 100000 in
theorem malthouseref13_Same.calls (k : Nat) (A0 : Option Addr) (c0 : Nat) (l0 : List (S25)) (A1 : Option Addr) (c1 : Nat) (l1 : List (S25)) (r : Bool) (w : World) (hr0 : Kd.C k25 w A0 l0.length l0) (hc0 : l0.length ≤ c0) (hr1 : Kd.C k25 w A1 l1.length l1) (hc1 : l1.length ≤ c1) (h : malthouseref13_Same.f k l0 l1 = some r) :
    Calls Tryd.prog 19 #[.slice A0 l0.length c0, .slice A1 l1.length c1] w fun e w' => e = .returned (.bool r) ∧ Drawn0 w w' := by
  have HR0 := Aside0.mk hr0
  have HC0 := Aside0.mk hc0
  clear hr0 hc0
  have HR1 := Aside0.mk hr1
  have HC1 := Aside0.mk hc1
  clear hr1 hc1
  have H : (if (l0.length : Int) = (l1.length : Int) then (malthouseref13_Same.l0 k l0 l1 0) else (some false)) = some r := h
  clear h
  by_cases c3 : (l0.length : Int) = (l1.length : Int)
  · rw [if_pos c3] at H
    have c3b0 : ((l0.length : Int) == (l1.length : Int)) = true := beq_iff_eq.mpr c3
    have c3b1 : ((l0.length : Int) != (l1.length : Int)) = false := bne_eq_false_iff_eq.mpr c3
    have c3b2 : (l0.length == l1.length) = true := by first | simpa using c3 | (simp at c3 ⊢; omega)
    clear c3
    have H' := Aside0.mk H
    clear H
    go_enter Tryd.func19, Tryd.ntmps19
    go_wp2
    repeat (go_quiet (fail); try go_wp2)
    go_loopg [5] k (fun kq v5 w' => ∃ (x5_1 : Int), v5 = .int .i64 x5_1 ∧ Aside0 (malthouseref13_Same.l0 kq l0 l1 x5_1 = some r) ∧ Aside0 (kq ≤ k) ∧ Drawn0 w w')
    case atStart => exact ⟨(0), (by first | rfl | (simp; done) | (simp [*]; done)), H', ⟨Nat.le_refl _⟩, by repeat (first | exact Drawn0.refl _ | apply Drawn0.step)⟩
    case round =>
      clear H'
      try clear c1
      try clear p2
      try clear c3
      try clear c3b0
      try clear c3b1
      try clear c3b2
      obtain ⟨x5_1, rfl, HA, HK1, ⟨m1, rfl⟩⟩ := hrel
      cases gk with
      | zero => exact absurd HA.out (by simp [malthouseref13_Same.l0])
      | succ k1 =>
        have H := HA.out
        clear HA
        simp only [malthouseref13_Same.l0] at H
        by_cases c4 : x5_1 < (l0.length : Int)
        · rw [if_pos c4] at H
          have c4b0 : decide (x5_1 < (l0.length : Int)) = true := decide_eq_true c4
          clear c4
          by_cases c5 : 0 ≤ x5_1
          · rw [if_pos c5] at H
            have c5b0 : decide (0 ≤ x5_1) = true := decide_eq_true c5
            clear c5
            by_cases c6 : x5_1 < (l1.length : Int)
            · rw [if_pos c6] at H
              have c6b0 : decide (x5_1 < (l1.length : Int)) = true := decide_eq_true c6
              clear c6
              replace H := Option.bind_eq_some_iff.mp H
              obtain ⟨t198, A70, H⟩ := H
              replace H : (if t198 = true then (if ((rd_T25 l0 x5_1).f0).toList = ((rd_T25 l1 x5_1).f0).toList then (if ((rd_T25 l0 x5_1).f1) = ((rd_T25 l1 x5_1).f1) then (malthouseref13_Same.l0 k1 l0 l1 (wrap64 (x5_1 + 1))) else (some false)) else (some false)) else (some false)) = some r := H
              have A7 := Aside0.mk A70
              clear A70
              by_cases c8 : t198 = true
              · subst c8
                have H1 : (if ((rd_T25 l0 x5_1).f0).toList = ((rd_T25 l1 x5_1).f0).toList then (if ((rd_T25 l0 x5_1).f1) = ((rd_T25 l1 x5_1).f1) then (malthouseref13_Same.l0 k1 l0 l1 (wrap64 (x5_1 + 1))) else (some false)) else (some false)) = some r := by rw [if_pos rfl] at H; exact H
                clear H
                have H := H1
                clear H1
                by_cases c9 : ((rd_T25 l0 x5_1).f0).toList = ((rd_T25 l1 x5_1).f0).toList
                · rw [if_pos c9] at H
                  have c9b0 : (((rd_T25 l0 x5_1).f0).toList == ((rd_T25 l1 x5_1).f0).toList) = true := beq_iff_eq.mpr c9
                  have c9b1 : (((rd_T25 l0 x5_1).f0).toList != ((rd_T25 l1 x5_1).f0).toList) = false := bne_eq_false_iff_eq.mpr c9
                  clear c9
                  by_cases c10 : ((rd_T25 l0 x5_1).f1) = ((rd_T25 l1 x5_1).f1)
                  · rw [if_pos c10] at H
                    have c10b0 : (((rd_T25 l0 x5_1).f1) == ((rd_T25 l1 x5_1).f1)) = true := beq_iff_eq.mpr c10
                    have c10b1 : (((rd_T25 l0 x5_1).f1) != ((rd_T25 l1 x5_1).f1)) = false := bne_eq_false_iff_eq.mpr c10
                    clear c10
                    have H' := Aside0.mk H
                    clear H
                    have p196 : 0 ≤ (x5_1 : Int) := of_decide_eq_true (by first | (with_reducible assumption) | assumption)
                    have q196 : x5_1 < (l0.length : Int) := of_decide_eq_true (by first | (with_reducible assumption) | assumption)
                    obtain ⟨ad196, A196_2, c196_2, e196, hx196_0, hx196_1, hx196_2, hl196_2, hi196_2⟩ := at_T25 HR0.out x5_1 p196 q196
                    cases e196
                    have HR196_2 := Aside0.mk hi196_2
                    have HC196_2 := Aside0.mk hl196_2
                    clear hi196_2 hl196_2
                    replace p196 := eq_true p196
                    replace q196 := eq_true q196
                    have p197 : 0 ≤ (x5_1 : Int) := of_decide_eq_true (by first | (with_reducible assumption) | assumption)
                    have q197 : x5_1 < (l1.length : Int) := of_decide_eq_true (by first | (with_reducible assumption) | assumption)
                    obtain ⟨ad197, A197_2, c197_2, e197, hx197_0, hx197_1, hx197_2, hl197_2, hi197_2⟩ := at_T25 HR1.out x5_1 p197 q197
                    cases e197
                    have HR197_2 := Aside0.mk hi197_2
                    have HC197_2 := Aside0.mk hl197_2
                    clear hi197_2 hl197_2
                    replace p197 := eq_true p197
                    replace q197 := eq_true q197
                    go_wp2_with (first | (go_at_call 20; (with_reducible refine (malthouseref13_Lots.calls k1 _ _ ((rd_T25 l0 x5_1).f2) _ _ ((rd_T25 l1 x5_1).f2) true _ ?side1 ?side2 ?side3 ?side4 A7.out).mono ?_); (case side1 => repeat (first | exact HR196_2.out | (with_reducible refine Kd.C_alloc ?_ _) | (with_reducible refine Kd.C_drewN ?_ _) | (with_reducible refine Kd.C_drew ?_))); (case side2 => exact HC196_2.out); (case side3 => repeat (first | exact HR197_2.out | (with_reducible refine Kd.C_alloc ?_ _) | (with_reducible refine Kd.C_drewN ?_ _) | (with_reducible refine Kd.C_drew ?_))); (case side4 => exact HC197_2.out); rintro e w' ⟨rfl, ⟨nd, rfl⟩⟩; (try first | exact ⟨rfl, _, World.drewN_drewN _ _ _⟩ | exact ⟨rfl, _, Eq.trans (World.drewN_drewN _ _ _) (congrArg (World.drewN _) (Nat.add_assoc _ _ _))⟩); have p199 : 0 ≤ (x5_1 : Int) := of_decide_eq_true (by first | (with_reducible assumption) | assumption); have q199 : x5_1 < (l0.length : Int) := of_decide_eq_true (by first | (with_reducible assumption) | assumption); obtain ⟨ad199, A199_2, c199_2, e199, hx199_0, hx199_1, hx199_2, hl199_2, hi199_2⟩ := at_T25 HR0.out x5_1 p199 q199; obtain rfl : ad196 = ad199 := (by injection e199); have HR199_2 := Aside0.mk hi199_2; have HC199_2 := Aside0.mk hl199_2; clear hi199_2 hl199_2; replace p199 := eq_true p199; replace q199 := eq_true q199; have ea_ := Option.some.inj (hx196_2.symm.trans hx199_2); injection ea_ with ea_ en_ ec_; subst ea_; subst ec_; clear en_; have p200 : 0 ≤ (x5_1 : Int) := of_decide_eq_true (by first | (with_reducible assumption) | assumption); have q200 : x5_1 < (l1.length : Int) := of_decide_eq_true (by first | (with_reducible assumption) | assumption); obtain ⟨ad200, A200_2, c200_2, e200, hx200_0, hx200_1, hx200_2, hl200_2, hi200_2⟩ := at_T25 HR1.out x5_1 p200 q200; obtain rfl : ad197 = ad200 := (by injection e200); have HR200_2 := Aside0.mk hi200_2; have HC200_2 := Aside0.mk hl200_2; clear hi200_2 hl200_2; replace p200 := eq_true p200; replace q200 := eq_true q200; have ea_ := Option.some.inj (hx197_2.symm.trans hx200_2); injection ea_ with ea_ en_ ec_; subst ea_; subst ec_; clear en_; have p201 : 0 ≤ (x5_1 : Int) := of_decide_eq_true (by first | (with_reducible assumption) | assumption); have q201 : x5_1 < (l0.length : Int) := of_decide_eq_true (by first | (with_reducible assumption) | assumption); obtain ⟨ad201, A201_2, c201_2, e201, hx201_0, hx201_1, hx201_2, hl201_2, hi201_2⟩ := at_T25 HR0.out x5_1 p201 q201; obtain rfl : ad196 = ad201 := (by injection e201); have HR201_2 := Aside0.mk hi201_2; have HC201_2 := Aside0.mk hl201_2; clear hi201_2 hl201_2; replace p201 := eq_true p201; replace q201 := eq_true q201; have ea_ := Option.some.inj (hx196_2.symm.trans hx201_2); injection ea_ with ea_ en_ ec_; subst ea_; subst ec_; clear en_; have p202 : 0 ≤ (x5_1 : Int) := of_decide_eq_true (by first | (with_reducible assumption) | assumption); have q202 : x5_1 < (l1.length : Int) := of_decide_eq_true (by first | (with_reducible assumption) | assumption); obtain ⟨ad202, A202_2, c202_2, e202, hx202_0, hx202_1, hx202_2, hl202_2, hi202_2⟩ := at_T25 HR1.out x5_1 p202 q202; obtain rfl : ad197 = ad202 := (by injection e202); have HR202_2 := Aside0.mk hi202_2; have HC202_2 := Aside0.mk hl202_2; clear hi202_2 hl202_2; replace p202 := eq_true p202; replace q202 := eq_true q202; have ea_ := Option.some.inj (hx197_2.symm.trans hx202_2); injection ea_ with ea_ en_ ec_; subst ea_; subst ec_; clear en_))
                    repeat (go_quiet (first | (go_at_call 20; (with_reducible refine (malthouseref13_Lots.calls k1 _ _ ((rd_T25 l0 x5_1).f2) _ _ ((rd_T25 l1 x5_1).f2) true _ ?side1 ?side2 ?side3 ?side4 A7.out).mono ?_); (case side1 => repeat (first | exact HR196_2.out | (with_reducible refine Kd.C_alloc ?_ _) | (with_reducible refine Kd.C_drewN ?_ _) | (with_reducible refine Kd.C_drew ?_))); (case side2 => exact HC196_2.out); (case side3 => repeat (first | exact HR197_2.out | (with_reducible refine Kd.C_alloc ?_ _) | (with_reducible refine Kd.C_drewN ?_ _) | (with_reducible refine Kd.C_drew ?_))); (case side4 => exact HC197_2.out); rintro e w' ⟨rfl, ⟨nd, rfl⟩⟩; (try first | exact ⟨rfl, _, World.drewN_drewN _ _ _⟩ | exact ⟨rfl, _, Eq.trans (World.drewN_drewN _ _ _) (congrArg (World.drewN _) (Nat.add_assoc _ _ _))⟩); have p199 : 0 ≤ (x5_1 : Int) := of_decide_eq_true (by first | (with_reducible assumption) | assumption); have q199 : x5_1 < (l0.length : Int) := of_decide_eq_true (by first | (with_reducible assumption) | assumption); obtain ⟨ad199, A199_2, c199_2, e199, hx199_0, hx199_1, hx199_2, hl199_2, hi199_2⟩ := at_T25 HR0.out x5_1 p199 q199; obtain rfl : ad196 = ad199 := (by injection e199); have HR199_2 := Aside0.mk hi199_2; have HC199_2 := Aside0.mk hl199_2; clear hi199_2 hl199_2; replace p199 := eq_true p199; replace q199 := eq_true q199; have ea_ := Option.some.inj (hx196_2.symm.trans hx199_2); injection ea_ with ea_ en_ ec_; subst ea_; subst ec_; clear en_; have p200 : 0 ≤ (x5_1 : Int) := of_decide_eq_true (by first | (with_reducible assumption) | assumption); have q200 : x5_1 < (l1.length : Int) := of_decide_eq_true (by first | (with_reducible assumption) | assumption); obtain ⟨ad200, A200_2, c200_2, e200, hx200_0, hx200_1, hx200_2, hl200_2, hi200_2⟩ := at_T25 HR1.out x5_1 p200 q200; obtain rfl : ad197 = ad200 := (by injection e200); have HR200_2 := Aside0.mk hi200_2; have HC200_2 := Aside0.mk hl200_2; clear hi200_2 hl200_2; replace p200 := eq_true p200; replace q200 := eq_true q200; have ea_ := Option.some.inj (hx197_2.symm.trans hx200_2); injection ea_ with ea_ en_ ec_; subst ea_; subst ec_; clear en_; have p201 : 0 ≤ (x5_1 : Int) := of_decide_eq_true (by first | (with_reducible assumption) | assumption); have q201 : x5_1 < (l0.length : Int) := of_decide_eq_true (by first | (with_reducible assumption) | assumption); obtain ⟨ad201, A201_2, c201_2, e201, hx201_0, hx201_1, hx201_2, hl201_2, hi201_2⟩ := at_T25 HR0.out x5_1 p201 q201; obtain rfl : ad196 = ad201 := (by injection e201); have HR201_2 := Aside0.mk hi201_2; have HC201_2 := Aside0.mk hl201_2; clear hi201_2 hl201_2; replace p201 := eq_true p201; replace q201 := eq_true q201; have ea_ := Option.some.inj (hx196_2.symm.trans hx201_2); injection ea_ with ea_ en_ ec_; subst ea_; subst ec_; clear en_; have p202 : 0 ≤ (x5_1 : Int) := of_decide_eq_true (by first | (with_reducible assumption) | assumption); have q202 : x5_1 < (l1.length : Int) := of_decide_eq_true (by first | (with_reducible assumption) | assumption); obtain ⟨ad202, A202_2, c202_2, e202, hx202_0, hx202_1, hx202_2, hl202_2, hi202_2⟩ := at_T25 HR1.out x5_1 p202 q202; obtain rfl : ad197 = ad202 := (by injection e202); have HR202_2 := Aside0.mk hi202_2; have HC202_2 := Aside0.mk hl202_2; clear hi202_2 hl202_2; replace p202 := eq_true p202; replace q202 := eq_true q202; have ea_ := Option.some.inj (hx197_2.symm.trans hx202_2); injection ea_ with ea_ en_ ec_; subst ea_; subst ec_; clear en_)); try go_wp2_with (first | (go_at_call 20; (with_reducible refine (malthouseref13_Lots.calls k1 _ _ ((rd_T25 l0 x5_1).f2) _ _ ((rd_T25 l1 x5_1).f2) true _ ?side1 ?side2 ?side3 ?side4 A7.out).mono ?_); (case side1 => repeat (first | exact HR196_2.out | (with_reducible refine Kd.C_alloc ?_ _) | (with_reducible refine Kd.C_drewN ?_ _) | (with_reducible refine Kd.C_drew ?_))); (case side2 => exact HC196_2.out); (case side3 => repeat (first | exact HR197_2.out | (with_reducible refine Kd.C_alloc ?_ _) | (with_reducible refine Kd.C_drewN ?_ _) | (with_reducible refine Kd.C_drew ?_))); (case side4 => exact HC197_2.out); rintro e w' ⟨rfl, ⟨nd, rfl⟩⟩; (try first | exact ⟨rfl, _, World.drewN_drewN _ _ _⟩ | exact ⟨rfl, _, Eq.trans (World.drewN_drewN _ _ _) (congrArg (World.drewN _) (Nat.add_assoc _ _ _))⟩); have p199 : 0 ≤ (x5_1 : Int) := of_decide_eq_true (by first | (with_reducible assumption) | assumption); have q199 : x5_1 < (l0.length : Int) := of_decide_eq_true (by first | (with_reducible assumption) | assumption); obtain ⟨ad199, A199_2, c199_2, e199, hx199_0, hx199_1, hx199_2, hl199_2, hi199_2⟩ := at_T25 HR0.out x5_1 p199 q199; obtain rfl : ad196 = ad199 := (by injection e199); have HR199_2 := Aside0.mk hi199_2; have HC199_2 := Aside0.mk hl199_2; clear hi199_2 hl199_2; replace p199 := eq_true p199; replace q199 := eq_true q199; have ea_ := Option.some.inj (hx196_2.symm.trans hx199_2); injection ea_ with ea_ en_ ec_; subst ea_; subst ec_; clear en_; have p200 : 0 ≤ (x5_1 : Int) := of_decide_eq_true (by first | (with_reducible assumption) | assumption); have q200 : x5_1 < (l1.length : Int) := of_decide_eq_true (by first | (with_reducible assumption) | assumption); obtain ⟨ad200, A200_2, c200_2, e200, hx200_0, hx200_1, hx200_2, hl200_2, hi200_2⟩ := at_T25 HR1.out x5_1 p200 q200; obtain rfl : ad197 = ad200 := (by injection e200); have HR200_2 := Aside0.mk hi200_2; have HC200_2 := Aside0.mk hl200_2; clear hi200_2 hl200_2; replace p200 := eq_true p200; replace q200 := eq_true q200; have ea_ := Option.some.inj (hx197_2.symm.trans hx200_2); injection ea_ with ea_ en_ ec_; subst ea_; subst ec_; clear en_; have p201 : 0 ≤ (x5_1 : Int) := of_decide_eq_true (by first | (with_reducible assumption) | assumption); have q201 : x5_1 < (l0.length : Int) := of_decide_eq_true (by first | (with_reducible assumption) | assumption); obtain ⟨ad201, A201_2, c201_2, e201, hx201_0, hx201_1, hx201_2, hl201_2, hi201_2⟩ := at_T25 HR0.out x5_1 p201 q201; obtain rfl : ad196 = ad201 := (by injection e201); have HR201_2 := Aside0.mk hi201_2; have HC201_2 := Aside0.mk hl201_2; clear hi201_2 hl201_2; replace p201 := eq_true p201; replace q201 := eq_true q201; have ea_ := Option.some.inj (hx196_2.symm.trans hx201_2); injection ea_ with ea_ en_ ec_; subst ea_; subst ec_; clear en_; have p202 : 0 ≤ (x5_1 : Int) := of_decide_eq_true (by first | (with_reducible assumption) | assumption); have q202 : x5_1 < (l1.length : Int) := of_decide_eq_true (by first | (with_reducible assumption) | assumption); obtain ⟨ad202, A202_2, c202_2, e202, hx202_0, hx202_1, hx202_2, hl202_2, hi202_2⟩ := at_T25 HR1.out x5_1 p202 q202; obtain rfl : ad197 = ad202 := (by injection e202); have HR202_2 := Aside0.mk hi202_2; have HC202_2 := Aside0.mk hl202_2; clear hi202_2 hl202_2; replace p202 := eq_true p202; replace q202 := eq_true q202; have ea_ := Option.some.inj (hx197_2.symm.trans hx202_2); injection ea_ with ea_ en_ ec_; subst ea_; subst ec_; clear en_)))
                    go_roundg k1
                    case measure => have := HK1.out; omega
                    case rel => exact ⟨(wrap64 (x5_1 + 1)), (by first | rfl | (simp; done) | (simp [*]; done)), H', ⟨by have := HK1.out; omega⟩, by repeat (first | exact Drawn0.refl _ | apply Drawn0.step)⟩
                  · rw [if_neg c10] at H
                    have c10b0 : (((rd_T25 l0 x5_1).f1) == ((rd_T25 l1 x5_1).f1)) = false := beq_eq_false_iff_ne.mpr c10
                    have c10b1 : (((rd_T25 l0 x5_1).f1) != ((rd_T25 l1 x5_1).f1)) = true := bne_iff_ne.mpr c10
                    obtain rfl := Option.some.inj H
                    have p196 : 0 ≤ (x5_1 : Int) := of_decide_eq_true (by first | (with_reducible assumption) | assumption)
                    have q196 : x5_1 < (l0.length : Int) := of_decide_eq_true (by first | (with_reducible assumption) | assumption)
                    obtain ⟨ad196, A196_2, c196_2, e196, hx196_0, hx196_1, hx196_2, hl196_2, hi196_2⟩ := at_T25 HR0.out x5_1 p196 q196
                    cases e196
                    have HR196_2 := Aside0.mk hi196_2
                    have HC196_2 := Aside0.mk hl196_2
                    clear hi196_2 hl196_2
                    replace p196 := eq_true p196
                    replace q196 := eq_true q196
                    have p197 : 0 ≤ (x5_1 : Int) := of_decide_eq_true (by first | (with_reducible assumption) | assumption)
                    have q197 : x5_1 < (l1.length : Int) := of_decide_eq_true (by first | (with_reducible assumption) | assumption)
                    obtain ⟨ad197, A197_2, c197_2, e197, hx197_0, hx197_1, hx197_2, hl197_2, hi197_2⟩ := at_T25 HR1.out x5_1 p197 q197
                    cases e197
                    have HR197_2 := Aside0.mk hi197_2
                    have HC197_2 := Aside0.mk hl197_2
                    clear hi197_2 hl197_2
                    replace p197 := eq_true p197
                    replace q197 := eq_true q197
                    go_wp2_with (first | (go_at_call 20; (with_reducible refine (malthouseref13_Lots.calls k1 _ _ ((rd_T25 l0 x5_1).f2) _ _ ((rd_T25 l1 x5_1).f2) true _ ?side1 ?side2 ?side3 ?side4 A7.out).mono ?_); (case side1 => repeat (first | exact HR196_2.out | (with_reducible refine Kd.C_alloc ?_ _) | (with_reducible refine Kd.C_drewN ?_ _) | (with_reducible refine Kd.C_drew ?_))); (case side2 => exact HC196_2.out); (case side3 => repeat (first | exact HR197_2.out | (with_reducible refine Kd.C_alloc ?_ _) | (with_reducible refine Kd.C_drewN ?_ _) | (with_reducible refine Kd.C_drew ?_))); (case side4 => exact HC197_2.out); rintro e w' ⟨rfl, ⟨nd, rfl⟩⟩; (try first | exact ⟨rfl, _, World.drewN_drewN _ _ _⟩ | exact ⟨rfl, _, Eq.trans (World.drewN_drewN _ _ _) (congrArg (World.drewN _) (Nat.add_assoc _ _ _))⟩); have p199 : 0 ≤ (x5_1 : Int) := of_decide_eq_true (by first | (with_reducible assumption) | assumption); have q199 : x5_1 < (l0.length : Int) := of_decide_eq_true (by first | (with_reducible assumption) | assumption); obtain ⟨ad199, A199_2, c199_2, e199, hx199_0, hx199_1, hx199_2, hl199_2, hi199_2⟩ := at_T25 HR0.out x5_1 p199 q199; obtain rfl : ad196 = ad199 := (by injection e199); have HR199_2 := Aside0.mk hi199_2; have HC199_2 := Aside0.mk hl199_2; clear hi199_2 hl199_2; replace p199 := eq_true p199; replace q199 := eq_true q199; have ea_ := Option.some.inj (hx196_2.symm.trans hx199_2); injection ea_ with ea_ en_ ec_; subst ea_; subst ec_; clear en_; have p200 : 0 ≤ (x5_1 : Int) := of_decide_eq_true (by first | (with_reducible assumption) | assumption); have q200 : x5_1 < (l1.length : Int) := of_decide_eq_true (by first | (with_reducible assumption) | assumption); obtain ⟨ad200, A200_2, c200_2, e200, hx200_0, hx200_1, hx200_2, hl200_2, hi200_2⟩ := at_T25 HR1.out x5_1 p200 q200; obtain rfl : ad197 = ad200 := (by injection e200); have HR200_2 := Aside0.mk hi200_2; have HC200_2 := Aside0.mk hl200_2; clear hi200_2 hl200_2; replace p200 := eq_true p200; replace q200 := eq_true q200; have ea_ := Option.some.inj (hx197_2.symm.trans hx200_2); injection ea_ with ea_ en_ ec_; subst ea_; subst ec_; clear en_; have p201 : 0 ≤ (x5_1 : Int) := of_decide_eq_true (by first | (with_reducible assumption) | assumption); have q201 : x5_1 < (l0.length : Int) := of_decide_eq_true (by first | (with_reducible assumption) | assumption); obtain ⟨ad201, A201_2, c201_2, e201, hx201_0, hx201_1, hx201_2, hl201_2, hi201_2⟩ := at_T25 HR0.out x5_1 p201 q201; obtain rfl : ad196 = ad201 := (by injection e201); have HR201_2 := Aside0.mk hi201_2; have HC201_2 := Aside0.mk hl201_2; clear hi201_2 hl201_2; replace p201 := eq_true p201; replace q201 := eq_true q201; have ea_ := Option.some.inj (hx196_2.symm.trans hx201_2); injection ea_ with ea_ en_ ec_; subst ea_; subst ec_; clear en_; have p202 : 0 ≤ (x5_1 : Int) := of_decide_eq_true (by first | (with_reducible assumption) | assumption); have q202 : x5_1 < (l1.length : Int) := of_decide_eq_true (by first | (with_reducible assumption) | assumption); obtain ⟨ad202, A202_2, c202_2, e202, hx202_0, hx202_1, hx202_2, hl202_2, hi202_2⟩ := at_T25 HR1.out x5_1 p202 q202; obtain rfl : ad197 = ad202 := (by injection e202); have HR202_2 := Aside0.mk hi202_2; have HC202_2 := Aside0.mk hl202_2; clear hi202_2 hl202_2; replace p202 := eq_true p202; replace q202 := eq_true q202; have ea_ := Option.some.inj (hx197_2.symm.trans hx202_2); injection ea_ with ea_ en_ ec_; subst ea_; subst ec_; clear en_))
                    repeat (go_quiet (first | (go_at_call 20; (with_reducible refine (malthouseref13_Lots.calls k1 _ _ ((rd_T25 l0 x5_1).f2) _ _ ((rd_T25 l1 x5_1).f2) true _ ?side1 ?side2 ?side3 ?side4 A7.out).mono ?_); (case side1 => repeat (first | exact HR196_2.out | (with_reducible refine Kd.C_alloc ?_ _) | (with_reducible refine Kd.C_drewN ?_ _) | (with_reducible refine Kd.C_drew ?_))); (case side2 => exact HC196_2.out); (case side3 => repeat (first | exact HR197_2.out | (with_reducible refine Kd.C_alloc ?_ _) | (with_reducible refine Kd.C_drewN ?_ _) | (with_reducible refine Kd.C_drew ?_))); (case side4 => exact HC197_2.out); rintro e w' ⟨rfl, ⟨nd, rfl⟩⟩; (try first | exact ⟨rfl, _, World.drewN_drewN _ _ _⟩ | exact ⟨rfl, _, Eq.trans (World.drewN_drewN _ _ _) (congrArg (World.drewN _) (Nat.add_assoc _ _ _))⟩); have p199 : 0 ≤ (x5_1 : Int) := of_decide_eq_true (by first | (with_reducible assumption) | assumption); have q199 : x5_1 < (l0.length : Int) := of_decide_eq_true (by first | (with_reducible assumption) | assumption); obtain ⟨ad199, A199_2, c199_2, e199, hx199_0, hx199_1, hx199_2, hl199_2, hi199_2⟩ := at_T25 HR0.out x5_1 p199 q199; obtain rfl : ad196 = ad199 := (by injection e199); have HR199_2 := Aside0.mk hi199_2; have HC199_2 := Aside0.mk hl199_2; clear hi199_2 hl199_2; replace p199 := eq_true p199; replace q199 := eq_true q199; have ea_ := Option.some.inj (hx196_2.symm.trans hx199_2); injection ea_ with ea_ en_ ec_; subst ea_; subst ec_; clear en_; have p200 : 0 ≤ (x5_1 : Int) := of_decide_eq_true (by first | (with_reducible assumption) | assumption); have q200 : x5_1 < (l1.length : Int) := of_decide_eq_true (by first | (with_reducible assumption) | assumption); obtain ⟨ad200, A200_2, c200_2, e200, hx200_0, hx200_1, hx200_2, hl200_2, hi200_2⟩ := at_T25 HR1.out x5_1 p200 q200; obtain rfl : ad197 = ad200 := (by injection e200); have HR200_2 := Aside0.mk hi200_2; have HC200_2 := Aside0.mk hl200_2; clear hi200_2 hl200_2; replace p200 := eq_true p200; replace q200 := eq_true q200; have ea_ := Option.some.inj (hx197_2.symm.trans hx200_2); injection ea_ with ea_ en_ ec_; subst ea_; subst ec_; clear en_; have p201 : 0 ≤ (x5_1 : Int) := of_decide_eq_true (by first | (with_reducible assumption) | assumption); have q201 : x5_1 < (l0.length : Int) := of_decide_eq_true (by first | (with_reducible assumption) | assumption); obtain ⟨ad201, A201_2, c201_2, e201, hx201_0, hx201_1, hx201_2, hl201_2, hi201_2⟩ := at_T25 HR0.out x5_1 p201 q201; obtain rfl : ad196 = ad201 := (by injection e201); have HR201_2 := Aside0.mk hi201_2; have HC201_2 := Aside0.mk hl201_2; clear hi201_2 hl201_2; replace p201 := eq_true p201; replace q201 := eq_true q201; have ea_ := Option.some.inj (hx196_2.symm.trans hx201_2); injection ea_ with ea_ en_ ec_; subst ea_; subst ec_; clear en_; have p202 : 0 ≤ (x5_1 : Int) := of_decide_eq_true (by first | (with_reducible assumption) | assumption); have q202 : x5_1 < (l1.length : Int) := of_decide_eq_true (by first | (with_reducible assumption) | assumption); obtain ⟨ad202, A202_2, c202_2, e202, hx202_0, hx202_1, hx202_2, hl202_2, hi202_2⟩ := at_T25 HR1.out x5_1 p202 q202; obtain rfl : ad197 = ad202 := (by injection e202); have HR202_2 := Aside0.mk hi202_2; have HC202_2 := Aside0.mk hl202_2; clear hi202_2 hl202_2; replace p202 := eq_true p202; replace q202 := eq_true q202; have ea_ := Option.some.inj (hx197_2.symm.trans hx202_2); injection ea_ with ea_ en_ ec_; subst ea_; subst ec_; clear en_)); try go_wp2_with (first | (go_at_call 20; (with_reducible refine (malthouseref13_Lots.calls k1 _ _ ((rd_T25 l0 x5_1).f2) _ _ ((rd_T25 l1 x5_1).f2) true _ ?side1 ?side2 ?side3 ?side4 A7.out).mono ?_); (case side1 => repeat (first | exact HR196_2.out | (with_reducible refine Kd.C_alloc ?_ _) | (with_reducible refine Kd.C_drewN ?_ _) | (with_reducible refine Kd.C_drew ?_))); (case side2 => exact HC196_2.out); (case side3 => repeat (first | exact HR197_2.out | (with_reducible refine Kd.C_alloc ?_ _) | (with_reducible refine Kd.C_drewN ?_ _) | (with_reducible refine Kd.C_drew ?_))); (case side4 => exact HC197_2.out); rintro e w' ⟨rfl, ⟨nd, rfl⟩⟩; (try first | exact ⟨rfl, _, World.drewN_drewN _ _ _⟩ | exact ⟨rfl, _, Eq.trans (World.drewN_drewN _ _ _) (congrArg (World.drewN _) (Nat.add_assoc _ _ _))⟩); have p199 : 0 ≤ (x5_1 : Int) := of_decide_eq_true (by first | (with_reducible assumption) | assumption); have q199 : x5_1 < (l0.length : Int) := of_decide_eq_true (by first | (with_reducible assumption) | assumption); obtain ⟨ad199, A199_2, c199_2, e199, hx199_0, hx199_1, hx199_2, hl199_2, hi199_2⟩ := at_T25 HR0.out x5_1 p199 q199; obtain rfl : ad196 = ad199 := (by injection e199); have HR199_2 := Aside0.mk hi199_2; have HC199_2 := Aside0.mk hl199_2; clear hi199_2 hl199_2; replace p199 := eq_true p199; replace q199 := eq_true q199; have ea_ := Option.some.inj (hx196_2.symm.trans hx199_2); injection ea_ with ea_ en_ ec_; subst ea_; subst ec_; clear en_; have p200 : 0 ≤ (x5_1 : Int) := of_decide_eq_true (by first | (with_reducible assumption) | assumption); have q200 : x5_1 < (l1.length : Int) := of_decide_eq_true (by first | (with_reducible assumption) | assumption); obtain ⟨ad200, A200_2, c200_2, e200, hx200_0, hx200_1, hx200_2, hl200_2, hi200_2⟩ := at_T25 HR1.out x5_1 p200 q200; obtain rfl : ad197 = ad200 := (by injection e200); have HR200_2 := Aside0.mk hi200_2; have HC200_2 := Aside0.mk hl200_2; clear hi200_2 hl200_2; replace p200 := eq_true p200; replace q200 := eq_true q200; have ea_ := Option.some.inj (hx197_2.symm.trans hx200_2); injection ea_ with ea_ en_ ec_; subst ea_; subst ec_; clear en_; have p201 : 0 ≤ (x5_1 : Int) := of_decide_eq_true (by first | (with_reducible assumption) | assumption); have q201 : x5_1 < (l0.length : Int) := of_decide_eq_true (by first | (with_reducible assumption) | assumption); obtain ⟨ad201, A201_2, c201_2, e201, hx201_0, hx201_1, hx201_2, hl201_2, hi201_2⟩ := at_T25 HR0.out x5_1 p201 q201; obtain rfl : ad196 = ad201 := (by injection e201); have HR201_2 := Aside0.mk hi201_2; have HC201_2 := Aside0.mk hl201_2; clear hi201_2 hl201_2; replace p201 := eq_true p201; replace q201 := eq_true q201; have ea_ := Option.some.inj (hx196_2.symm.trans hx201_2); injection ea_ with ea_ en_ ec_; subst ea_; subst ec_; clear en_; have p202 : 0 ≤ (x5_1 : Int) := of_decide_eq_true (by first | (with_reducible assumption) | assumption); have q202 : x5_1 < (l1.length : Int) := of_decide_eq_true (by first | (with_reducible assumption) | assumption); obtain ⟨ad202, A202_2, c202_2, e202, hx202_0, hx202_1, hx202_2, hl202_2, hi202_2⟩ := at_T25 HR1.out x5_1 p202 q202; obtain rfl : ad197 = ad202 := (by injection e202); have HR202_2 := Aside0.mk hi202_2; have HC202_2 := Aside0.mk hl202_2; clear hi202_2 hl202_2; replace p202 := eq_true p202; replace q202 := eq_true q202; have ea_ := Option.some.inj (hx197_2.symm.trans hx202_2); injection ea_ with ea_ en_ ec_; subst ea_; subst ec_; clear en_)))
                    go_ret
                    exact ⟨by first | rfl | (simp; done) | (simp [*]; done), by repeat (first | exact Drawn0.refl _ | apply Drawn0.step)⟩
                · rw [if_neg c9] at H
                  have c9b0 : (((rd_T25 l0 x5_1).f0).toList == ((rd_T25 l1 x5_1).f0).toList) = false := beq_eq_false_iff_ne.mpr c9
                  have c9b1 : (((rd_T25 l0 x5_1).f0).toList != ((rd_T25 l1 x5_1).f0).toList) = true := bne_iff_ne.mpr c9
                  obtain rfl := Option.some.inj H
                  have p196 : 0 ≤ (x5_1 : Int) := of_decide_eq_true (by first | (with_reducible assumption) | assumption)
                  have q196 : x5_1 < (l0.length : Int) := of_decide_eq_true (by first | (with_reducible assumption) | assumption)
                  obtain ⟨ad196, A196_2, c196_2, e196, hx196_0, hx196_1, hx196_2, hl196_2, hi196_2⟩ := at_T25 HR0.out x5_1 p196 q196
                  cases e196
                  have HR196_2 := Aside0.mk hi196_2
                  have HC196_2 := Aside0.mk hl196_2
                  clear hi196_2 hl196_2
                  replace p196 := eq_true p196
                  replace q196 := eq_true q196
                  have p197 : 0 ≤ (x5_1 : Int) := of_decide_eq_true (by first | (with_reducible assumption) | assumption)
                  have q197 : x5_1 < (l1.length : Int) := of_decide_eq_true (by first | (with_reducible assumption) | assumption)
                  obtain ⟨ad197, A197_2, c197_2, e197, hx197_0, hx197_1, hx197_2, hl197_2, hi197_2⟩ := at_T25 HR1.out x5_1 p197 q197
                  cases e197
                  have HR197_2 := Aside0.mk hi197_2
                  have HC197_2 := Aside0.mk hl197_2
                  clear hi197_2 hl197_2
                  replace p197 := eq_true p197
                  replace q197 := eq_true q197
                  go_wp2_with (first | (go_at_call 20; (with_reducible refine (malthouseref13_Lots.calls k1 _ _ ((rd_T25 l0 x5_1).f2) _ _ ((rd_T25 l1 x5_1).f2) true _ ?side1 ?side2 ?side3 ?side4 A7.out).mono ?_); (case side1 => repeat (first | exact HR196_2.out | (with_reducible refine Kd.C_alloc ?_ _) | (with_reducible refine Kd.C_drewN ?_ _) | (with_reducible refine Kd.C_drew ?_))); (case side2 => exact HC196_2.out); (case side3 => repeat (first | exact HR197_2.out | (with_reducible refine Kd.C_alloc ?_ _) | (with_reducible refine Kd.C_drewN ?_ _) | (with_reducible refine Kd.C_drew ?_))); (case side4 => exact HC197_2.out); rintro e w' ⟨rfl, ⟨nd, rfl⟩⟩; (try first | exact ⟨rfl, _, World.drewN_drewN _ _ _⟩ | exact ⟨rfl, _, Eq.trans (World.drewN_drewN _ _ _) (congrArg (World.drewN _) (Nat.add_assoc _ _ _))⟩); have p199 : 0 ≤ (x5_1 : Int) := of_decide_eq_true (by first | (with_reducible assumption) | assumption); have q199 : x5_1 < (l0.length : Int) := of_decide_eq_true (by first | (with_reducible assumption) | assumption); obtain ⟨ad199, A199_2, c199_2, e199, hx199_0, hx199_1, hx199_2, hl199_2, hi199_2⟩ := at_T25 HR0.out x5_1 p199 q199; obtain rfl : ad196 = ad199 := (by injection e199); have HR199_2 := Aside0.mk hi199_2; have HC199_2 := Aside0.mk hl199_2; clear hi199_2 hl199_2; replace p199 := eq_true p199; replace q199 := eq_true q199; have ea_ := Option.some.inj (hx196_2.symm.trans hx199_2); injection ea_ with ea_ en_ ec_; subst ea_; subst ec_; clear en_; have p200 : 0 ≤ (x5_1 : Int) := of_decide_eq_true (by first | (with_reducible assumption) | assumption); have q200 : x5_1 < (l1.length : Int) := of_decide_eq_true (by first | (with_reducible assumption) | assumption); obtain ⟨ad200, A200_2, c200_2, e200, hx200_0, hx200_1, hx200_2, hl200_2, hi200_2⟩ := at_T25 HR1.out x5_1 p200 q200; obtain rfl : ad197 = ad200 := (by injection e200); have HR200_2 := Aside0.mk hi200_2; have HC200_2 := Aside0.mk hl200_2; clear hi200_2 hl200_2; replace p200 := eq_true p200; replace q200 := eq_true q200; have ea_ := Option.some.inj (hx197_2.symm.trans hx200_2); injection ea_ with ea_ en_ ec_; subst ea_; subst ec_; clear en_))
                  repeat (go_quiet (first | (go_at_call 20; (with_reducible refine (malthouseref13_Lots.calls k1 _ _ ((rd_T25 l0 x5_1).f2) _ _ ((rd_T25 l1 x5_1).f2) true _ ?side1 ?side2 ?side3 ?side4 A7.out).mono ?_); (case side1 => repeat (first | exact HR196_2.out | (with_reducible refine Kd.C_alloc ?_ _) | (with_reducible refine Kd.C_drewN ?_ _) | (with_reducible refine Kd.C_drew ?_))); (case side2 => exact HC196_2.out); (case side3 => repeat (first | exact HR197_2.out | (with_reducible refine Kd.C_alloc ?_ _) | (with_reducible refine Kd.C_drewN ?_ _) | (with_reducible refine Kd.C_drew ?_))); (case side4 => exact HC197_2.out); rintro e w' ⟨rfl, ⟨nd, rfl⟩⟩; (try first | exact ⟨rfl, _, World.drewN_drewN _ _ _⟩ | exact ⟨rfl, _, Eq.trans (World.drewN_drewN _ _ _) (congrArg (World.drewN _) (Nat.add_assoc _ _ _))⟩); have p199 : 0 ≤ (x5_1 : Int) := of_decide_eq_true (by first | (with_reducible assumption) | assumption); have q199 : x5_1 < (l0.length : Int) := of_decide_eq_true (by first | (with_reducible assumption) | assumption); obtain ⟨ad199, A199_2, c199_2, e199, hx199_0, hx199_1, hx199_2, hl199_2, hi199_2⟩ := at_T25 HR0.out x5_1 p199 q199; obtain rfl : ad196 = ad199 := (by injection e199); have HR199_2 := Aside0.mk hi199_2; have HC199_2 := Aside0.mk hl199_2; clear hi199_2 hl199_2; replace p199 := eq_true p199; replace q199 := eq_true q199; have ea_ := Option.some.inj (hx196_2.symm.trans hx199_2); injection ea_ with ea_ en_ ec_; subst ea_; subst ec_; clear en_; have p200 : 0 ≤ (x5_1 : Int) := of_decide_eq_true (by first | (with_reducible assumption) | assumption); have q200 : x5_1 < (l1.length : Int) := of_decide_eq_true (by first | (with_reducible assumption) | assumption); obtain ⟨ad200, A200_2, c200_2, e200, hx200_0, hx200_1, hx200_2, hl200_2, hi200_2⟩ := at_T25 HR1.out x5_1 p200 q200; obtain rfl : ad197 = ad200 := (by injection e200); have HR200_2 := Aside0.mk hi200_2; have HC200_2 := Aside0.mk hl200_2; clear hi200_2 hl200_2; replace p200 := eq_true p200; replace q200 := eq_true q200; have ea_ := Option.some.inj (hx197_2.symm.trans hx200_2); injection ea_ with ea_ en_ ec_; subst ea_; subst ec_; clear en_)); try go_wp2_with (first | (go_at_call 20; (with_reducible refine (malthouseref13_Lots.calls k1 _ _ ((rd_T25 l0 x5_1).f2) _ _ ((rd_T25 l1 x5_1).f2) true _ ?side1 ?side2 ?side3 ?side4 A7.out).mono ?_); (case side1 => repeat (first | exact HR196_2.out | (with_reducible refine Kd.C_alloc ?_ _) | (with_reducible refine Kd.C_drewN ?_ _) | (with_reducible refine Kd.C_drew ?_))); (case side2 => exact HC196_2.out); (case side3 => repeat (first | exact HR197_2.out | (with_reducible refine Kd.C_alloc ?_ _) | (with_reducible refine Kd.C_drewN ?_ _) | (with_reducible refine Kd.C_drew ?_))); (case side4 => exact HC197_2.out); rintro e w' ⟨rfl, ⟨nd, rfl⟩⟩; (try first | exact ⟨rfl, _, World.drewN_drewN _ _ _⟩ | exact ⟨rfl, _, Eq.trans (World.drewN_drewN _ _ _) (congrArg (World.drewN _) (Nat.add_assoc _ _ _))⟩); have p199 : 0 ≤ (x5_1 : Int) := of_decide_eq_true (by first | (with_reducible assumption) | assumption); have q199 : x5_1 < (l0.length : Int) := of_decide_eq_true (by first | (with_reducible assumption) | assumption); obtain ⟨ad199, A199_2, c199_2, e199, hx199_0, hx199_1, hx199_2, hl199_2, hi199_2⟩ := at_T25 HR0.out x5_1 p199 q199; obtain rfl : ad196 = ad199 := (by injection e199); have HR199_2 := Aside0.mk hi199_2; have HC199_2 := Aside0.mk hl199_2; clear hi199_2 hl199_2; replace p199 := eq_true p199; replace q199 := eq_true q199; have ea_ := Option.some.inj (hx196_2.symm.trans hx199_2); injection ea_ with ea_ en_ ec_; subst ea_; subst ec_; clear en_; have p200 : 0 ≤ (x5_1 : Int) := of_decide_eq_true (by first | (with_reducible assumption) | assumption); have q200 : x5_1 < (l1.length : Int) := of_decide_eq_true (by first | (with_reducible assumption) | assumption); obtain ⟨ad200, A200_2, c200_2, e200, hx200_0, hx200_1, hx200_2, hl200_2, hi200_2⟩ := at_T25 HR1.out x5_1 p200 q200; obtain rfl : ad197 = ad200 := (by injection e200); have HR200_2 := Aside0.mk hi200_2; have HC200_2 := Aside0.mk hl200_2; clear hi200_2 hl200_2; replace p200 := eq_true p200; replace q200 := eq_true q200; have ea_ := Option.some.inj (hx197_2.symm.trans hx200_2); injection ea_ with ea_ en_ ec_; subst ea_; subst ec_; clear en_)))
                  go_ret
                  exact ⟨by first | rfl | (simp; done) | (simp [*]; done), by repeat (first | exact Drawn0.refl _ | apply Drawn0.step)⟩
              · replace c8 := Bool.eq_false_iff.mpr c8
                subst c8
                have H1 : (some false) = some r := by rw [if_neg (show ¬ (false = true) by decide)] at H; exact H
                clear H
                have H := H1
                clear H1
                obtain rfl := Option.some.inj H
                have p196 : 0 ≤ (x5_1 : Int) := of_decide_eq_true (by first | (with_reducible assumption) | assumption)
                have q196 : x5_1 < (l0.length : Int) := of_decide_eq_true (by first | (with_reducible assumption) | assumption)
                obtain ⟨ad196, A196_2, c196_2, e196, hx196_0, hx196_1, hx196_2, hl196_2, hi196_2⟩ := at_T25 HR0.out x5_1 p196 q196
                cases e196
                have HR196_2 := Aside0.mk hi196_2
                have HC196_2 := Aside0.mk hl196_2
                clear hi196_2 hl196_2
                replace p196 := eq_true p196
                replace q196 := eq_true q196
                have p197 : 0 ≤ (x5_1 : Int) := of_decide_eq_true (by first | (with_reducible assumption) | assumption)
                have q197 : x5_1 < (l1.length : Int) := of_decide_eq_true (by first | (with_reducible assumption) | assumption)
                obtain ⟨ad197, A197_2, c197_2, e197, hx197_0, hx197_1, hx197_2, hl197_2, hi197_2⟩ := at_T25 HR1.out x5_1 p197 q197
                cases e197
                have HR197_2 := Aside0.mk hi197_2
                have HC197_2 := Aside0.mk hl197_2
                clear hi197_2 hl197_2
                replace p197 := eq_true p197
                replace q197 := eq_true q197
                go_wp2_with (first | (go_at_call 20; (with_reducible refine (malthouseref13_Lots.calls k1 _ _ ((rd_T25 l0 x5_1).f2) _ _ ((rd_T25 l1 x5_1).f2) false _ ?side1 ?side2 ?side3 ?side4 A7.out).mono ?_); (case side1 => repeat (first | exact HR196_2.out | (with_reducible refine Kd.C_alloc ?_ _) | (with_reducible refine Kd.C_drewN ?_ _) | (with_reducible refine Kd.C_drew ?_))); (case side2 => exact HC196_2.out); (case side3 => repeat (first | exact HR197_2.out | (with_reducible refine Kd.C_alloc ?_ _) | (with_reducible refine Kd.C_drewN ?_ _) | (with_reducible refine Kd.C_drew ?_))); (case side4 => exact HC197_2.out); rintro e w' ⟨rfl, ⟨nd, rfl⟩⟩; (try first | exact ⟨rfl, _, World.drewN_drewN _ _ _⟩ | exact ⟨rfl, _, Eq.trans (World.drewN_drewN _ _ _) (congrArg (World.drewN _) (Nat.add_assoc _ _ _))⟩)))
                repeat (go_quiet (first | (go_at_call 20; (with_reducible refine (malthouseref13_Lots.calls k1 _ _ ((rd_T25 l0 x5_1).f2) _ _ ((rd_T25 l1 x5_1).f2) false _ ?side1 ?side2 ?side3 ?side4 A7.out).mono ?_); (case side1 => repeat (first | exact HR196_2.out | (with_reducible refine Kd.C_alloc ?_ _) | (with_reducible refine Kd.C_drewN ?_ _) | (with_reducible refine Kd.C_drew ?_))); (case side2 => exact HC196_2.out); (case side3 => repeat (first | exact HR197_2.out | (with_reducible refine Kd.C_alloc ?_ _) | (with_reducible refine Kd.C_drewN ?_ _) | (with_reducible refine Kd.C_drew ?_))); (case side4 => exact HC197_2.out); rintro e w' ⟨rfl, ⟨nd, rfl⟩⟩; (try first | exact ⟨rfl, _, World.drewN_drewN _ _ _⟩ | exact ⟨rfl, _, Eq.trans (World.drewN_drewN _ _ _) (congrArg (World.drewN _) (Nat.add_assoc _ _ _))⟩))); try go_wp2_with (first | (go_at_call 20; (with_reducible refine (malthouseref13_Lots.calls k1 _ _ ((rd_T25 l0 x5_1).f2) _ _ ((rd_T25 l1 x5_1).f2) false _ ?side1 ?side2 ?side3 ?side4 A7.out).mono ?_); (case side1 => repeat (first | exact HR196_2.out | (with_reducible refine Kd.C_alloc ?_ _) | (with_reducible refine Kd.C_drewN ?_ _) | (with_reducible refine Kd.C_drew ?_))); (case side2 => exact HC196_2.out); (case side3 => repeat (first | exact HR197_2.out | (with_reducible refine Kd.C_alloc ?_ _) | (with_reducible refine Kd.C_drewN ?_ _) | (with_reducible refine Kd.C_drew ?_))); (case side4 => exact HC197_2.out); rintro e w' ⟨rfl, ⟨nd, rfl⟩⟩; (try first | exact ⟨rfl, _, World.drewN_drewN _ _ _⟩ | exact ⟨rfl, _, Eq.trans (World.drewN_drewN _ _ _) (congrArg (World.drewN _) (Nat.add_assoc _ _ _))⟩))))
                go_ret
                exact ⟨by first | rfl | (simp; done) | (simp [*]; done), by repeat (first | exact Drawn0.refl _ | apply Drawn0.step)⟩
            · rw [if_neg c6] at H
              exact absurd H (by simp)
          · rw [if_neg c5] at H
            exact absurd H (by simp)
        · rw [if_neg c4] at H
          have c4b0 : decide (x5_1 < (l0.length : Int)) = false := decide_eq_false c4
          clear c4
          obtain rfl := Option.some.inj H
          go_wp2
          repeat (go_quiet (fail); try go_wp2)
          go_ret
          exact ⟨by first | rfl | (simp; done) | (simp [*]; done), by repeat (first | exact Drawn0.refl _ | apply Drawn0.step)⟩
  · rw [if_neg c3] at H
    have c3b0 : ((l0.length : Int) == (l1.length : Int)) = false := beq_eq_false_iff_ne.mpr c3
    have c3b1 : ((l0.length : Int) != (l1.length : Int)) = true := bne_iff_ne.mpr c3
    have c3b2 : (l0.length == l1.length) = false := by first | simpa using c3 | (simp at c3 ⊢; omega)
    obtain rfl := Option.some.inj H
    go_enter Tryd.func19, Tryd.ntmps19
    go_wp2
    repeat (go_quiet (fail); try go_wp2)
    go_ret
    exact ⟨by first | rfl | (simp; done) | (simp [*]; done), by repeat (first | exact Drawn0.refl _ | apply Drawn0.step)⟩
end Go.Proofs.YtejecmjajdhiiaaDoor.Print
/-! ### LgLight -/
namespace Go.Proofs.YtejecmjajdhiiaaDoor.Print
open Go.RowKit Go.Proofs.YtejecmjajdhiiaaDoorW.PrintWords Go.Proofs.YtejecmjajdhiiaaDoorW.PrintLast Go.Proofs.YtejecmjajdhiiaaDoorW.PrintMore
set_option linter.unusedSimpArgs false
set_option linter.unusedVariables false
def lotL (y : S37) : Bool := decide (y.f0.size ≤ 200)
def vesL (x : S25) : Bool := decide (x.f2.length ≤ 50) && decide (x.f0.size ≤ 200) && x.f2.all lotL
def lightM (l : List S25) : Bool := decide (l.length ≤ 50) && l.all vesL
theorem light_in (l : List S25) (hl : l.length ≤ 50) (i : Nat) (hi : i < l.length) (x : S25) (hx : l[i]? = some x) (hxl : x.f2.length ≤ 50) (k : Nat) : ∀ (f j : Nat), x.f2.length = j + f →
    malthouseref13_Light.l1 (k + f + 1) l (i : Int) (j : Int) = if (x.f2.drop j).all lotL = true then malthouseref13_Light.l0 k l ((i + 1 : Nat) : Int) else some false := by
  have e : rd_T25 l (i : Int) = x := by rw [show rd_T25 l (i : Int) = l[i] from getD_at l _ i hi]; exact (List.getElem?_eq_some_iff.1 hx).2
  intro f
  induction f with
  | zero =>
    intro j hj
    simp only [malthouseref13_Light.l1]
    rw [if_pos (by omega), if_pos (by omega), e, if_neg (by omega), List.drop_eq_nil_of_le (by omega), if_pos (show ([] : List S37).all lotL = true from rfl), wrap_small _ (by omega) (by omega), show (i : Int) + 1 = ((i + 1 : Nat) : Int) by omega]
  | succ f ih =>
    intro j hj
    rw [show k + (f + 1) + 1 = (k + f + 1) + 1 by omega]
    generalize k + f + 1 = K at *
    simp only [malthouseref13_Light.l1]
    have hjl : j < x.f2.length := by omega
    have e2 : rd_T37 x.f2 (j : Int) = x.f2[j] := getD_at _ _ j hjl
    rw [if_pos (by omega), if_pos (by omega), e, if_pos (by omega), if_pos (by omega), e2, List.drop_eq_getElem_cons hjl, List.all_cons]
    by_cases h : (x.f2[j].f0.size : Int) > 200
    · rw [if_pos h, if_neg (by unfold lotL; simp; omega)]
    · rw [if_neg h, wrap_small _ (by omega) (by omega), show (j : Int) + 1 = ((j + 1 : Nat) : Int) by omega, ih (j + 1) (by omega)]
      have h2 : lotL x.f2[j] = true := by unfold lotL; simp; omega
      rw [h2, Bool.true_and]
theorem light_loop (l : List S25) (hl : l.length ≤ 50) : ∀ (f i K : Nat), l.length ≤ i + f → 60 * f + 1 ≤ K → malthouseref13_Light.l0 K l (i : Int) = some ((l.drop i).all vesL) := by
  intro f
  induction f with
  | zero =>
    intro i K h1 hK
    obtain ⟨K, rfl⟩ : ∃ K', K = K' + 1 := ⟨K - 1, by omega⟩
    simp only [malthouseref13_Light.l0]
    rw [if_neg (by omega), List.drop_eq_nil_of_le (by omega)]
    rfl
  | succ f ih =>
    intro i K h1 hK
    by_cases hi : i < l.length
    · obtain ⟨K, rfl⟩ : ∃ K', K = K' + 1 + 1 := ⟨K - 2, by omega⟩
      simp only [malthouseref13_Light.l0]
      obtain ⟨x, hx⟩ : ∃ x, l[i]? = some x := ⟨_, List.getElem?_eq_getElem hi⟩
      have e : rd_T25 l (i : Int) = x := by rw [show rd_T25 l (i : Int) = l[i] from getD_at l _ i hi]; exact (List.getElem?_eq_some_iff.1 hx).2
      rw [if_pos (by omega), if_pos (by omega), e, List.drop_eq_getElem_cons hi, (List.getElem?_eq_some_iff.1 hx).2, List.all_cons]
      simp only [malthouseref13_Light.j1]
      by_cases h5 : (x.f2.length : Int) > 50
      · rw [if_pos h5, if_pos trivial]
        have : ¬ x.f2.length ≤ 50 := by omega
        unfold vesL
        simp [this]
      rw [if_neg h5]
      by_cases h6 : (x.f0.size : Int) > 200
      · rw [if_pos (by simpa using h6)]
        have : ¬ x.f0.size ≤ 200 := by omega
        unfold vesL
        simp [this]
      rw [if_neg (by simpa using h6)]
      have hin := light_in l hl i hi x hx (by omega) (K - x.f2.length - 1) x.f2.length 0 (by omega)
      rw [show K - x.f2.length - 1 + x.f2.length + 1 = K by omega, List.drop_zero] at hin
      have h50 : x.f2.length ≤ 50 := by omega
      have h200 : x.f0.size ≤ 200 := by omega
      rw [show (0 : Int) = ((0 : Nat) : Int) from rfl, hin]
      cases hq : x.f2.all lotL
      · rw [if_neg (by simp)]
        unfold vesL
        simp [hq]
      · rw [if_pos rfl, ih (i + 1) _ (by omega) (by omega)]
        have : vesL x = true := by unfold vesL; simp only [hq, h50, h200, decide_true, Bool.and_self]
        rw [this, Bool.true_and]
    · obtain ⟨K, rfl⟩ : ∃ K', K = K' + 1 := ⟨K - 1, by omega⟩
      simp only [malthouseref13_Light.l0]
      rw [if_neg (by omega), List.drop_eq_nil_of_le (by omega)]
      rfl
theorem light_is (l : List S25) (K : Nat) (hK : 3100 ≤ K) : malthouseref13_Light.f K l = some (lightM l) := by
  unfold malthouseref13_Light.f lightM
  by_cases h : (l.length : Int) > 50
  · rw [if_pos h]
    have : ¬ l.length ≤ 50 := by omega
    simp [this]
  · rw [if_neg h]
    have h50 : l.length ≤ 50 := by omega
    have := light_loop l h50 l.length 0 K (by omega) (by omega)
    rw [List.drop_zero] at this
    rw [show (0 : Int) = ((0 : Nat) : Int) from rfl, this]
    simp [h50]
theorem lots_refl (l : List S37) (hl : l.length ≤ 1000000) : ∀ (f i K : Nat), l.length ≤ i + f → f + 1 ≤ K → malthouseref13_Lots.l0 K l l (i : Int) = some true := by
  intro f
  induction f with
  | zero =>
    intro i K h1 hK
    obtain ⟨K, rfl⟩ : ∃ K', K = K' + 1 := ⟨K - 1, by omega⟩
    simp only [malthouseref13_Lots.l0]
    rw [if_neg (by omega)]
  | succ f ih =>
    intro i K h1 hK
    obtain ⟨K, rfl⟩ : ∃ K', K = K' + 1 := ⟨K - 1, by omega⟩
    simp only [malthouseref13_Lots.l0]
    by_cases hi : i < l.length
    · rw [if_pos (by omega), if_pos (by omega), if_pos (by omega), if_neg (by simp), wrap_small _ (by omega) (by omega), show (i : Int) + 1 = ((i + 1 : Nat) : Int) by omega]
      exact ih (i + 1) K (by omega) (by omega)
    · rw [if_neg (by omega)]
theorem same_refl (m : Nat) (hm : m ≤ 1000000) (l : List S25) (hl : l.length ≤ 1000000) (hx : ∀ x ∈ l, x.f2.length ≤ m) : ∀ (f i K : Nat), l.length ≤ i + f → f + m + 2 ≤ K → malthouseref13_Same.l0 K l l (i : Int) = some true := by
  intro f
  induction f with
  | zero =>
    intro i K h1 hK
    obtain ⟨K, rfl⟩ : ∃ K', K = K' + 1 := ⟨K - 1, by omega⟩
    simp only [malthouseref13_Same.l0]
    rw [if_neg (by omega)]
  | succ f ih =>
    intro i K h1 hK
    obtain ⟨K, rfl⟩ : ∃ K', K = K' + 1 := ⟨K - 1, by omega⟩
    simp only [malthouseref13_Same.l0]
    by_cases hi : i < l.length
    · have e : rd_T25 l (i : Int) = l[i] := getD_at l _ i hi
      have hxm := hx _ (List.getElem_mem hi)
      have hlo : malthouseref13_Lots.f K l[i].f2 l[i].f2 = some true := by
        unfold malthouseref13_Lots.f
        rw [if_pos rfl]
        exact lots_refl _ (by omega) l[i].f2.length 0 K (by omega) (by omega)
      rw [if_pos (by omega), if_pos (by omega), if_pos (by omega), e, hlo]
      simp only [Option.bind_some]
      rw [if_pos trivial, if_pos trivial, if_pos trivial, wrap_small _ (by omega) (by omega), show (i : Int) + 1 = ((i + 1 : Nat) : Int) by omega]
      exact ih (i + 1) K (by omega) (by omega)
    · rw [if_neg (by omega)]
theorem same_is (m : Nat) (hm : m ≤ 1000000) (l : List S25) (hl : l.length ≤ 1000000) (hx : ∀ x ∈ l, x.f2.length ≤ m) (K : Nat) (hK : l.length + m + 2 ≤ K) : malthouseref13_Same.f K l l = some true := by
  unfold malthouseref13_Same.f
  rw [if_pos rfl]
  exact same_refl m hm l hl hx l.length 0 K (by omega) hK
end Go.Proofs.YtejecmjajdhiiaaDoor.Print
/-! ### LgOk -/
namespace Go.Proofs.YtejecmjajdhiiaaDoor.Print
open Go.RowKit Go.Proofs.YtejecmjajdhiiaaDoorW.PrintWords Go.Proofs.YtejecmjajdhiiaaDoorW.PrintLast Go.Proofs.YtejecmjajdhiiaaDoorW.PrintMore
set_option linter.unusedSimpArgs false
set_option linter.unusedVariables false
structure Lite (l : List S25) : Prop where
  len : l.length ≤ 50
  all : ∀ x ∈ l, LtV 60 x
theorem lite_of {l : List S25} (h : lightM l = true) (hr : ∀ x ∈ l, -9223372036854775808 ≤ x.f1 ∧ x.f1 ≤ 9223372036854775807) : Lite l := by
  unfold lightM at h
  simp only [Bool.and_eq_true, decide_eq_true_eq, List.all_eq_true] at h
  refine ⟨h.1, fun x hx => ?_⟩
  have h2 := h.2 x hx
  unfold vesL at h2
  simp only [Bool.and_eq_true, decide_eq_true_eq, List.all_eq_true] at h2
  refine ⟨by omega, (hr x hx).1, (hr x hx).2, by omega, fun y hy => ?_⟩
  have h3 := h2.2 y hy
  unfold lotL at h3
  have := of_decide_eq_true h3
  omega
theorem vesB_iff (x : S25) : vesB x = true ↔ nameB x.f0 = true ∧ 1 ≤ x.f1 ∧ x.f1 ≤ 1125899906842624 ∧ fine none x.f2 = true ∧ sumL x.f2 ≤ x.f1 := by
  unfold vesB
  rw [leftM_fine]
  cases hf : fine none x.f2
  · simp
  · cases hx : x.f2 with
    | nil =>
      have h0 : sumL ([] : List S37) = 0 := rfl
      simp only [h0, List.isEmpty_nil, Bool.true_or, Bool.and_true, if_true, Option.isSome_some, Bool.and_eq_true, decide_eq_true_eq, true_and]
      constructor
      · rintro ⟨⟨a, b⟩, c⟩
        exact ⟨a, b, c, by omega⟩
      · rintro ⟨a, b, c, _⟩
        exact ⟨⟨a, b⟩, c⟩
    | cons y t =>
      by_cases h : sumL (y :: t) ≤ x.f1 <;> simp [h, and_assoc]
theorem level_good {l : List S25} (h : Good l) {j : Nat} {x : S25} (hx : l[j]? = some x) : levelM x = sumL x.f2 := by
  obtain ⟨h1, _, h3⟩ := h.all j x hx
  have hg : Good [x] := ⟨by simp, fun i y hy => by
    cases i with
    | zero =>
      obtain rfl := Option.some.inj hy
      refine ⟨h1, ?_, h3⟩
      unfold firstFrom
      have : vesselIs x.f0 x = true := by unfold vesselIs; simp
      rw [if_pos this]
      omega
    | succ i => simp at hy⟩
  unfold levelM
  rw [if_pos ((good_iff [x]).2 hg), leftM_fine]
  obtain ⟨a, b, c, d, e⟩ := (vesB_iff x).1 h1
  rw [if_pos (by rw [d]; simp [e])]
  show x.f1 - (x.f1 - sumL x.f2) = _
  omega
theorem smallV_lite {l : List S25} (h : Lite l) : smallV l = true := by
  unfold smallV
  simp only [Bool.and_eq_true, decide_eq_true_eq, List.all_eq_true]
  exact ⟨by have := h.len; omega, fun x hx => by have := (h.all x hx).len; omega⟩
theorem check_lite {l : List S25} (h : Lite l) : ledger_Check.f 100000 l = some (checkM l) := by
  have h1 := check_is 60 (by omega) l (by have := h.len; omega) h.all 99926
  rw [show (99926 + 60 + 14 : Nat) = 100000 from rfl] at h1
  exact h1
theorem find_lite {l : List S25} (h : Lite l) (a : ByteArray) : ledger_find.f l a = some (firstFrom (vesselIs a) 0 l) := by
  unfold ledger_find.f
  rw [if_pos (by have := h.len; omega)]
theorem level_lite {x : S25} (h : LtV 60 x) : ledger_Level.f 100000 x.f0 x.f1 x.f2 = some (levelM x) := by
  have h1 := level_is 60 (by omega) x h 99926
  rw [show (99926 + 60 + 14 : Nat) = 100000 from rfl] at h1
  exact h1
theorem lots_good {l : List S37} {p : Option ByteArray} (h : fine p l = true) (hs : sumL l ≤ 1125899906842624) : lotsOk l = true := by
  unfold lotsOk
  rw [List.all_eq_true]
  induction l generalizing p with
  | nil => simp
  | cons x l ih =>
    obtain ⟨a, b, c, d⟩ := (fine_cons p x l).1 h
    rw [sumL_cons] at hs
    have h0 := fine_sum l _ d
    intro y hy
    rcases List.mem_cons.1 hy with rfl | hy
    · simp only [Bool.and_eq_true, decide_eq_true_eq]
      omega
    · exact ih d (by omega) y hy
theorem pourOk_good {l : List S37} {x : S37} {p : Option ByteArray} (h : fine p l = true) (hs : sumL l ≤ 1125899906842624) (h1 : 1 ≤ x.f1) (h2 : x.f1 ≤ 1125899906842624) : pourOk l x = true := by
  unfold pourOk
  cases hg : l.getLast? with
  | none => rfl
  | some q =>
    obtain ⟨a, b⟩ := getLast_le l p q h hg
    simp only [Bool.and_eq_true, decide_eq_true_eq]
    omega
theorem sumL_pos : ∀ (o : List S37), (∀ y ∈ o, 1 ≤ y.f1) → 0 ≤ sumL o ∧ ∀ y ∈ o, y.f1 ≤ sumL o
  | [], _ => ⟨Int.le_refl _, by simp⟩
  | x :: o, h => by
    obtain ⟨i1, i2⟩ := sumL_pos o (fun y hy => h y (by simp [hy]))
    have h1 := h x (by simp)
    rw [sumL_cons]
    refine ⟨by omega, fun y hy => ?_⟩
    rcases List.mem_cons.1 hy with rfl | hy
    · omega
    · have := i2 y hy
      omega
theorem poursOk_good : ∀ (o : List S37) (l : List S37), fine none l = true → (∀ y ∈ o, nameB y.f0 = true ∧ 1 ≤ y.f1) → sumL l + sumL o ≤ 1125899906842624 → poursOk l o = true
  | [], l, _, _, _ => rfl
  | x :: o, l, h, ho, hs => by
    obtain ⟨h1, h2⟩ := ho x (by simp)
    rw [sumL_cons] at hs
    have h0 := fine_sum l _ h
    have h3 := (sumL_pos o (fun y hy => (ho y (by simp [hy])).2)).1
    show (pourOk l x && poursOk (pourM l x) o) = true
    rw [pourOk_good h (by omega) h2 (by omega), Bool.true_and]
    exact poursOk_good o (pourM l x) (pour_fine x h1 h2 l none h (by simp)) (fun y hy => ho y (by simp [hy])) (by rw [pour_sum]; omega)
end Go.Proofs.YtejecmjajdhiiaaDoor.Print
/-! ### Print10 -/
namespace Go.Proofs.YtejecmjajdhiiaaDoor.Print
open Go.RowKit Go.Proofs.YtejecmjajdhiiaaDoorW.PrintWords Go.Proofs.YtejecmjajdhiiaaDoorW.PrintLast Go.Proofs.YtejecmjajdhiiaaDoorW.PrintMore
attribute [local go_sem] min_two
set_option linter.unusedVariables false
set_option linter.unusedSimpArgs false
mutual
def malthouseref13_Check.l0 : Nat → List (S25) → Int → Option (Int)
  | 0, _, _ => none
  | k + 1, x0, x3 => if x3 < (x0.length : Int) then (if 0 ≤ x3 then ((malthouseref01_Name.f k ((rd_T25 x0 x3).f0)).bind fun t168 => (if t168 = true then (if ((rd_T25 x0 x3).f1) < 1 then (malthouseref13_Check.j1 k x0 x3 true) else (malthouseref13_Check.j1 k x0 x3 (decide (((rd_T25 x0 x3).f1) > 1125899906842624)))) else (malthouseref13_Check.j1 k x0 x3 true))) else (none)) else (some 0)
def malthouseref13_Check.j1 : Nat → List (S25) → Int → Bool → Option (Int)
  | 0, _, _, _ => none
  | k + 1, x0, x3, x38 => if x38 = true then (some 1) else (if 0 ≤ x3 then (if x3 < (x0.length : Int) then ((malthouseref13_lots.f k ((rd_T25 x0 x3).f2) ((rd_T25 x0 x3).f1)).bind fun t173 => (if t173 = true then ((malthouseref13_Place.f k x0 ((rd_T25 x0 x3).f0)).bind fun t175 => (if t175 = x3 then (if (((rd_T25 x0 x3).f2).length : Int) > 5 then (some 2) else (malthouseref13_Check.l0 k x0 (wrap64 (x3 + 1)))) else (some 5))) else (some 1))) else (none)) else (none))
end
def malthouseref13_Check.f (k : Nat) (l0 : List (S25)) : Option (Int) := if (l0.length : Int) > 6 then (some 2) else (malthouseref13_Check.l0 k l0 0)
def malthouseref13_Check.T9 : Bool × List (List Nat × List Nat) := (true, [([], []), ([], []), ([0, 1], [0, 1]), ([2], [2]), ([3], [3]), ([], []), ([], []), ([5, 6], [5, 6]), ([7], [7]), ([8], [8]), ([4, 9], [4, 9]), ([10, 10, 0, 1, 2, 3, 4, 5, 6, 7, 8, 9, 10], [10])])
def malthouseref13_Check.B9 : List Nat := [0, 0, 3, 7, 15, 0, 0, 96, 224, 480, 1023, 2047]
theorem malthouseref13_Check.tab9 : rtab .any (opsOf Tryd.f13 9) = malthouseref13_Check.T9 := by kernel_rfl
theorem malthouseref13_Check.bits9 : waitsOk malthouseref13_Check.T9.2 malthouseref13_Check.B9 = true := by kernel_rfl
set_option maxHeartbeats 8000000 in
set_option maxRecDepth 100000 in
theorem malthouseref13_Check.calls (k : Nat) (A0 : Option Addr) (c0 : Nat) (l0 : List (S25)) (r : Int) (w : World) (hr0 : Kd.C k25 w A0 l0.length l0) (hc0 : l0.length ≤ c0) (h : malthouseref13_Check.f k l0 = some r) :
    Calls Tryd.prog 13 #[.slice A0 l0.length c0] w fun e w' => e = .returned (.int .i64 r) ∧ Below w.heap.size w w' := by
  have HR0 := Aside0.mk hr0
  have HC0 := Aside0.mk hc0
  clear hr0 hc0
  have HB := Aside0.mk (Below.refl w.heap.size w)
  have H : (if (l0.length : Int) > 6 then (some 2) else (malthouseref13_Check.l0 k l0 0)) = some r := h
  clear h
  by_cases c2 : (l0.length : Int) > 6
  · rw [if_pos c2] at H
    have c2b0 : decide (6 < (l0.length : Int)) = true := decide_eq_true c2
    have c2b1 : decide (6 < l0.length) = true := decide_eq_true (by omega)
    clear c2
    obtain rfl := Option.some.inj H
    go_enter Tryd.func13, Tryd.ntmps13
    go_wp2
    go_ret
    exact ⟨by first | rfl | (simp [errW_none, errW_some] <;> rfl) | (simp [*, errW_none, errW_some] <;> rfl), by repeat (first | (with_reducible first | exact HB.out | apply below_alloc | apply pw_below_drewN | apply below_drew1) | exact HB.out)⟩
  · rw [if_neg c2] at H
    have c2b0 : decide (6 < (l0.length : Int)) = false := decide_eq_false c2
    have c2b1 : decide (6 < l0.length) = false := decide_eq_false (by omega)
    clear c2
    have H' := Aside0.mk H
    clear H
    go_enter Tryd.func13, Tryd.ntmps13
    go_wp2
    go_loopg [3] k (fun kq v3 w' => ∃ (x3_1 : Int), v3 = .int .i64 x3_1 ∧ Aside0 (malthouseref13_Check.l0 kq l0 x3_1 = some r) ∧ Aside0 (kq ≤ k) ∧ Aside0 (Below w.heap.size w w'))
    case atStart => exact ⟨(0), (by first | rfl | (simp; done) | (simp [*]; done)), H', ⟨Nat.le_refl _⟩, ⟨by repeat (first | (with_reducible first | exact HB.out | apply below_alloc | apply pw_below_drewN | apply below_drew1) | exact HB.out)⟩⟩
    case round =>
      clear H'
      try clear c1
      try clear c2
      try clear c2b0
      try clear c2b1
      try clear p2
      obtain ⟨x3_1, rfl, HA, HK1, HB⟩ := hrel
      cases gk with
      | zero => exact absurd HA.out (by simp [malthouseref13_Check.l0])
      | succ k1 =>
        have H := HA.out
        clear HA
        simp only [malthouseref13_Check.l0] at H
        by_cases c3 : x3_1 < (l0.length : Int)
        · rw [if_pos c3] at H
          have c3b0 : decide (x3_1 < (l0.length : Int)) = true := decide_eq_true c3
          clear c3
          by_cases c4 : 0 ≤ x3_1
          · rw [if_pos c4] at H
            have c4b0 : decide (0 ≤ x3_1) = true := decide_eq_true c4
            clear c4
            replace H := Option.bind_eq_some_iff.mp H
            obtain ⟨t168, A50, H⟩ := H
            replace H : (if t168 = true then (if ((rd_T25 l0 x3_1).f1) < 1 then (malthouseref13_Check.j1 k1 l0 x3_1 true) else (malthouseref13_Check.j1 k1 l0 x3_1 (decide (((rd_T25 l0 x3_1).f1) > 1125899906842624)))) else (malthouseref13_Check.j1 k1 l0 x3_1 true)) = some r := H
            have A5 := Aside0.mk A50
            clear A50
            have HC6 := Aside0.mk H
            clear H
            have p167 : 0 ≤ (x3_1 : Int) := of_decide_eq_true (by first | (with_reducible assumption) | assumption)
            have q167 : x3_1 < (l0.length : Int) := of_decide_eq_true (by first | (with_reducible assumption) | assumption)
            obtain ⟨ad167, A167_2, c167_2, e167, hx167_0, hx167_1, hx167_2, hl167_2, hi167_2⟩ := at_T25 HR0.out x3_1 p167 q167
            cases e167
            replace hx167_0 := (HB.out.cell (World.block_lt_of_cell? w _ hx167_0)).trans hx167_0
            replace hx167_1 := (HB.out.cell (World.block_lt_of_cell? w _ hx167_1)).trans hx167_1
            replace hx167_2 := (HB.out.cell (World.block_lt_of_cell? w _ hx167_2)).trans hx167_2
            have HR167_2 := Aside0.mk hi167_2
            have HC167_2 := Aside0.mk hl167_2
            clear hi167_2 hl167_2
            replace p167 := eq_true p167
            replace q167 := eq_true q167
            go_upto_region 7 with (first | ((with_reducible refine gate_callee (f := 34) rfl ?_); refine goesL_ (some 20) rfl rfl Tryd.func34 (by kernel_rfl) rfl #[.string ((rd_T25 l0 x3_1).f0)] rfl (by (try simp only [List.map_toArray, List.map_cons, List.map_nil]); first | done | rfl | (simp only [List.length_drop, List.length_take]; rfl)) ?_; (with_reducible refine (malthouseref01_Name.calls k1 ((rd_T25 l0 x3_1).f0) t168 _ A5.out).mono ?_); rintro e w7 ⟨rfl, hb⟩; refine ⟨_, rfl, ?_⟩; have n0_ := Aside0.mk (below_step (by repeat (first | (with_reducible first | exact HB.out | apply below_alloc | apply pw_below_drewN | apply below_drew1) | exact HB.out)) hb); clear HB; have HB := n0_; clear n0_; (try clear hb); (try clear hb2); (try clear hk); (try clear hi)))
            (try simp only [Act.put, List.setIfInBounds_toArray, List.set_cons_zero, List.set_cons_succ])
            go_cut [38] (fun v38 wc => ∃ (kq : Nat) (x38_5 : Bool), v38 = .bool x38_5 ∧ Aside0 (malthouseref13_Check.j1 kq l0 x3_1 x38_5 = some r) ∧ Aside0 (kq ≤ k1) ∧ Aside0 (Below w.heap.size w wc))
            case first =>
              have H := HC6.out
              clear HC6
              by_cases c8 : t168 = true
              · subst c8
                have H1 : (if ((rd_T25 l0 x3_1).f1) < 1 then (malthouseref13_Check.j1 k1 l0 x3_1 true) else (malthouseref13_Check.j1 k1 l0 x3_1 (decide (((rd_T25 l0 x3_1).f1) > 1125899906842624)))) = some r := by rw [if_pos rfl] at H; exact H
                clear H
                have H := H1
                clear H1
                by_cases c9 : ((rd_T25 l0 x3_1).f1) < 1
                · rw [if_pos c9] at H
                  have c9b0 : decide (((rd_T25 l0 x3_1).f1) < 1) = true := decide_eq_true c9
                  clear c9
                  (first | rw [c9b0] | (simp only [i64_w, i32_w]; rw [c9b0]) | skip)
                  have H' := Aside0.mk H
                  clear H
                  have p169 : 0 ≤ (x3_1 : Int) := of_decide_eq_true (by first | (with_reducible assumption) | assumption)
                  have q169 : x3_1 < (l0.length : Int) := of_decide_eq_true (by first | (with_reducible assumption) | assumption)
                  obtain ⟨ad169, A169_2, c169_2, e169, hx169_0, hx169_1, hx169_2, hl169_2, hi169_2⟩ := at_T25 HR0.out x3_1 p169 q169
                  obtain rfl : ad167 = ad169 := (by injection e169)
                  replace hx169_0 := (HB.out.cell (World.block_lt_of_cell? w _ hx169_0)).trans hx169_0
                  replace hx169_1 := (HB.out.cell (World.block_lt_of_cell? w _ hx169_1)).trans hx169_1
                  replace hx169_2 := (HB.out.cell (World.block_lt_of_cell? w _ hx169_2)).trans hx169_2
                  have HR169_2 := Aside0.mk hi169_2
                  have HC169_2 := Aside0.mk hl169_2
                  clear hi169_2 hl169_2
                  replace p169 := eq_true p169
                  replace q169 := eq_true q169
                  go_wp2
                  go_meet
                  case rel => exact ⟨_, (true), (by first | rfl | (simp; done) | (simp [*]; done)), H', ⟨by have := HK1.out; first | omega | exact Nat.le_refl _⟩, ⟨by repeat (first | (with_reducible first | exact HB.out | apply below_alloc | apply pw_below_drewN | apply below_drew1) | exact HB.out)⟩⟩
                · rw [if_neg c9] at H
                  have c9b0 : decide (((rd_T25 l0 x3_1).f1) < 1) = false := decide_eq_false c9
                  clear c9
                  (first | rw [c9b0] | (simp only [i64_w, i32_w]; rw [c9b0]) | skip)
                  have H' := Aside0.mk H
                  clear H
                  have p169 : 0 ≤ (x3_1 : Int) := of_decide_eq_true (by first | (with_reducible assumption) | assumption)
                  have q169 : x3_1 < (l0.length : Int) := of_decide_eq_true (by first | (with_reducible assumption) | assumption)
                  obtain ⟨ad169, A169_2, c169_2, e169, hx169_0, hx169_1, hx169_2, hl169_2, hi169_2⟩ := at_T25 HR0.out x3_1 p169 q169
                  obtain rfl : ad167 = ad169 := (by injection e169)
                  replace hx169_0 := (HB.out.cell (World.block_lt_of_cell? w _ hx169_0)).trans hx169_0
                  replace hx169_1 := (HB.out.cell (World.block_lt_of_cell? w _ hx169_1)).trans hx169_1
                  replace hx169_2 := (HB.out.cell (World.block_lt_of_cell? w _ hx169_2)).trans hx169_2
                  have HR169_2 := Aside0.mk hi169_2
                  have HC169_2 := Aside0.mk hl169_2
                  clear hi169_2 hl169_2
                  replace p169 := eq_true p169
                  replace q169 := eq_true q169
                  have p170 : 0 ≤ (x3_1 : Int) := of_decide_eq_true (by first | (with_reducible assumption) | assumption)
                  have q170 : x3_1 < (l0.length : Int) := of_decide_eq_true (by first | (with_reducible assumption) | assumption)
                  obtain ⟨ad170, A170_2, c170_2, e170, hx170_0, hx170_1, hx170_2, hl170_2, hi170_2⟩ := at_T25 HR0.out x3_1 p170 q170
                  obtain rfl : ad167 = ad170 := (by injection e170)
                  replace hx170_0 := (HB.out.cell (World.block_lt_of_cell? w _ hx170_0)).trans hx170_0
                  replace hx170_1 := (HB.out.cell (World.block_lt_of_cell? w _ hx170_1)).trans hx170_1
                  replace hx170_2 := (HB.out.cell (World.block_lt_of_cell? w _ hx170_2)).trans hx170_2
                  have HR170_2 := Aside0.mk hi170_2
                  have HC170_2 := Aside0.mk hl170_2
                  clear hi170_2 hl170_2
                  replace p170 := eq_true p170
                  replace q170 := eq_true q170
                  have ea_ := Option.some.inj (hx169_2.symm.trans hx170_2)
                  injection ea_ with ea_ en_ ec_
                  subst ea_
                  subst ec_
                  clear en_
                  go_wp2
                  go_meet
                  case rel => exact ⟨_, (decide (((rd_T25 l0 x3_1).f1) > 1125899906842624)), (by first | rfl | (simp; done) | (simp [*]; done)), H', ⟨by have := HK1.out; first | omega | exact Nat.le_refl _⟩, ⟨by repeat (first | (with_reducible first | exact HB.out | apply below_alloc | apply pw_below_drewN | apply below_drew1) | exact HB.out)⟩⟩
              · replace c8 := Bool.eq_false_iff.mpr c8
                subst c8
                have H1 : (malthouseref13_Check.j1 k1 l0 x3_1 true) = some r := by rw [if_neg (show ¬ (false = true) by decide)] at H; exact H
                clear H
                have H := H1
                clear H1
                have H' := Aside0.mk H
                clear H
                go_wp2
                go_meet
                case rel => exact ⟨_, (true), (by first | rfl | (simp; done) | (simp [*]; done)), H', ⟨by have := HK1.out; first | omega | exact Nat.le_refl _⟩, ⟨by repeat (first | (with_reducible first | exact HB.out | apply below_alloc | apply pw_below_drewN | apply below_drew1) | exact HB.out)⟩⟩
            case rest =>
              clear HC6
              try clear c1
              try clear p1
              try clear q1
              try clear hx1
              try clear c2
              try clear c2b0
              try clear c2b1
              try clear p2
              try clear c3
              try clear c3b0
              try clear c4
              try clear c4b0
              try clear c8
              try clear c9
              try clear c9b0
              try clear hx167_0
              try clear hx167_1
              try clear hx167_2
              try clear hx169_0
              try clear hx169_1
              try clear hx169_2
              try clear hx170_0
              try clear hx170_1
              try clear hx170_2
              try clear p167
              try clear p169
              try clear p170
              try clear p2
              try clear q167
              try clear q169
              try clear q170
              obtain ⟨kq, x38_5, rfl, HA, HJ5, HB⟩ := hcut
              cases kq with
              | zero => exact absurd HA.out (by simp [malthouseref13_Check.j1])
              | succ kj5 =>
                have H := HA.out
                clear HA
                simp only [malthouseref13_Check.j1] at H
                by_cases c10 : x38_5 = true
                · subst c10
                  have H1 : (some 1) = some r := by rw [if_pos rfl] at H; exact H
                  clear H
                  have H := H1
                  clear H1
                  obtain rfl := Option.some.inj H
                  go_wp2
                  go_ret
                  exact ⟨by first | rfl | (simp [errW_none, errW_some] <;> rfl) | (simp [*, errW_none, errW_some] <;> rfl), by repeat (first | (with_reducible first | exact HB.out | apply below_alloc | apply pw_below_drewN | apply below_drew1) | exact HB.out)⟩
                · replace c10 := Bool.eq_false_iff.mpr c10
                  subst c10
                  have H1 : (if 0 ≤ x3_1 then (if x3_1 < (l0.length : Int) then ((malthouseref13_lots.f kj5 ((rd_T25 l0 x3_1).f2) ((rd_T25 l0 x3_1).f1)).bind fun t173 => (if t173 = true then ((malthouseref13_Place.f kj5 l0 ((rd_T25 l0 x3_1).f0)).bind fun t175 => (if t175 = x3_1 then (if (((rd_T25 l0 x3_1).f2).length : Int) > 5 then (some 2) else (malthouseref13_Check.l0 kj5 l0 (wrap64 (x3_1 + 1)))) else (some 5))) else (some 1))) else (none)) else (none)) = some r := by rw [if_neg (show ¬ (false = true) by decide)] at H; exact H
                  clear H
                  have H := H1
                  clear H1
                  by_cases c11 : 0 ≤ x3_1
                  · rw [if_pos c11] at H
                    have c11b0 : decide (0 ≤ x3_1) = true := decide_eq_true c11
                    clear c11
                    by_cases c12 : x3_1 < (l0.length : Int)
                    · rw [if_pos c12] at H
                      have c12b0 : decide (x3_1 < (l0.length : Int)) = true := decide_eq_true c12
                      clear c12
                      replace H := Option.bind_eq_some_iff.mp H
                      obtain ⟨t173, A130, H⟩ := H
                      replace H : (if t173 = true then ((malthouseref13_Place.f kj5 l0 ((rd_T25 l0 x3_1).f0)).bind fun t175 => (if t175 = x3_1 then (if (((rd_T25 l0 x3_1).f2).length : Int) > 5 then (some 2) else (malthouseref13_Check.l0 kj5 l0 (wrap64 (x3_1 + 1)))) else (some 5))) else (some 1)) = some r := H
                      have A13 := Aside0.mk A130
                      clear A130
                      by_cases c14 : t173 = true
                      · subst c14
                        have H1 : ((malthouseref13_Place.f kj5 l0 ((rd_T25 l0 x3_1).f0)).bind fun t175 => (if t175 = x3_1 then (if (((rd_T25 l0 x3_1).f2).length : Int) > 5 then (some 2) else (malthouseref13_Check.l0 kj5 l0 (wrap64 (x3_1 + 1)))) else (some 5))) = some r := by rw [if_pos rfl] at H; exact H
                        clear H
                        have H := H1
                        clear H1
                        replace H := Option.bind_eq_some_iff.mp H
                        obtain ⟨t175, A150, H⟩ := H
                        replace H : (if t175 = x3_1 then (if (((rd_T25 l0 x3_1).f2).length : Int) > 5 then (some 2) else (malthouseref13_Check.l0 kj5 l0 (wrap64 (x3_1 + 1)))) else (some 5)) = some r := H
                        have A15 := Aside0.mk A150
                        clear A150
                        by_cases c16 : t175 = x3_1
                        · rw [if_pos c16] at H
                          have c16b0 : (t175 == x3_1) = true := beq_iff_eq.mpr c16
                          have c16b1 : (t175 != x3_1) = false := bne_eq_false_iff_eq.mpr c16
                          clear c16
                          by_cases c17 : (((rd_T25 l0 x3_1).f2).length : Int) > 5
                          · rw [if_pos c17] at H
                            have c17b0 : decide (5 < (((rd_T25 l0 x3_1).f2).length : Int)) = true := decide_eq_true c17
                            have c17b1 : decide (5 < ((rd_T25 l0 x3_1).f2).length) = true := decide_eq_true (by omega)
                            clear c17
                            obtain rfl := Option.some.inj H
                            try go_wp2
                            have n0_ := Aside0.mk (below_drew1 HB.out)
                            clear HB
                            have HB := n0_
                            clear n0_
                            have p171 : 0 ≤ (x3_1 : Int) := of_decide_eq_true (by first | (with_reducible assumption) | assumption)
                            have q171 : x3_1 < (l0.length : Int) := of_decide_eq_true (by first | (with_reducible assumption) | assumption)
                            obtain ⟨ad171, A171_2, c171_2, e171, hx171_0, hx171_1, hx171_2, hl171_2, hi171_2⟩ := at_T25 HR0.out x3_1 p171 q171
                            have hw171_2 := hx171_2
                            have hw171_1 := hx171_1
                            have hw171_0 := hx171_0
                            obtain rfl : ad167 = ad171 := (by injection e171)
                            replace hx171_0 := (HB.out.cell (World.block_lt_of_cell? w _ hx171_0)).trans hx171_0
                            replace hx171_1 := (HB.out.cell (World.block_lt_of_cell? w _ hx171_1)).trans hx171_1
                            replace hx171_2 := (HB.out.cell (World.block_lt_of_cell? w _ hx171_2)).trans hx171_2
                            have HR171_2 := Aside0.mk hi171_2
                            have HC171_2 := Aside0.mk hl171_2
                            clear hi171_2 hl171_2
                            replace p171 := eq_true p171
                            replace q171 := eq_true q171
                            have p172 : 0 ≤ (x3_1 : Int) := of_decide_eq_true (by first | (with_reducible assumption) | assumption)
                            have q172 : x3_1 < (l0.length : Int) := of_decide_eq_true (by first | (with_reducible assumption) | assumption)
                            obtain ⟨ad172, A172_2, c172_2, e172, hx172_0, hx172_1, hx172_2, hl172_2, hi172_2⟩ := at_T25 HR0.out x3_1 p172 q172
                            have hw172_2 := hx172_2
                            have hw172_1 := hx172_1
                            have hw172_0 := hx172_0
                            obtain rfl : ad167 = ad172 := (by injection e172)
                            replace hx172_0 := (HB.out.cell (World.block_lt_of_cell? w _ hx172_0)).trans hx172_0
                            replace hx172_1 := (HB.out.cell (World.block_lt_of_cell? w _ hx172_1)).trans hx172_1
                            replace hx172_2 := (HB.out.cell (World.block_lt_of_cell? w _ hx172_2)).trans hx172_2
                            have HR172_2 := Aside0.mk hi172_2
                            have HC172_2 := Aside0.mk hl172_2
                            clear hi172_2 hl172_2
                            replace p172 := eq_true p172
                            replace q172 := eq_true q172
                            have ea_ := Option.some.inj (hx171_2.symm.trans hx172_2)
                            injection ea_ with ea_ en_ ec_
                            subst ea_
                            subst ec_
                            clear en_
                            refine start_ (n := 12) (S := fun w' => w'.cell? (ad167.add ((x3_1).toNat * 3)) = some (.string ((rd_T25 l0 x3_1).f0)) ∧ w'.cell? ⟨(ad167.add ((x3_1).toNat * 3)).block, (ad167.add ((x3_1).toNat * 3)).off + 1, none⟩ = some (.int .i64 ((rd_T25 l0 x3_1).f1)) ∧ w'.cell? ⟨(ad167.add ((x3_1).toNat * 3)).block, (ad167.add ((x3_1).toNat * 3)).off + 2, none⟩ = some (.slice A171_2 ((rd_T25 l0 x3_1).f2).length c171_2) ∧ w'.cell? (ad167.add ((x3_1).toNat * 3)) = some (.string ((rd_T25 l0 x3_1).f0)) ∧ w'.cell? ⟨(ad167.add ((x3_1).toNat * 3)).block, (ad167.add ((x3_1).toNat * 3)).off + 1, none⟩ = some (.int .i64 ((rd_T25 l0 x3_1).f1)) ∧ w'.cell? ⟨(ad167.add ((x3_1).toNat * 3)).block, (ad167.add ((x3_1).toNat * 3)).off + 2, none⟩ = some (.slice A171_2 ((rd_T25 l0 x3_1).f2).length c171_2)) (ds := []) #[false, false, false, false, false, false, false, false, false, false, false, false] (by kernel_rfl) rfl rfl ⟨((HB.out.cell (World.block_lt_of_cell? w _ hw171_0)).trans hw171_0), ((HB.out.cell (World.block_lt_of_cell? w _ hw171_1)).trans hw171_1), ((HB.out.cell (World.block_lt_of_cell? w _ hw171_2)).trans hw171_2), ((HB.out.cell (World.block_lt_of_cell? w _ hw172_0)).trans hw172_0), ((HB.out.cell (World.block_lt_of_cell? w _ hw172_1)).trans hw172_1), ((HB.out.cell (World.block_lt_of_cell? w _ hw172_2)).trans hw172_2)⟩ (fun hHeld => ?_); refine with_tabW malthouseref13_Check.tab9 malthouseref13_Check.bits9 (fun HT_ HW_ => ?_)
                            generalize wc.drew = w18 at HB HR171_2 HR172_2 hx171_0 hx171_1 hx171_2 hx172_0 hx172_1 hx172_2 hHeld ⊢
                            refine pure_ (i := 0) (N := some 39) (v := ?_) (a' := ?_) #[true, false, false, false, false, false, false, false, false, false, false, false] rfl rfl (any_of HT_.out (by kernel_rfl)) (fun _ _ _ h => h) (Or.inl ⟨by rfl, ?_⟩) ?_ ?_
                            rotate_left
                            · intro w'
                              go_simp
                              with_reducible rfl
                            rotate_left
                            · simp only [Act.put, List.setIfInBounds_toArray, List.set_cons_zero, List.set_cons_succ, i64_w, i32_w]
                              rfl
                            refine pure_ (i := 1) (N := some 40) (v := ?_) (a' := ?_) #[true, true, false, false, false, false, false, false, false, false, false, false] rfl rfl (any_of HT_.out (by kernel_rfl)) (fun _ _ _ h => h) (Or.inl ⟨by rfl, ?_⟩) ?_ ?_
                            rotate_left
                            · intro w'
                              go_simp
                              with_reducible rfl
                            rotate_left
                            · simp only [Act.put, List.setIfInBounds_toArray, List.set_cons_zero, List.set_cons_succ, i64_w, i32_w]
                              rfl
                            refine pure_ (i := 2) (N := some 41) (v := ?_) (a' := ?_) #[true, true, true, false, false, false, false, false, false, false, false, false] rfl rfl (any_of HT_.out (by kernel_rfl)) (fun _ _ _ h => h) (Or.inl ⟨by rfl, ?_⟩) ?_ ?_
                            rotate_left
                            · intro w'
                              go_simp
                              with_reducible rfl
                            rotate_left
                            · simp only [Act.put, List.setIfInBounds_toArray, List.set_cons_zero, List.set_cons_succ, i64_w, i32_w]
                              rfl
                            refine pure_ (i := 3) (N := some 42) (v := ?_) (a' := ?_) #[true, true, true, true, false, false, false, false, false, false, false, false] rfl rfl (any_of HT_.out (by kernel_rfl)) (fun _ _ _ h => h) (Or.inl ⟨by rfl, ?_⟩) ?_ ?_
                            rotate_left
                            · intro w'
                              go_simp
                              with_reducible rfl
                            rotate_left
                            · simp only [Act.put, List.setIfInBounds_toArray, List.set_cons_zero, List.set_cons_succ, i64_w, i32_w]
                              rfl
                            refine pure_ (i := 5) (N := some 44) (v := ?_) (a' := ?_) #[true, true, true, true, false, true, false, false, false, false, false, false] rfl rfl (any_of HT_.out (by kernel_rfl)) (fun _ _ _ h => h) (Or.inl ⟨by rfl, ?_⟩) ?_ ?_
                            rotate_left
                            · intro w'
                              go_simp
                              with_reducible rfl
                            rotate_left
                            · simp only [Act.put, List.setIfInBounds_toArray, List.set_cons_zero, List.set_cons_succ, i64_w, i32_w]
                              rfl
                            refine pure_ (i := 6) (N := some 45) (v := ?_) (a' := ?_) #[true, true, true, true, false, true, true, false, false, false, false, false] rfl rfl (any_of HT_.out (by kernel_rfl)) (fun _ _ _ h => h) (Or.inl ⟨by rfl, ?_⟩) ?_ ?_
                            rotate_left
                            · intro w'
                              go_simp
                              with_reducible rfl
                            rotate_left
                            · simp only [Act.put, List.setIfInBounds_toArray, List.set_cons_zero, List.set_cons_succ, i64_w, i32_w]
                              rfl
                            refine pure_ (i := 7) (N := some 46) (v := ?_) (a' := ?_) #[true, true, true, true, false, true, true, true, false, false, false, false] rfl rfl (any_of HT_.out (by kernel_rfl)) (fun _ _ _ h => h) (Or.inl ⟨by rfl, ?_⟩) ?_ ?_
                            rotate_left
                            · intro w'
                              go_simp
                              with_reducible rfl
                            rotate_left
                            · simp only [Act.put, List.setIfInBounds_toArray, List.set_cons_zero, List.set_cons_succ, i64_w, i32_w]
                              rfl
                            refine pure_ (i := 8) (N := some 47) (v := ?_) (a' := ?_) #[true, true, true, true, false, true, true, true, true, false, false, false] rfl rfl (any_of HT_.out (by kernel_rfl)) (fun _ _ _ h => h) (Or.inl ⟨by rfl, ?_⟩) ?_ ?_
                            rotate_left
                            · intro w'
                              go_simp
                              with_reducible rfl
                            rotate_left
                            · simp only [Act.put, List.setIfInBounds_toArray, List.set_cons_zero, List.set_cons_succ, i64_w, i32_w]
                              rfl
                            refine take_ (i := 4) (N := some 43) (v := ?_) (a' := ?_) #[true, true, true, true, true, true, true, true, true, false, false, false] rfl rfl (take_ofW HT_.out HW_.out (by kernel_rfl)) (fun _ _ _ h => h) (Or.inl ⟨by rfl, ?_⟩) hHeld ?_ ?_
                            rotate_left
                            · rintro w' ⟨s0, s1, s2, s3, s4, s5⟩
                              go_simp
                              with_reducible rfl
                            rotate_left
                            · simp only [Act.put, List.setIfInBounds_toArray, List.set_cons_zero, List.set_cons_succ, i64_w, i32_w]
                              rfl
                            refine take_ (i := 9) (N := some 48) (v := ?_) (a' := ?_) #[true, true, true, true, true, true, true, true, true, true, false, false] rfl rfl (take_ofW HT_.out HW_.out (by kernel_rfl)) (fun _ _ _ h => h) (Or.inl ⟨by rfl, ?_⟩) hHeld ?_ ?_
                            rotate_left
                            · rintro w' ⟨s0, s1, s2, s3, s4, s5⟩
                              go_simp
                              with_reducible rfl
                            rotate_left
                            · simp only [Act.put, List.setIfInBounds_toArray, List.set_cons_zero, List.set_cons_succ, i64_w, i32_w]
                              rfl
                            refine one_ (i := 10) (N := some 49) #[true, true, true, true, true, true, true, true, true, true, true, false] rfl rfl (one_of HT_.out (by kernel_rfl)) (by decide) (fun K hK => ?_)
                            refine goes_ Tryd.func35 (by kernel_rfl) rfl #[.slice A171_2 ((rd_T25 l0 x3_1).f2).length c171_2, .int .i64 ((rd_T25 l0 x3_1).f1)] (by rfl) rfl rfl (by (try simp only [List.map_toArray, List.map_cons, List.map_nil]); first | done | rfl | (simp only [List.length_drop, List.length_take]; rfl)) ?_
                            with_reducible refine (malthouseref13_lots.calls kj5 _ _ ((rd_T25 l0 x3_1).f2) ((rd_T25 l0 x3_1).f1) true _ ?side1 ?side2 A13.out).mono ?_
                            (case side1 => repeat (first | exact (Kd.C_below HR171_2.out HB.out) | (with_reducible refine Kd.C_alloc ?_ _) | (with_reducible refine Kd.C_drewN ?_ _) | (with_reducible refine Kd.C_drew ?_)))
                            (case side2 => exact HC171_2.out)
                            rintro e w19 ⟨rfl, hb⟩
                            refine ⟨_, rfl, ?_⟩
                            have n0_ := Aside0.mk (below_step (by repeat (first | (with_reducible first | exact HB.out | apply below_alloc | apply pw_below_drewN | apply below_drew1) | exact HB.out)) hb)
                            clear HB
                            have HB := n0_
                            clear n0_
                            (try clear hb)
                            (try clear hb2)
                            (try clear hk)
                            (try clear hi)
                            refine hK.out _ _ ⟨((HB.out.cell (World.block_lt_of_cell? w _ hw171_0)).trans hw171_0), ((HB.out.cell (World.block_lt_of_cell? w _ hw171_1)).trans hw171_1), ((HB.out.cell (World.block_lt_of_cell? w _ hw171_2)).trans hw171_2), ((HB.out.cell (World.block_lt_of_cell? w _ hw172_0)).trans hw172_0), ((HB.out.cell (World.block_lt_of_cell? w _ hw172_1)).trans hw172_1), ((HB.out.cell (World.block_lt_of_cell? w _ hw172_2)).trans hw172_2)⟩ (fun hHeld => ?_)
                            clear hK K
                            refine norm_ (a' := ?_) ?_ ?_
                            rotate_left
                            · show Act.put _ (some 49) _ = _
                              simp only [Act.put, List.setIfInBounds_toArray, List.set_cons_zero, List.set_cons_succ, i64_w, i32_w]
                              rfl
                            refine pure_ (i := 11) (N := some 5) (v := ?_) (a' := ?_) #[true, true, true, true, true, true, true, true, true, true, true, true] rfl rfl (any_of HT_.out (by kernel_rfl)) (fun _ _ _ h => h) (Or.inl ⟨by rfl, ?_⟩) ?_ ?_
                            rotate_left
                            · intro w'
                              go_simp
                              with_reducible rfl
                            rotate_left
                            · simp only [Act.put, List.setIfInBounds_toArray, List.set_cons_zero, List.set_cons_succ, i64_w, i32_w]
                              rfl
                            refine done_ (done_of HT_.out (by kernel_rfl)) ?_
                            have p174 : 0 ≤ (x3_1 : Int) := of_decide_eq_true (by first | (with_reducible assumption) | assumption)
                            have q174 : x3_1 < (l0.length : Int) := of_decide_eq_true (by first | (with_reducible assumption) | assumption)
                            obtain ⟨ad174, A174_2, c174_2, e174, hx174_0, hx174_1, hx174_2, hl174_2, hi174_2⟩ := at_T25 HR0.out x3_1 p174 q174
                            obtain rfl : ad167 = ad174 := (by injection e174)
                            replace hx174_0 := (HB.out.cell (World.block_lt_of_cell? w _ hx174_0)).trans hx174_0
                            replace hx174_1 := (HB.out.cell (World.block_lt_of_cell? w _ hx174_1)).trans hx174_1
                            replace hx174_2 := (HB.out.cell (World.block_lt_of_cell? w _ hx174_2)).trans hx174_2
                            have HR174_2 := Aside0.mk hi174_2
                            have HC174_2 := Aside0.mk hl174_2
                            clear hi174_2 hl174_2
                            replace p174 := eq_true p174
                            replace q174 := eq_true q174
                            try go_wp2_with (first | ((with_reducible refine gate_callee (f := 36) rfl ?_); refine goesL_ (some 58) rfl rfl Tryd.func36 (by kernel_rfl) rfl #[.slice (some ad167) l0.length c0, .string ((rd_T25 l0 x3_1).f0)] rfl (by (try simp only [List.map_toArray, List.map_cons, List.map_nil]); first | done | rfl | (simp only [List.length_drop, List.length_take]; rfl)) ?_; (with_reducible refine (malthouseref13_Place.calls kj5 _ _ l0 ((rd_T25 l0 x3_1).f0) t175 _ ?side1 ?side2 A15.out).mono ?_); (case side1 => repeat (first | exact (Kd.C_below HR0.out HB.out) | (with_reducible refine Kd.C_alloc ?_ _) | (with_reducible refine Kd.C_drewN ?_ _) | (with_reducible refine Kd.C_drew ?_))); (case side2 => exact HC0.out); rintro e w' ⟨rfl, ⟨nd, rfl⟩⟩; refine ⟨_, rfl, ?_⟩; have p176 : 0 ≤ (x3_1 : Int) := of_decide_eq_true (by first | (with_reducible assumption) | assumption); have q176 : x3_1 < (l0.length : Int) := of_decide_eq_true (by first | (with_reducible assumption) | assumption); obtain ⟨ad176, A176_2, c176_2, e176, hx176_0, hx176_1, hx176_2, hl176_2, hi176_2⟩ := at_T25 HR0.out x3_1 p176 q176; obtain rfl : ad167 = ad176 := (by injection e176); replace hx176_0 := (HB.out.cell (World.block_lt_of_cell? w _ hx176_0)).trans hx176_0; replace hx176_1 := (HB.out.cell (World.block_lt_of_cell? w _ hx176_1)).trans hx176_1; replace hx176_2 := (HB.out.cell (World.block_lt_of_cell? w _ hx176_2)).trans hx176_2; have HR176_2 := Aside0.mk hi176_2; have HC176_2 := Aside0.mk hl176_2; clear hi176_2 hl176_2; replace p176 := eq_true p176; replace q176 := eq_true q176; have ea_ := Option.some.inj (hx174_2.symm.trans hx176_2); injection ea_ with ea_ en_ ec_; subst ea_; subst ec_; clear en_))
                            go_ret
                            exact ⟨by first | rfl | (simp [errW_none, errW_some] <;> rfl) | (simp [*, errW_none, errW_some] <;> rfl), by repeat (first | (with_reducible first | exact HB.out | apply below_alloc | apply pw_below_drewN | apply below_drew1) | exact HB.out)⟩
                          · rw [if_neg c17] at H
                            have c17b0 : decide (5 < (((rd_T25 l0 x3_1).f2).length : Int)) = false := decide_eq_false c17
                            have c17b1 : decide (5 < ((rd_T25 l0 x3_1).f2).length) = false := decide_eq_false (by omega)
                            clear c17
                            have H' := Aside0.mk H
                            clear H
                            try go_wp2
                            have n0_ := Aside0.mk (below_drew1 HB.out)
                            clear HB
                            have HB := n0_
                            clear n0_
                            have p171 : 0 ≤ (x3_1 : Int) := of_decide_eq_true (by first | (with_reducible assumption) | assumption)
                            have q171 : x3_1 < (l0.length : Int) := of_decide_eq_true (by first | (with_reducible assumption) | assumption)
                            obtain ⟨ad171, A171_2, c171_2, e171, hx171_0, hx171_1, hx171_2, hl171_2, hi171_2⟩ := at_T25 HR0.out x3_1 p171 q171
                            have hw171_2 := hx171_2
                            have hw171_1 := hx171_1
                            have hw171_0 := hx171_0
                            obtain rfl : ad167 = ad171 := (by injection e171)
                            replace hx171_0 := (HB.out.cell (World.block_lt_of_cell? w _ hx171_0)).trans hx171_0
                            replace hx171_1 := (HB.out.cell (World.block_lt_of_cell? w _ hx171_1)).trans hx171_1
                            replace hx171_2 := (HB.out.cell (World.block_lt_of_cell? w _ hx171_2)).trans hx171_2
                            have HR171_2 := Aside0.mk hi171_2
                            have HC171_2 := Aside0.mk hl171_2
                            clear hi171_2 hl171_2
                            replace p171 := eq_true p171
                            replace q171 := eq_true q171
                            have p172 : 0 ≤ (x3_1 : Int) := of_decide_eq_true (by first | (with_reducible assumption) | assumption)
                            have q172 : x3_1 < (l0.length : Int) := of_decide_eq_true (by first | (with_reducible assumption) | assumption)
                            obtain ⟨ad172, A172_2, c172_2, e172, hx172_0, hx172_1, hx172_2, hl172_2, hi172_2⟩ := at_T25 HR0.out x3_1 p172 q172
                            have hw172_2 := hx172_2
                            have hw172_1 := hx172_1
                            have hw172_0 := hx172_0
                            obtain rfl : ad167 = ad172 := (by injection e172)
                            replace hx172_0 := (HB.out.cell (World.block_lt_of_cell? w _ hx172_0)).trans hx172_0
                            replace hx172_1 := (HB.out.cell (World.block_lt_of_cell? w _ hx172_1)).trans hx172_1
                            replace hx172_2 := (HB.out.cell (World.block_lt_of_cell? w _ hx172_2)).trans hx172_2
                            have HR172_2 := Aside0.mk hi172_2
                            have HC172_2 := Aside0.mk hl172_2
                            clear hi172_2 hl172_2
                            replace p172 := eq_true p172
                            replace q172 := eq_true q172
                            have ea_ := Option.some.inj (hx171_2.symm.trans hx172_2)
                            injection ea_ with ea_ en_ ec_
                            subst ea_
                            subst ec_
                            clear en_
                            refine start_ (n := 12) (S := fun w' => w'.cell? (ad167.add ((x3_1).toNat * 3)) = some (.string ((rd_T25 l0 x3_1).f0)) ∧ w'.cell? ⟨(ad167.add ((x3_1).toNat * 3)).block, (ad167.add ((x3_1).toNat * 3)).off + 1, none⟩ = some (.int .i64 ((rd_T25 l0 x3_1).f1)) ∧ w'.cell? ⟨(ad167.add ((x3_1).toNat * 3)).block, (ad167.add ((x3_1).toNat * 3)).off + 2, none⟩ = some (.slice A171_2 ((rd_T25 l0 x3_1).f2).length c171_2) ∧ w'.cell? (ad167.add ((x3_1).toNat * 3)) = some (.string ((rd_T25 l0 x3_1).f0)) ∧ w'.cell? ⟨(ad167.add ((x3_1).toNat * 3)).block, (ad167.add ((x3_1).toNat * 3)).off + 1, none⟩ = some (.int .i64 ((rd_T25 l0 x3_1).f1)) ∧ w'.cell? ⟨(ad167.add ((x3_1).toNat * 3)).block, (ad167.add ((x3_1).toNat * 3)).off + 2, none⟩ = some (.slice A171_2 ((rd_T25 l0 x3_1).f2).length c171_2)) (ds := []) #[false, false, false, false, false, false, false, false, false, false, false, false] (by kernel_rfl) rfl rfl ⟨((HB.out.cell (World.block_lt_of_cell? w _ hw171_0)).trans hw171_0), ((HB.out.cell (World.block_lt_of_cell? w _ hw171_1)).trans hw171_1), ((HB.out.cell (World.block_lt_of_cell? w _ hw171_2)).trans hw171_2), ((HB.out.cell (World.block_lt_of_cell? w _ hw172_0)).trans hw172_0), ((HB.out.cell (World.block_lt_of_cell? w _ hw172_1)).trans hw172_1), ((HB.out.cell (World.block_lt_of_cell? w _ hw172_2)).trans hw172_2)⟩ (fun hHeld => ?_); refine with_tabW malthouseref13_Check.tab9 malthouseref13_Check.bits9 (fun HT_ HW_ => ?_)
                            generalize wc.drew = w20 at HB HR171_2 HR172_2 hx171_0 hx171_1 hx171_2 hx172_0 hx172_1 hx172_2 hHeld ⊢
                            refine pure_ (i := 0) (N := some 39) (v := ?_) (a' := ?_) #[true, false, false, false, false, false, false, false, false, false, false, false] rfl rfl (any_of HT_.out (by kernel_rfl)) (fun _ _ _ h => h) (Or.inl ⟨by rfl, ?_⟩) ?_ ?_
                            rotate_left
                            · intro w'
                              go_simp
                              with_reducible rfl
                            rotate_left
                            · simp only [Act.put, List.setIfInBounds_toArray, List.set_cons_zero, List.set_cons_succ, i64_w, i32_w]
                              rfl
                            refine pure_ (i := 1) (N := some 40) (v := ?_) (a' := ?_) #[true, true, false, false, false, false, false, false, false, false, false, false] rfl rfl (any_of HT_.out (by kernel_rfl)) (fun _ _ _ h => h) (Or.inl ⟨by rfl, ?_⟩) ?_ ?_
                            rotate_left
                            · intro w'
                              go_simp
                              with_reducible rfl
                            rotate_left
                            · simp only [Act.put, List.setIfInBounds_toArray, List.set_cons_zero, List.set_cons_succ, i64_w, i32_w]
                              rfl
                            refine pure_ (i := 2) (N := some 41) (v := ?_) (a' := ?_) #[true, true, true, false, false, false, false, false, false, false, false, false] rfl rfl (any_of HT_.out (by kernel_rfl)) (fun _ _ _ h => h) (Or.inl ⟨by rfl, ?_⟩) ?_ ?_
                            rotate_left
                            · intro w'
                              go_simp
                              with_reducible rfl
                            rotate_left
                            · simp only [Act.put, List.setIfInBounds_toArray, List.set_cons_zero, List.set_cons_succ, i64_w, i32_w]
                              rfl
                            refine pure_ (i := 3) (N := some 42) (v := ?_) (a' := ?_) #[true, true, true, true, false, false, false, false, false, false, false, false] rfl rfl (any_of HT_.out (by kernel_rfl)) (fun _ _ _ h => h) (Or.inl ⟨by rfl, ?_⟩) ?_ ?_
                            rotate_left
                            · intro w'
                              go_simp
                              with_reducible rfl
                            rotate_left
                            · simp only [Act.put, List.setIfInBounds_toArray, List.set_cons_zero, List.set_cons_succ, i64_w, i32_w]
                              rfl
                            refine pure_ (i := 5) (N := some 44) (v := ?_) (a' := ?_) #[true, true, true, true, false, true, false, false, false, false, false, false] rfl rfl (any_of HT_.out (by kernel_rfl)) (fun _ _ _ h => h) (Or.inl ⟨by rfl, ?_⟩) ?_ ?_
                            rotate_left
                            · intro w'
                              go_simp
                              with_reducible rfl
                            rotate_left
                            · simp only [Act.put, List.setIfInBounds_toArray, List.set_cons_zero, List.set_cons_succ, i64_w, i32_w]
                              rfl
                            refine pure_ (i := 6) (N := some 45) (v := ?_) (a' := ?_) #[true, true, true, true, false, true, true, false, false, false, false, false] rfl rfl (any_of HT_.out (by kernel_rfl)) (fun _ _ _ h => h) (Or.inl ⟨by rfl, ?_⟩) ?_ ?_
                            rotate_left
                            · intro w'
                              go_simp
                              with_reducible rfl
                            rotate_left
                            · simp only [Act.put, List.setIfInBounds_toArray, List.set_cons_zero, List.set_cons_succ, i64_w, i32_w]
                              rfl
                            refine pure_ (i := 7) (N := some 46) (v := ?_) (a' := ?_) #[true, true, true, true, false, true, true, true, false, false, false, false] rfl rfl (any_of HT_.out (by kernel_rfl)) (fun _ _ _ h => h) (Or.inl ⟨by rfl, ?_⟩) ?_ ?_
                            rotate_left
                            · intro w'
                              go_simp
                              with_reducible rfl
                            rotate_left
                            · simp only [Act.put, List.setIfInBounds_toArray, List.set_cons_zero, List.set_cons_succ, i64_w, i32_w]
                              rfl
                            refine pure_ (i := 8) (N := some 47) (v := ?_) (a' := ?_) #[true, true, true, true, false, true, true, true, true, false, false, false] rfl rfl (any_of HT_.out (by kernel_rfl)) (fun _ _ _ h => h) (Or.inl ⟨by rfl, ?_⟩) ?_ ?_
                            rotate_left
                            · intro w'
                              go_simp
                              with_reducible rfl
                            rotate_left
                            · simp only [Act.put, List.setIfInBounds_toArray, List.set_cons_zero, List.set_cons_succ, i64_w, i32_w]
                              rfl
                            refine take_ (i := 4) (N := some 43) (v := ?_) (a' := ?_) #[true, true, true, true, true, true, true, true, true, false, false, false] rfl rfl (take_ofW HT_.out HW_.out (by kernel_rfl)) (fun _ _ _ h => h) (Or.inl ⟨by rfl, ?_⟩) hHeld ?_ ?_
                            rotate_left
                            · rintro w' ⟨s0, s1, s2, s3, s4, s5⟩
                              go_simp
                              with_reducible rfl
                            rotate_left
                            · simp only [Act.put, List.setIfInBounds_toArray, List.set_cons_zero, List.set_cons_succ, i64_w, i32_w]
                              rfl
                            refine take_ (i := 9) (N := some 48) (v := ?_) (a' := ?_) #[true, true, true, true, true, true, true, true, true, true, false, false] rfl rfl (take_ofW HT_.out HW_.out (by kernel_rfl)) (fun _ _ _ h => h) (Or.inl ⟨by rfl, ?_⟩) hHeld ?_ ?_
                            rotate_left
                            · rintro w' ⟨s0, s1, s2, s3, s4, s5⟩
                              go_simp
                              with_reducible rfl
                            rotate_left
                            · simp only [Act.put, List.setIfInBounds_toArray, List.set_cons_zero, List.set_cons_succ, i64_w, i32_w]
                              rfl
                            refine one_ (i := 10) (N := some 49) #[true, true, true, true, true, true, true, true, true, true, true, false] rfl rfl (one_of HT_.out (by kernel_rfl)) (by decide) (fun K hK => ?_)
                            refine goes_ Tryd.func35 (by kernel_rfl) rfl #[.slice A171_2 ((rd_T25 l0 x3_1).f2).length c171_2, .int .i64 ((rd_T25 l0 x3_1).f1)] (by rfl) rfl rfl (by (try simp only [List.map_toArray, List.map_cons, List.map_nil]); first | done | rfl | (simp only [List.length_drop, List.length_take]; rfl)) ?_
                            with_reducible refine (malthouseref13_lots.calls kj5 _ _ ((rd_T25 l0 x3_1).f2) ((rd_T25 l0 x3_1).f1) true _ ?side1 ?side2 A13.out).mono ?_
                            (case side1 => repeat (first | exact (Kd.C_below HR171_2.out HB.out) | (with_reducible refine Kd.C_alloc ?_ _) | (with_reducible refine Kd.C_drewN ?_ _) | (with_reducible refine Kd.C_drew ?_)))
                            (case side2 => exact HC171_2.out)
                            rintro e w21 ⟨rfl, hb⟩
                            refine ⟨_, rfl, ?_⟩
                            have n0_ := Aside0.mk (below_step (by repeat (first | (with_reducible first | exact HB.out | apply below_alloc | apply pw_below_drewN | apply below_drew1) | exact HB.out)) hb)
                            clear HB
                            have HB := n0_
                            clear n0_
                            (try clear hb)
                            (try clear hb2)
                            (try clear hk)
                            (try clear hi)
                            refine hK.out _ _ ⟨((HB.out.cell (World.block_lt_of_cell? w _ hw171_0)).trans hw171_0), ((HB.out.cell (World.block_lt_of_cell? w _ hw171_1)).trans hw171_1), ((HB.out.cell (World.block_lt_of_cell? w _ hw171_2)).trans hw171_2), ((HB.out.cell (World.block_lt_of_cell? w _ hw172_0)).trans hw172_0), ((HB.out.cell (World.block_lt_of_cell? w _ hw172_1)).trans hw172_1), ((HB.out.cell (World.block_lt_of_cell? w _ hw172_2)).trans hw172_2)⟩ (fun hHeld => ?_)
                            clear hK K
                            refine norm_ (a' := ?_) ?_ ?_
                            rotate_left
                            · show Act.put _ (some 49) _ = _
                              simp only [Act.put, List.setIfInBounds_toArray, List.set_cons_zero, List.set_cons_succ, i64_w, i32_w]
                              rfl
                            refine pure_ (i := 11) (N := some 5) (v := ?_) (a' := ?_) #[true, true, true, true, true, true, true, true, true, true, true, true] rfl rfl (any_of HT_.out (by kernel_rfl)) (fun _ _ _ h => h) (Or.inl ⟨by rfl, ?_⟩) ?_ ?_
                            rotate_left
                            · intro w'
                              go_simp
                              with_reducible rfl
                            rotate_left
                            · simp only [Act.put, List.setIfInBounds_toArray, List.set_cons_zero, List.set_cons_succ, i64_w, i32_w]
                              rfl
                            refine done_ (done_of HT_.out (by kernel_rfl)) ?_
                            have p174 : 0 ≤ (x3_1 : Int) := of_decide_eq_true (by first | (with_reducible assumption) | assumption)
                            have q174 : x3_1 < (l0.length : Int) := of_decide_eq_true (by first | (with_reducible assumption) | assumption)
                            obtain ⟨ad174, A174_2, c174_2, e174, hx174_0, hx174_1, hx174_2, hl174_2, hi174_2⟩ := at_T25 HR0.out x3_1 p174 q174
                            obtain rfl : ad167 = ad174 := (by injection e174)
                            replace hx174_0 := (HB.out.cell (World.block_lt_of_cell? w _ hx174_0)).trans hx174_0
                            replace hx174_1 := (HB.out.cell (World.block_lt_of_cell? w _ hx174_1)).trans hx174_1
                            replace hx174_2 := (HB.out.cell (World.block_lt_of_cell? w _ hx174_2)).trans hx174_2
                            have HR174_2 := Aside0.mk hi174_2
                            have HC174_2 := Aside0.mk hl174_2
                            clear hi174_2 hl174_2
                            replace p174 := eq_true p174
                            replace q174 := eq_true q174
                            try go_wp2_with (first | ((with_reducible refine gate_callee (f := 36) rfl ?_); refine goesL_ (some 58) rfl rfl Tryd.func36 (by kernel_rfl) rfl #[.slice (some ad167) l0.length c0, .string ((rd_T25 l0 x3_1).f0)] rfl (by (try simp only [List.map_toArray, List.map_cons, List.map_nil]); first | done | rfl | (simp only [List.length_drop, List.length_take]; rfl)) ?_; (with_reducible refine (malthouseref13_Place.calls kj5 _ _ l0 ((rd_T25 l0 x3_1).f0) t175 _ ?side1 ?side2 A15.out).mono ?_); (case side1 => repeat (first | exact (Kd.C_below HR0.out HB.out) | (with_reducible refine Kd.C_alloc ?_ _) | (with_reducible refine Kd.C_drewN ?_ _) | (with_reducible refine Kd.C_drew ?_))); (case side2 => exact HC0.out); rintro e w' ⟨rfl, ⟨nd, rfl⟩⟩; refine ⟨_, rfl, ?_⟩; have p176 : 0 ≤ (x3_1 : Int) := of_decide_eq_true (by first | (with_reducible assumption) | assumption); have q176 : x3_1 < (l0.length : Int) := of_decide_eq_true (by first | (with_reducible assumption) | assumption); obtain ⟨ad176, A176_2, c176_2, e176, hx176_0, hx176_1, hx176_2, hl176_2, hi176_2⟩ := at_T25 HR0.out x3_1 p176 q176; obtain rfl : ad167 = ad176 := (by injection e176); replace hx176_0 := (HB.out.cell (World.block_lt_of_cell? w _ hx176_0)).trans hx176_0; replace hx176_1 := (HB.out.cell (World.block_lt_of_cell? w _ hx176_1)).trans hx176_1; replace hx176_2 := (HB.out.cell (World.block_lt_of_cell? w _ hx176_2)).trans hx176_2; have HR176_2 := Aside0.mk hi176_2; have HC176_2 := Aside0.mk hl176_2; clear hi176_2 hl176_2; replace p176 := eq_true p176; replace q176 := eq_true q176; have ea_ := Option.some.inj (hx174_2.symm.trans hx176_2); injection ea_ with ea_ en_ ec_; subst ea_; subst ec_; clear en_))
                            go_roundg kj5
                            case measure => have := HK1.out; have := HJ5.out; omega
                            case rel => exact ⟨(wrap64 (x3_1 + 1)), (by first | rfl | (simp; done) | (simp [*]; done)), H', ⟨by have := HK1.out; have := HJ5.out; omega⟩, ⟨by repeat (first | (with_reducible first | exact HB.out | apply below_alloc | apply pw_below_drewN | apply below_drew1) | exact HB.out)⟩⟩
                        · rw [if_neg c16] at H
                          have c16b0 : (t175 == x3_1) = false := beq_eq_false_iff_ne.mpr c16
                          have c16b1 : (t175 != x3_1) = true := bne_iff_ne.mpr c16
                          obtain rfl := Option.some.inj H
                          try go_wp2
                          have n0_ := Aside0.mk (below_drew1 HB.out)
                          clear HB
                          have HB := n0_
                          clear n0_
                          have p171 : 0 ≤ (x3_1 : Int) := of_decide_eq_true (by first | (with_reducible assumption) | assumption)
                          have q171 : x3_1 < (l0.length : Int) := of_decide_eq_true (by first | (with_reducible assumption) | assumption)
                          obtain ⟨ad171, A171_2, c171_2, e171, hx171_0, hx171_1, hx171_2, hl171_2, hi171_2⟩ := at_T25 HR0.out x3_1 p171 q171
                          have hw171_2 := hx171_2
                          have hw171_1 := hx171_1
                          have hw171_0 := hx171_0
                          obtain rfl : ad167 = ad171 := (by injection e171)
                          replace hx171_0 := (HB.out.cell (World.block_lt_of_cell? w _ hx171_0)).trans hx171_0
                          replace hx171_1 := (HB.out.cell (World.block_lt_of_cell? w _ hx171_1)).trans hx171_1
                          replace hx171_2 := (HB.out.cell (World.block_lt_of_cell? w _ hx171_2)).trans hx171_2
                          have HR171_2 := Aside0.mk hi171_2
                          have HC171_2 := Aside0.mk hl171_2
                          clear hi171_2 hl171_2
                          replace p171 := eq_true p171
                          replace q171 := eq_true q171
                          have p172 : 0 ≤ (x3_1 : Int) := of_decide_eq_true (by first | (with_reducible assumption) | assumption)
                          have q172 : x3_1 < (l0.length : Int) := of_decide_eq_true (by first | (with_reducible assumption) | assumption)
                          obtain ⟨ad172, A172_2, c172_2, e172, hx172_0, hx172_1, hx172_2, hl172_2, hi172_2⟩ := at_T25 HR0.out x3_1 p172 q172
                          have hw172_2 := hx172_2
                          have hw172_1 := hx172_1
                          have hw172_0 := hx172_0
                          obtain rfl : ad167 = ad172 := (by injection e172)
                          replace hx172_0 := (HB.out.cell (World.block_lt_of_cell? w _ hx172_0)).trans hx172_0
                          replace hx172_1 := (HB.out.cell (World.block_lt_of_cell? w _ hx172_1)).trans hx172_1
                          replace hx172_2 := (HB.out.cell (World.block_lt_of_cell? w _ hx172_2)).trans hx172_2
                          have HR172_2 := Aside0.mk hi172_2
                          have HC172_2 := Aside0.mk hl172_2
                          clear hi172_2 hl172_2
                          replace p172 := eq_true p172
                          replace q172 := eq_true q172
                          have ea_ := Option.some.inj (hx171_2.symm.trans hx172_2)
                          injection ea_ with ea_ en_ ec_
                          subst ea_
                          subst ec_
                          clear en_
                          refine start_ (n := 12) (S := fun w' => w'.cell? (ad167.add ((x3_1).toNat * 3)) = some (.string ((rd_T25 l0 x3_1).f0)) ∧ w'.cell? ⟨(ad167.add ((x3_1).toNat * 3)).block, (ad167.add ((x3_1).toNat * 3)).off + 1, none⟩ = some (.int .i64 ((rd_T25 l0 x3_1).f1)) ∧ w'.cell? ⟨(ad167.add ((x3_1).toNat * 3)).block, (ad167.add ((x3_1).toNat * 3)).off + 2, none⟩ = some (.slice A171_2 ((rd_T25 l0 x3_1).f2).length c171_2) ∧ w'.cell? (ad167.add ((x3_1).toNat * 3)) = some (.string ((rd_T25 l0 x3_1).f0)) ∧ w'.cell? ⟨(ad167.add ((x3_1).toNat * 3)).block, (ad167.add ((x3_1).toNat * 3)).off + 1, none⟩ = some (.int .i64 ((rd_T25 l0 x3_1).f1)) ∧ w'.cell? ⟨(ad167.add ((x3_1).toNat * 3)).block, (ad167.add ((x3_1).toNat * 3)).off + 2, none⟩ = some (.slice A171_2 ((rd_T25 l0 x3_1).f2).length c171_2)) (ds := []) #[false, false, false, false, false, false, false, false, false, false, false, false] (by kernel_rfl) rfl rfl ⟨((HB.out.cell (World.block_lt_of_cell? w _ hw171_0)).trans hw171_0), ((HB.out.cell (World.block_lt_of_cell? w _ hw171_1)).trans hw171_1), ((HB.out.cell (World.block_lt_of_cell? w _ hw171_2)).trans hw171_2), ((HB.out.cell (World.block_lt_of_cell? w _ hw172_0)).trans hw172_0), ((HB.out.cell (World.block_lt_of_cell? w _ hw172_1)).trans hw172_1), ((HB.out.cell (World.block_lt_of_cell? w _ hw172_2)).trans hw172_2)⟩ (fun hHeld => ?_); refine with_tabW malthouseref13_Check.tab9 malthouseref13_Check.bits9 (fun HT_ HW_ => ?_)
                          generalize wc.drew = w22 at HB HR171_2 HR172_2 hx171_0 hx171_1 hx171_2 hx172_0 hx172_1 hx172_2 hHeld ⊢
                          refine pure_ (i := 0) (N := some 39) (v := ?_) (a' := ?_) #[true, false, false, false, false, false, false, false, false, false, false, false] rfl rfl (any_of HT_.out (by kernel_rfl)) (fun _ _ _ h => h) (Or.inl ⟨by rfl, ?_⟩) ?_ ?_
                          rotate_left
                          · intro w'
                            go_simp
                            with_reducible rfl
                          rotate_left
                          · simp only [Act.put, List.setIfInBounds_toArray, List.set_cons_zero, List.set_cons_succ, i64_w, i32_w]
                            rfl
                          refine pure_ (i := 1) (N := some 40) (v := ?_) (a' := ?_) #[true, true, false, false, false, false, false, false, false, false, false, false] rfl rfl (any_of HT_.out (by kernel_rfl)) (fun _ _ _ h => h) (Or.inl ⟨by rfl, ?_⟩) ?_ ?_
                          rotate_left
                          · intro w'
                            go_simp
                            with_reducible rfl
                          rotate_left
                          · simp only [Act.put, List.setIfInBounds_toArray, List.set_cons_zero, List.set_cons_succ, i64_w, i32_w]
                            rfl
                          refine pure_ (i := 2) (N := some 41) (v := ?_) (a' := ?_) #[true, true, true, false, false, false, false, false, false, false, false, false] rfl rfl (any_of HT_.out (by kernel_rfl)) (fun _ _ _ h => h) (Or.inl ⟨by rfl, ?_⟩) ?_ ?_
                          rotate_left
                          · intro w'
                            go_simp
                            with_reducible rfl
                          rotate_left
                          · simp only [Act.put, List.setIfInBounds_toArray, List.set_cons_zero, List.set_cons_succ, i64_w, i32_w]
                            rfl
                          refine pure_ (i := 3) (N := some 42) (v := ?_) (a' := ?_) #[true, true, true, true, false, false, false, false, false, false, false, false] rfl rfl (any_of HT_.out (by kernel_rfl)) (fun _ _ _ h => h) (Or.inl ⟨by rfl, ?_⟩) ?_ ?_
                          rotate_left
                          · intro w'
                            go_simp
                            with_reducible rfl
                          rotate_left
                          · simp only [Act.put, List.setIfInBounds_toArray, List.set_cons_zero, List.set_cons_succ, i64_w, i32_w]
                            rfl
                          refine pure_ (i := 5) (N := some 44) (v := ?_) (a' := ?_) #[true, true, true, true, false, true, false, false, false, false, false, false] rfl rfl (any_of HT_.out (by kernel_rfl)) (fun _ _ _ h => h) (Or.inl ⟨by rfl, ?_⟩) ?_ ?_
                          rotate_left
                          · intro w'
                            go_simp
                            with_reducible rfl
                          rotate_left
                          · simp only [Act.put, List.setIfInBounds_toArray, List.set_cons_zero, List.set_cons_succ, i64_w, i32_w]
                            rfl
                          refine pure_ (i := 6) (N := some 45) (v := ?_) (a' := ?_) #[true, true, true, true, false, true, true, false, false, false, false, false] rfl rfl (any_of HT_.out (by kernel_rfl)) (fun _ _ _ h => h) (Or.inl ⟨by rfl, ?_⟩) ?_ ?_
                          rotate_left
                          · intro w'
                            go_simp
                            with_reducible rfl
                          rotate_left
                          · simp only [Act.put, List.setIfInBounds_toArray, List.set_cons_zero, List.set_cons_succ, i64_w, i32_w]
                            rfl
                          refine pure_ (i := 7) (N := some 46) (v := ?_) (a' := ?_) #[true, true, true, true, false, true, true, true, false, false, false, false] rfl rfl (any_of HT_.out (by kernel_rfl)) (fun _ _ _ h => h) (Or.inl ⟨by rfl, ?_⟩) ?_ ?_
                          rotate_left
                          · intro w'
                            go_simp
                            with_reducible rfl
                          rotate_left
                          · simp only [Act.put, List.setIfInBounds_toArray, List.set_cons_zero, List.set_cons_succ, i64_w, i32_w]
                            rfl
                          refine pure_ (i := 8) (N := some 47) (v := ?_) (a' := ?_) #[true, true, true, true, false, true, true, true, true, false, false, false] rfl rfl (any_of HT_.out (by kernel_rfl)) (fun _ _ _ h => h) (Or.inl ⟨by rfl, ?_⟩) ?_ ?_
                          rotate_left
                          · intro w'
                            go_simp
                            with_reducible rfl
                          rotate_left
                          · simp only [Act.put, List.setIfInBounds_toArray, List.set_cons_zero, List.set_cons_succ, i64_w, i32_w]
                            rfl
                          refine take_ (i := 4) (N := some 43) (v := ?_) (a' := ?_) #[true, true, true, true, true, true, true, true, true, false, false, false] rfl rfl (take_ofW HT_.out HW_.out (by kernel_rfl)) (fun _ _ _ h => h) (Or.inl ⟨by rfl, ?_⟩) hHeld ?_ ?_
                          rotate_left
                          · rintro w' ⟨s0, s1, s2, s3, s4, s5⟩
                            go_simp
                            with_reducible rfl
                          rotate_left
                          · simp only [Act.put, List.setIfInBounds_toArray, List.set_cons_zero, List.set_cons_succ, i64_w, i32_w]
                            rfl
                          refine take_ (i := 9) (N := some 48) (v := ?_) (a' := ?_) #[true, true, true, true, true, true, true, true, true, true, false, false] rfl rfl (take_ofW HT_.out HW_.out (by kernel_rfl)) (fun _ _ _ h => h) (Or.inl ⟨by rfl, ?_⟩) hHeld ?_ ?_
                          rotate_left
                          · rintro w' ⟨s0, s1, s2, s3, s4, s5⟩
                            go_simp
                            with_reducible rfl
                          rotate_left
                          · simp only [Act.put, List.setIfInBounds_toArray, List.set_cons_zero, List.set_cons_succ, i64_w, i32_w]
                            rfl
                          refine one_ (i := 10) (N := some 49) #[true, true, true, true, true, true, true, true, true, true, true, false] rfl rfl (one_of HT_.out (by kernel_rfl)) (by decide) (fun K hK => ?_)
                          refine goes_ Tryd.func35 (by kernel_rfl) rfl #[.slice A171_2 ((rd_T25 l0 x3_1).f2).length c171_2, .int .i64 ((rd_T25 l0 x3_1).f1)] (by rfl) rfl rfl (by (try simp only [List.map_toArray, List.map_cons, List.map_nil]); first | done | rfl | (simp only [List.length_drop, List.length_take]; rfl)) ?_
                          with_reducible refine (malthouseref13_lots.calls kj5 _ _ ((rd_T25 l0 x3_1).f2) ((rd_T25 l0 x3_1).f1) true _ ?side1 ?side2 A13.out).mono ?_
                          (case side1 => repeat (first | exact (Kd.C_below HR171_2.out HB.out) | (with_reducible refine Kd.C_alloc ?_ _) | (with_reducible refine Kd.C_drewN ?_ _) | (with_reducible refine Kd.C_drew ?_)))
                          (case side2 => exact HC171_2.out)
                          rintro e w23 ⟨rfl, hb⟩
                          refine ⟨_, rfl, ?_⟩
                          have n0_ := Aside0.mk (below_step (by repeat (first | (with_reducible first | exact HB.out | apply below_alloc | apply pw_below_drewN | apply below_drew1) | exact HB.out)) hb)
                          clear HB
                          have HB := n0_
                          clear n0_
                          (try clear hb)
                          (try clear hb2)
                          (try clear hk)
                          (try clear hi)
                          refine hK.out _ _ ⟨((HB.out.cell (World.block_lt_of_cell? w _ hw171_0)).trans hw171_0), ((HB.out.cell (World.block_lt_of_cell? w _ hw171_1)).trans hw171_1), ((HB.out.cell (World.block_lt_of_cell? w _ hw171_2)).trans hw171_2), ((HB.out.cell (World.block_lt_of_cell? w _ hw172_0)).trans hw172_0), ((HB.out.cell (World.block_lt_of_cell? w _ hw172_1)).trans hw172_1), ((HB.out.cell (World.block_lt_of_cell? w _ hw172_2)).trans hw172_2)⟩ (fun hHeld => ?_)
                          clear hK K
                          refine norm_ (a' := ?_) ?_ ?_
                          rotate_left
                          · show Act.put _ (some 49) _ = _
                            simp only [Act.put, List.setIfInBounds_toArray, List.set_cons_zero, List.set_cons_succ, i64_w, i32_w]
                            rfl
                          refine pure_ (i := 11) (N := some 5) (v := ?_) (a' := ?_) #[true, true, true, true, true, true, true, true, true, true, true, true] rfl rfl (any_of HT_.out (by kernel_rfl)) (fun _ _ _ h => h) (Or.inl ⟨by rfl, ?_⟩) ?_ ?_
                          rotate_left
                          · intro w'
                            go_simp
                            with_reducible rfl
                          rotate_left
                          · simp only [Act.put, List.setIfInBounds_toArray, List.set_cons_zero, List.set_cons_succ, i64_w, i32_w]
                            rfl
                          refine done_ (done_of HT_.out (by kernel_rfl)) ?_
                          have p174 : 0 ≤ (x3_1 : Int) := of_decide_eq_true (by first | (with_reducible assumption) | assumption)
                          have q174 : x3_1 < (l0.length : Int) := of_decide_eq_true (by first | (with_reducible assumption) | assumption)
                          obtain ⟨ad174, A174_2, c174_2, e174, hx174_0, hx174_1, hx174_2, hl174_2, hi174_2⟩ := at_T25 HR0.out x3_1 p174 q174
                          obtain rfl : ad167 = ad174 := (by injection e174)
                          replace hx174_0 := (HB.out.cell (World.block_lt_of_cell? w _ hx174_0)).trans hx174_0
                          replace hx174_1 := (HB.out.cell (World.block_lt_of_cell? w _ hx174_1)).trans hx174_1
                          replace hx174_2 := (HB.out.cell (World.block_lt_of_cell? w _ hx174_2)).trans hx174_2
                          have HR174_2 := Aside0.mk hi174_2
                          have HC174_2 := Aside0.mk hl174_2
                          clear hi174_2 hl174_2
                          replace p174 := eq_true p174
                          replace q174 := eq_true q174
                          try go_wp2_with (first | ((with_reducible refine gate_callee (f := 36) rfl ?_); refine goesL_ (some 58) rfl rfl Tryd.func36 (by kernel_rfl) rfl #[.slice (some ad167) l0.length c0, .string ((rd_T25 l0 x3_1).f0)] rfl (by (try simp only [List.map_toArray, List.map_cons, List.map_nil]); first | done | rfl | (simp only [List.length_drop, List.length_take]; rfl)) ?_; (with_reducible refine (malthouseref13_Place.calls kj5 _ _ l0 ((rd_T25 l0 x3_1).f0) t175 _ ?side1 ?side2 A15.out).mono ?_); (case side1 => repeat (first | exact (Kd.C_below HR0.out HB.out) | (with_reducible refine Kd.C_alloc ?_ _) | (with_reducible refine Kd.C_drewN ?_ _) | (with_reducible refine Kd.C_drew ?_))); (case side2 => exact HC0.out); rintro e w' ⟨rfl, ⟨nd, rfl⟩⟩; refine ⟨_, rfl, ?_⟩))
                          go_ret
                          exact ⟨by first | rfl | (simp [errW_none, errW_some] <;> rfl) | (simp [*, errW_none, errW_some] <;> rfl), by repeat (first | (with_reducible first | exact HB.out | apply below_alloc | apply pw_below_drewN | apply below_drew1) | exact HB.out)⟩
                      · replace c14 := Bool.eq_false_iff.mpr c14
                        subst c14
                        have H1 : (some 1) = some r := by rw [if_neg (show ¬ (false = true) by decide)] at H; exact H
                        clear H
                        have H := H1
                        clear H1
                        obtain rfl := Option.some.inj H
                        try go_wp2
                        have n0_ := Aside0.mk (below_drew1 HB.out)
                        clear HB
                        have HB := n0_
                        clear n0_
                        have p171 : 0 ≤ (x3_1 : Int) := of_decide_eq_true (by first | (with_reducible assumption) | assumption)
                        have q171 : x3_1 < (l0.length : Int) := of_decide_eq_true (by first | (with_reducible assumption) | assumption)
                        obtain ⟨ad171, A171_2, c171_2, e171, hx171_0, hx171_1, hx171_2, hl171_2, hi171_2⟩ := at_T25 HR0.out x3_1 p171 q171
                        have hw171_2 := hx171_2
                        have hw171_1 := hx171_1
                        have hw171_0 := hx171_0
                        obtain rfl : ad167 = ad171 := (by injection e171)
                        replace hx171_0 := (HB.out.cell (World.block_lt_of_cell? w _ hx171_0)).trans hx171_0
                        replace hx171_1 := (HB.out.cell (World.block_lt_of_cell? w _ hx171_1)).trans hx171_1
                        replace hx171_2 := (HB.out.cell (World.block_lt_of_cell? w _ hx171_2)).trans hx171_2
                        have HR171_2 := Aside0.mk hi171_2
                        have HC171_2 := Aside0.mk hl171_2
                        clear hi171_2 hl171_2
                        replace p171 := eq_true p171
                        replace q171 := eq_true q171
                        have p172 : 0 ≤ (x3_1 : Int) := of_decide_eq_true (by first | (with_reducible assumption) | assumption)
                        have q172 : x3_1 < (l0.length : Int) := of_decide_eq_true (by first | (with_reducible assumption) | assumption)
                        obtain ⟨ad172, A172_2, c172_2, e172, hx172_0, hx172_1, hx172_2, hl172_2, hi172_2⟩ := at_T25 HR0.out x3_1 p172 q172
                        have hw172_2 := hx172_2
                        have hw172_1 := hx172_1
                        have hw172_0 := hx172_0
                        obtain rfl : ad167 = ad172 := (by injection e172)
                        replace hx172_0 := (HB.out.cell (World.block_lt_of_cell? w _ hx172_0)).trans hx172_0
                        replace hx172_1 := (HB.out.cell (World.block_lt_of_cell? w _ hx172_1)).trans hx172_1
                        replace hx172_2 := (HB.out.cell (World.block_lt_of_cell? w _ hx172_2)).trans hx172_2
                        have HR172_2 := Aside0.mk hi172_2
                        have HC172_2 := Aside0.mk hl172_2
                        clear hi172_2 hl172_2
                        replace p172 := eq_true p172
                        replace q172 := eq_true q172
                        have ea_ := Option.some.inj (hx171_2.symm.trans hx172_2)
                        injection ea_ with ea_ en_ ec_
                        subst ea_
                        subst ec_
                        clear en_
                        refine start_ (n := 12) (S := fun w' => w'.cell? (ad167.add ((x3_1).toNat * 3)) = some (.string ((rd_T25 l0 x3_1).f0)) ∧ w'.cell? ⟨(ad167.add ((x3_1).toNat * 3)).block, (ad167.add ((x3_1).toNat * 3)).off + 1, none⟩ = some (.int .i64 ((rd_T25 l0 x3_1).f1)) ∧ w'.cell? ⟨(ad167.add ((x3_1).toNat * 3)).block, (ad167.add ((x3_1).toNat * 3)).off + 2, none⟩ = some (.slice A171_2 ((rd_T25 l0 x3_1).f2).length c171_2) ∧ w'.cell? (ad167.add ((x3_1).toNat * 3)) = some (.string ((rd_T25 l0 x3_1).f0)) ∧ w'.cell? ⟨(ad167.add ((x3_1).toNat * 3)).block, (ad167.add ((x3_1).toNat * 3)).off + 1, none⟩ = some (.int .i64 ((rd_T25 l0 x3_1).f1)) ∧ w'.cell? ⟨(ad167.add ((x3_1).toNat * 3)).block, (ad167.add ((x3_1).toNat * 3)).off + 2, none⟩ = some (.slice A171_2 ((rd_T25 l0 x3_1).f2).length c171_2)) (ds := []) #[false, false, false, false, false, false, false, false, false, false, false, false] (by kernel_rfl) rfl rfl ⟨((HB.out.cell (World.block_lt_of_cell? w _ hw171_0)).trans hw171_0), ((HB.out.cell (World.block_lt_of_cell? w _ hw171_1)).trans hw171_1), ((HB.out.cell (World.block_lt_of_cell? w _ hw171_2)).trans hw171_2), ((HB.out.cell (World.block_lt_of_cell? w _ hw172_0)).trans hw172_0), ((HB.out.cell (World.block_lt_of_cell? w _ hw172_1)).trans hw172_1), ((HB.out.cell (World.block_lt_of_cell? w _ hw172_2)).trans hw172_2)⟩ (fun hHeld => ?_); refine with_tabW malthouseref13_Check.tab9 malthouseref13_Check.bits9 (fun HT_ HW_ => ?_)
                        generalize wc.drew = w24 at HB HR171_2 HR172_2 hx171_0 hx171_1 hx171_2 hx172_0 hx172_1 hx172_2 hHeld ⊢
                        refine pure_ (i := 0) (N := some 39) (v := ?_) (a' := ?_) #[true, false, false, false, false, false, false, false, false, false, false, false] rfl rfl (any_of HT_.out (by kernel_rfl)) (fun _ _ _ h => h) (Or.inl ⟨by rfl, ?_⟩) ?_ ?_
                        rotate_left
                        · intro w'
                          go_simp
                          with_reducible rfl
                        rotate_left
                        · simp only [Act.put, List.setIfInBounds_toArray, List.set_cons_zero, List.set_cons_succ, i64_w, i32_w]
                          rfl
                        refine pure_ (i := 1) (N := some 40) (v := ?_) (a' := ?_) #[true, true, false, false, false, false, false, false, false, false, false, false] rfl rfl (any_of HT_.out (by kernel_rfl)) (fun _ _ _ h => h) (Or.inl ⟨by rfl, ?_⟩) ?_ ?_
                        rotate_left
                        · intro w'
                          go_simp
                          with_reducible rfl
                        rotate_left
                        · simp only [Act.put, List.setIfInBounds_toArray, List.set_cons_zero, List.set_cons_succ, i64_w, i32_w]
                          rfl
                        refine pure_ (i := 2) (N := some 41) (v := ?_) (a' := ?_) #[true, true, true, false, false, false, false, false, false, false, false, false] rfl rfl (any_of HT_.out (by kernel_rfl)) (fun _ _ _ h => h) (Or.inl ⟨by rfl, ?_⟩) ?_ ?_
                        rotate_left
                        · intro w'
                          go_simp
                          with_reducible rfl
                        rotate_left
                        · simp only [Act.put, List.setIfInBounds_toArray, List.set_cons_zero, List.set_cons_succ, i64_w, i32_w]
                          rfl
                        refine pure_ (i := 3) (N := some 42) (v := ?_) (a' := ?_) #[true, true, true, true, false, false, false, false, false, false, false, false] rfl rfl (any_of HT_.out (by kernel_rfl)) (fun _ _ _ h => h) (Or.inl ⟨by rfl, ?_⟩) ?_ ?_
                        rotate_left
                        · intro w'
                          go_simp
                          with_reducible rfl
                        rotate_left
                        · simp only [Act.put, List.setIfInBounds_toArray, List.set_cons_zero, List.set_cons_succ, i64_w, i32_w]
                          rfl
                        refine pure_ (i := 5) (N := some 44) (v := ?_) (a' := ?_) #[true, true, true, true, false, true, false, false, false, false, false, false] rfl rfl (any_of HT_.out (by kernel_rfl)) (fun _ _ _ h => h) (Or.inl ⟨by rfl, ?_⟩) ?_ ?_
                        rotate_left
                        · intro w'
                          go_simp
                          with_reducible rfl
                        rotate_left
                        · simp only [Act.put, List.setIfInBounds_toArray, List.set_cons_zero, List.set_cons_succ, i64_w, i32_w]
                          rfl
                        refine pure_ (i := 6) (N := some 45) (v := ?_) (a' := ?_) #[true, true, true, true, false, true, true, false, false, false, false, false] rfl rfl (any_of HT_.out (by kernel_rfl)) (fun _ _ _ h => h) (Or.inl ⟨by rfl, ?_⟩) ?_ ?_
                        rotate_left
                        · intro w'
                          go_simp
                          with_reducible rfl
                        rotate_left
                        · simp only [Act.put, List.setIfInBounds_toArray, List.set_cons_zero, List.set_cons_succ, i64_w, i32_w]
                          rfl
                        refine pure_ (i := 7) (N := some 46) (v := ?_) (a' := ?_) #[true, true, true, true, false, true, true, true, false, false, false, false] rfl rfl (any_of HT_.out (by kernel_rfl)) (fun _ _ _ h => h) (Or.inl ⟨by rfl, ?_⟩) ?_ ?_
                        rotate_left
                        · intro w'
                          go_simp
                          with_reducible rfl
                        rotate_left
                        · simp only [Act.put, List.setIfInBounds_toArray, List.set_cons_zero, List.set_cons_succ, i64_w, i32_w]
                          rfl
                        refine pure_ (i := 8) (N := some 47) (v := ?_) (a' := ?_) #[true, true, true, true, false, true, true, true, true, false, false, false] rfl rfl (any_of HT_.out (by kernel_rfl)) (fun _ _ _ h => h) (Or.inl ⟨by rfl, ?_⟩) ?_ ?_
                        rotate_left
                        · intro w'
                          go_simp
                          with_reducible rfl
                        rotate_left
                        · simp only [Act.put, List.setIfInBounds_toArray, List.set_cons_zero, List.set_cons_succ, i64_w, i32_w]
                          rfl
                        refine take_ (i := 4) (N := some 43) (v := ?_) (a' := ?_) #[true, true, true, true, true, true, true, true, true, false, false, false] rfl rfl (take_ofW HT_.out HW_.out (by kernel_rfl)) (fun _ _ _ h => h) (Or.inl ⟨by rfl, ?_⟩) hHeld ?_ ?_
                        rotate_left
                        · rintro w' ⟨s0, s1, s2, s3, s4, s5⟩
                          go_simp
                          with_reducible rfl
                        rotate_left
                        · simp only [Act.put, List.setIfInBounds_toArray, List.set_cons_zero, List.set_cons_succ, i64_w, i32_w]
                          rfl
                        refine take_ (i := 9) (N := some 48) (v := ?_) (a' := ?_) #[true, true, true, true, true, true, true, true, true, true, false, false] rfl rfl (take_ofW HT_.out HW_.out (by kernel_rfl)) (fun _ _ _ h => h) (Or.inl ⟨by rfl, ?_⟩) hHeld ?_ ?_
                        rotate_left
                        · rintro w' ⟨s0, s1, s2, s3, s4, s5⟩
                          go_simp
                          with_reducible rfl
                        rotate_left
                        · simp only [Act.put, List.setIfInBounds_toArray, List.set_cons_zero, List.set_cons_succ, i64_w, i32_w]
                          rfl
                        refine one_ (i := 10) (N := some 49) #[true, true, true, true, true, true, true, true, true, true, true, false] rfl rfl (one_of HT_.out (by kernel_rfl)) (by decide) (fun K hK => ?_)
                        refine goes_ Tryd.func35 (by kernel_rfl) rfl #[.slice A171_2 ((rd_T25 l0 x3_1).f2).length c171_2, .int .i64 ((rd_T25 l0 x3_1).f1)] (by rfl) rfl rfl (by (try simp only [List.map_toArray, List.map_cons, List.map_nil]); first | done | rfl | (simp only [List.length_drop, List.length_take]; rfl)) ?_
                        with_reducible refine (malthouseref13_lots.calls kj5 _ _ ((rd_T25 l0 x3_1).f2) ((rd_T25 l0 x3_1).f1) false _ ?side1 ?side2 A13.out).mono ?_
                        (case side1 => repeat (first | exact (Kd.C_below HR171_2.out HB.out) | (with_reducible refine Kd.C_alloc ?_ _) | (with_reducible refine Kd.C_drewN ?_ _) | (with_reducible refine Kd.C_drew ?_)))
                        (case side2 => exact HC171_2.out)
                        rintro e w25 ⟨rfl, hb⟩
                        refine ⟨_, rfl, ?_⟩
                        have n0_ := Aside0.mk (below_step (by repeat (first | (with_reducible first | exact HB.out | apply below_alloc | apply pw_below_drewN | apply below_drew1) | exact HB.out)) hb)
                        clear HB
                        have HB := n0_
                        clear n0_
                        (try clear hb)
                        (try clear hb2)
                        (try clear hk)
                        (try clear hi)
                        refine hK.out _ _ ⟨((HB.out.cell (World.block_lt_of_cell? w _ hw171_0)).trans hw171_0), ((HB.out.cell (World.block_lt_of_cell? w _ hw171_1)).trans hw171_1), ((HB.out.cell (World.block_lt_of_cell? w _ hw171_2)).trans hw171_2), ((HB.out.cell (World.block_lt_of_cell? w _ hw172_0)).trans hw172_0), ((HB.out.cell (World.block_lt_of_cell? w _ hw172_1)).trans hw172_1), ((HB.out.cell (World.block_lt_of_cell? w _ hw172_2)).trans hw172_2)⟩ (fun hHeld => ?_)
                        clear hK K
                        refine norm_ (a' := ?_) ?_ ?_
                        rotate_left
                        · show Act.put _ (some 49) _ = _
                          simp only [Act.put, List.setIfInBounds_toArray, List.set_cons_zero, List.set_cons_succ, i64_w, i32_w]
                          rfl
                        refine pure_ (i := 11) (N := some 5) (v := ?_) (a' := ?_) #[true, true, true, true, true, true, true, true, true, true, true, true] rfl rfl (any_of HT_.out (by kernel_rfl)) (fun _ _ _ h => h) (Or.inl ⟨by rfl, ?_⟩) ?_ ?_
                        rotate_left
                        · intro w'
                          go_simp
                          with_reducible rfl
                        rotate_left
                        · simp only [Act.put, List.setIfInBounds_toArray, List.set_cons_zero, List.set_cons_succ, i64_w, i32_w]
                          rfl
                        refine done_ (done_of HT_.out (by kernel_rfl)) ?_
                        try go_wp2
                        go_ret
                        exact ⟨by first | rfl | (simp [errW_none, errW_some] <;> rfl) | (simp [*, errW_none, errW_some] <;> rfl), by repeat (first | (with_reducible first | exact HB.out | apply below_alloc | apply pw_below_drewN | apply below_drew1) | exact HB.out)⟩
                    · rw [if_neg c12] at H
                      exact absurd H (by simp)
                  · rw [if_neg c11] at H
                    exact absurd H (by simp)
          · rw [if_neg c4] at H
            exact absurd H (by simp)
        · rw [if_neg c3] at H
          have c3b0 : decide (x3_1 < (l0.length : Int)) = false := decide_eq_false c3
          clear c3
          obtain rfl := Option.some.inj H
          go_wp2
          go_ret
          exact ⟨by first | rfl | (simp [errW_none, errW_some] <;> rfl) | (simp [*, errW_none, errW_some] <;> rfl), by repeat (first | (with_reducible first | exact HB.out | apply below_alloc | apply pw_below_drewN | apply below_drew1) | exact HB.out)⟩
end Go.Proofs.YtejecmjajdhiiaaDoor.Print
/-! ### Print11 -/
namespace Go.Proofs.YtejecmjajdhiiaaDoor.Print
open Go.RowKit Go.Proofs.YtejecmjajdhiiaaDoorW.PrintWords Go.Proofs.YtejecmjajdhiiaaDoorW.PrintLast Go.Proofs.YtejecmjajdhiiaaDoorW.PrintMore
attribute [local go_sem] min_two
set_option linter.unusedVariables false
set_option linter.unusedSimpArgs false
def ledger_Sum.l0 : Nat → Int → List (S25) → Int → Int → Option (Int)
  | 0, _, _, _, _ => none
  | k + 1, x3, x9, x10, x11 => if x11 < x10 then (if 0 ≤ x11 then (if x11 < (x9.length : Int) then ((ledger_Level.f k ((rd_T25 x9 x11).f0) ((rd_T25 x9 x11).f1) ((rd_T25 x9 x11).f2)).bind fun t180 => (ledger_Sum.l0 k (wrap64 (x3 + t180)) x9 x10 (wrap64 (x11 + 1)))) else (none)) else (none)) else (some x3)
def ledger_Sum.f (k : Nat) (l0 : List (S25)) : Option (Int) := (ledger_Check.f k l0).bind fun t177 => (if t177 = 0 then (ledger_Sum.l0 k 0 l0 (l0.length : Int) 0) else (some 0))
set_option maxHeartbeats 8000000 in
set_option maxRecDepth 100000 in
theorem ledger_Sum.calls (k : Nat) (A0 : Option Addr) (c0 : Nat) (l0 : List (S25)) (r : Int) (w : World) (hr0 : Kd.C k25 w A0 l0.length l0) (hc0 : l0.length ≤ c0) (hT : Tabs w) (h : ledger_Sum.f k l0 = some r) :
    Calls Tryd.prog 14 #[.slice A0 l0.length c0] w fun e w' => e = .returned (.int .i64 r) ∧ Below w.heap.size w w' := by
  have hu25 := Tryd.underlying25
  have HR0 := Aside0.mk hr0
  have HC0 := Aside0.mk hc0
  clear hr0 hc0
  have HB := Aside0.mk (Below.refl w.heap.size w)
  have H : ((ledger_Check.f k l0).bind fun t177 => (if t177 = 0 then (ledger_Sum.l0 k 0 l0 (l0.length : Int) 0) else (some 0))) = some r := h
  clear h
  replace H := Option.bind_eq_some_iff.mp H
  obtain ⟨t177, A20, H⟩ := H
  replace H : (if t177 = 0 then (ledger_Sum.l0 k 0 l0 (l0.length : Int) 0) else (some 0)) = some r := H
  have A2 := Aside0.mk A20
  clear A20
  by_cases c3 : t177 = 0
  · rw [if_pos c3] at H
    have c3b0 : (t177 == 0) = true := beq_iff_eq.mpr c3
    have c3b1 : (t177 != 0) = false := bne_eq_false_iff_eq.mpr c3
    clear c3
    have H' := Aside0.mk H
    clear H
    go_enter Tryd.func14, Tryd.ntmps14
    go_wp2_with (first | ((with_reducible refine gate_callee (f := 12) rfl ?_); refine goesL_ (some 7) rfl rfl Tryd.func12 (by kernel_rfl) rfl #[.slice A0 l0.length c0] rfl (by (try simp only [List.map_toArray, List.map_cons, List.map_nil]); first | done | rfl | (simp only [List.length_drop, List.length_take]; rfl)) ?_; (with_reducible refine (ledger_Check.calls k _ _ l0 t177 _ ?side1 ?side2 ?side3 A2.out).mono ?_); (case side1 => repeat (first | exact HR0.out | (with_reducible refine Kd.C_alloc ?_ _) | (with_reducible refine Kd.C_drewN ?_ _) | (with_reducible refine Kd.C_drew ?_))); (case side2 => exact HC0.out); (case side3 => exact Tabs.below hT (by repeat (first | (with_reducible first | exact HB.out | apply below_alloc | apply pw_below_drewN | apply below_drew1) | exact HB.out))); rintro e w4 ⟨rfl, hb⟩; refine ⟨_, rfl, ?_⟩; have n0_ := Aside0.mk (below_step (by repeat (first | (with_reducible first | exact HB.out | apply below_alloc | apply pw_below_drewN | apply below_drew1) | exact HB.out)) hb); clear HB; have HB := n0_; clear n0_; (try clear hb); (try clear hb2); (try clear hk); (try clear hi)))
    go_loopg [3, 11] k (fun kq v3 v11 w' => ∃ (x3_1 : Int) (x11_1 : Int), v3 = .int .i64 x3_1 ∧ v11 = .int .i64 x11_1 ∧ Aside0 (ledger_Sum.l0 kq x3_1 l0 (l0.length : Int) x11_1 = some r) ∧ Aside0 (kq ≤ k) ∧ Aside0 (Below w.heap.size w w'))
    case atStart => exact ⟨(0), (0), (by first | rfl | (simp; done) | (simp [*]; done)), (by first | rfl | (simp; done) | (simp [*]; done)), H', ⟨Nat.le_refl _⟩, ⟨by repeat (first | (with_reducible first | exact HB.out | apply below_alloc | apply pw_below_drewN | apply below_drew1) | exact HB.out)⟩⟩
    case round =>
      clear H'
      try clear c1
      try clear p2
      try clear c3
      try clear c3b0
      try clear c3b1
      obtain ⟨x3_1, x11_1, rfl, rfl, HA, HK1, HB⟩ := hrel
      cases gk with
      | zero => exact absurd HA.out (by simp [ledger_Sum.l0])
      | succ k1 =>
        have H := HA.out
        clear HA
        simp only [ledger_Sum.l0] at H
        by_cases c5 : x11_1 < (l0.length : Int)
        · rw [if_pos c5] at H
          have c5b0 : decide (x11_1 < (l0.length : Int)) = true := decide_eq_true c5
          clear c5
          by_cases c6 : 0 ≤ x11_1
          · rw [if_pos c6] at H
            have c6b0 : decide (0 ≤ x11_1) = true := decide_eq_true c6
            clear c6
            by_cases c7 : x11_1 < (l0.length : Int)
            · rw [if_pos c7] at H
              have c7b0 : decide (x11_1 < (l0.length : Int)) = true := decide_eq_true c7
              clear c7
              replace H := Option.bind_eq_some_iff.mp H
              obtain ⟨t180, A80, H⟩ := H
              replace H : (ledger_Sum.l0 k1 (wrap64 (x3_1 + t180)) l0 (l0.length : Int) (wrap64 (x11_1 + 1))) = some r := H
              have A8 := Aside0.mk A80
              clear A80
              have H' := Aside0.mk H
              clear H
              have p178 : 0 ≤ (x11_1 : Int) := of_decide_eq_true (by first | (with_reducible assumption) | assumption)
              have q178 : x11_1 < (l0.length : Int) := of_decide_eq_true (by first | (with_reducible assumption) | assumption)
              obtain ⟨ad178, A178_2, c178_2, e178, hx178_0, hx178_1, hx178_2, hl178_2, hi178_2⟩ := at_T25 HR0.out x11_1 p178 q178
              cases e178
              replace hx178_0 := (HB.out.cell (World.block_lt_of_cell? w _ hx178_0)).trans hx178_0
              replace hx178_1 := (HB.out.cell (World.block_lt_of_cell? w _ hx178_1)).trans hx178_1
              replace hx178_2 := (HB.out.cell (World.block_lt_of_cell? w _ hx178_2)).trans hx178_2
              have HR178_2 := Aside0.mk hi178_2
              have HC178_2 := Aside0.mk hl178_2
              clear hi178_2 hl178_2
              replace p178 := eq_true p178
              replace q178 := eq_true q178
              go_wp2_with (first | ((with_reducible refine gate_dst (N := 5) rfl ?_); refine box_event ?hg (N := 5) ?hd (cs := #[.string (⟨#[]⟩ : ByteArray), .int .i64 0, .slice none 0 0]) (t := 25) ?hr ?_; (case hd => rfl); (case hg => rfl); (case hr => first | (go_simp; done) | (go_simp; rfl)); intro gb179 hg w9 hbox hb; have n0_ := Aside0.mk (below_step (by repeat (first | (with_reducible first | exact HB.out | apply below_alloc | apply pw_below_drewN | apply below_drew1) | exact HB.out)) hb); have n1_ := Aside0.mk (hbox); have n2_ := Aside0.mk ((by rw [hg]; exact (below_size (by repeat (first | (with_reducible first | exact HB.out | apply below_alloc | apply pw_below_drewN | apply below_drew1) | exact HB.out))) : w.heap.size ≤ gb179)); have n3_ := Aside0.mk ((by rw [hg]; exact (below_size (by repeat (first | (with_reducible first | exact HB.out | apply below_alloc | apply pw_below_drewN | apply below_drew1) | exact HB.out))) : w.heap.size ≤ gb179)); clear HB; have HB := n0_; have BK179 := n1_; have GW179 := n2_; have GE179 := n3_; clear n0_ n1_ n2_ n3_; clear hb hbox hg; have hcz10_0 : w9.cell? ⟨gb179, 0, none⟩ = some (.string (⟨#[]⟩ : ByteArray)) := (blk_cell BK179.out 0).trans rfl; have hcz10_1 : w9.cell? ⟨gb179, 1, none⟩ = some (.int .i64 0) := (blk_cell BK179.out 1).trans rfl; have hcz10_2 : w9.cell? ⟨gb179, 2, none⟩ = some (.slice none 0 0) := (blk_cell BK179.out 2).trans rfl; have hfz10_0 := blk_frozen BK179.out 0; have hfz10_1 := blk_frozen BK179.out 1; have hfz10_2 := blk_frozen BK179.out 2) | ((with_reducible refine gate_store (t := 25) (p := 5) rfl ?_); refine store_event (t := 25) (p := 5) (v := ?vo_w11) (w1 := (((w9.setCell ⟨gb179, 0, none⟩ (.string ((rd_T25 l0 x11_1).f0))).setCell ⟨gb179, 1, none⟩ (.int .i64 ((rd_T25 l0 x11_1).f1))).setCell ⟨gb179, 2, none⟩ (.slice A178_2 ((rd_T25 l0 x11_1).f2).length c178_2))) ?hg ?ho ?hn ?hr ?_; (case ho => rfl); (case hg => rfl); (case hn => rfl); (case hr => first | (go_simp; done) | (go_simp; rfl)); intro w11 hw; have n0_ : Aside0 (w11.heap[gb179]? = some (.cells #[.string ((rd_T25 l0 x11_1).f0), .int .i64 ((rd_T25 l0 x11_1).f1), .slice A178_2 ((rd_T25 l0 x11_1).f2).length c178_2] 25 (0, 0))) := ⟨(by rw [hw]; exact (by (with_reducible repeat (first | refine blk_drewN ?_ _ | refine blk_drew ?_ | refine blk_alloc ?_ _)); refine blk_put (cs := #[.string ((rd_T25 l0 x11_1).f0), .int .i64 ((rd_T25 l0 x11_1).f1), .slice none 0 0]) ?_ 2 _ rfl; (with_reducible repeat (first | refine blk_drewN ?_ _ | refine blk_drew ?_ | refine blk_alloc ?_ _)); refine blk_put (cs := #[.string ((rd_T25 l0 x11_1).f0), .int .i64 0, .slice none 0 0]) ?_ 1 _ rfl; (with_reducible repeat (first | refine blk_drewN ?_ _ | refine blk_drew ?_ | refine blk_alloc ?_ _)); refine blk_put (cs := #[.string (⟨#[]⟩ : ByteArray), .int .i64 0, .slice none 0 0]) ?_ 0 _ rfl; (with_reducible repeat (first | refine blk_drewN ?_ _ | refine blk_drew ?_ | refine blk_alloc ?_ _)); exact BK179.out))⟩; have n1_ : Aside0 (Below w.heap.size w w11) := ⟨(by rw [hw]; exact (by repeat (first | (with_reducible first | exact HB.out | apply below_alloc | apply pw_below_drewN | apply below_drew1 | refine below_set ?_ GE179.out) | exact HB.out)))⟩; clear hw; clear BK179; clear HB; have BK179 := n0_; have HB := n1_; clear n0_ n1_; have hcz12_0 : w11.cell? ⟨gb179, 0, none⟩ = some (.string ((rd_T25 l0 x11_1).f0)) := (blk_cell BK179.out 0).trans rfl; have hcz12_1 : w11.cell? ⟨gb179, 1, none⟩ = some (.int .i64 ((rd_T25 l0 x11_1).f1)) := (blk_cell BK179.out 1).trans rfl; have hcz12_2 : w11.cell? ⟨gb179, 2, none⟩ = some (.slice A178_2 ((rd_T25 l0 x11_1).f2).length c178_2) := (blk_cell BK179.out 2).trans rfl; have hfz12_0 := blk_frozen BK179.out 0; have hfz12_1 := blk_frozen BK179.out 1; have hfz12_2 := blk_frozen BK179.out 2) | ((with_reducible refine gate_callee (f := 16) rfl ?_); refine goesL_ (some 17) rfl rfl Tryd.func16 (by kernel_rfl) rfl #[.agg #[.string ((rd_T25 l0 x11_1).f0), .int .i64 ((rd_T25 l0 x11_1).f1), .slice A178_2 ((rd_T25 l0 x11_1).f2).length c178_2]] rfl (by (try simp only [List.map_toArray, List.map_cons, List.map_nil]); first | done | rfl | (simp only [List.length_drop, List.length_take]; rfl)) ?_; (with_reducible refine (ledger_Level.calls k1 ((rd_T25 l0 x11_1).f0) ((rd_T25 l0 x11_1).f1) (fun k_ => k_ < w.heap.size) _ _ ((rd_T25 l0 x11_1).f2) t180 _ ?side1 ?side2 A8.out).mono ?_); (case side1 => exact Kd.V_mk HC178_2.out (Kd.F_below (Kd.C_F k37_heap HR178_2.out) (by repeat (first | (with_reducible first | exact HB.out | apply below_alloc | apply pw_below_drewN | apply below_drew1 | refine below_set ?_ GE179.out) | exact HB.out)))); (case side2 => exact Tabs.below hT (by repeat (first | (with_reducible first | exact HB.out | apply below_alloc | apply pw_below_drewN | apply below_drew1 | refine below_set ?_ GE179.out) | exact HB.out))); rintro e w13 ⟨rfl, hb⟩; refine ⟨_, rfl, ?_⟩; have n0_ := Aside0.mk (blk_below (g := gb179) (o := .cells #[.string ((rd_T25 l0 x11_1).f0), .int .i64 ((rd_T25 l0 x11_1).f1), .slice A178_2 ((rd_T25 l0 x11_1).f2).length c178_2] 25 (0, 0)) (by (with_reducible repeat (first | refine blk_drewN ?_ _ | refine blk_drew ?_ | refine blk_alloc ?_ _)); exact BK179.out) hb); have n1_ := Aside0.mk (below_step (by repeat (first | (with_reducible first | exact HB.out | apply below_alloc | apply pw_below_drewN | apply below_drew1 | refine below_set ?_ GE179.out) | exact HB.out)) hb); clear BK179; clear HB; have BK179 := n0_; have HB := n1_; clear n0_ n1_; (try clear hb); (try clear hb2); (try clear hk); (try clear hi)))
              go_roundg k1
              case measure => have := HK1.out; omega
              case rel => exact ⟨(wrap64 (x3_1 + t180)), (wrap64 (x11_1 + 1)), (by first | rfl | (simp; done) | (simp [*]; done)), (by first | rfl | (simp; done) | (simp [*]; done)), H', ⟨by have := HK1.out; omega⟩, ⟨by repeat (first | (with_reducible first | exact HB.out | apply below_alloc | apply pw_below_drewN | apply below_drew1 | refine below_set ?_ GE179.out) | exact HB.out)⟩⟩
            · rw [if_neg c7] at H
              exact absurd H (by simp)
          · rw [if_neg c6] at H
            exact absurd H (by simp)
        · rw [if_neg c5] at H
          have c5b0 : decide (x11_1 < (l0.length : Int)) = false := decide_eq_false c5
          clear c5
          obtain rfl := Option.some.inj H
          go_wp2
          go_ret
          exact ⟨by first | rfl | (simp [errW_none, errW_some] <;> rfl) | (simp [*, errW_none, errW_some] <;> rfl), by repeat (first | (with_reducible first | exact HB.out | apply below_alloc | apply pw_below_drewN | apply below_drew1) | exact HB.out)⟩
  · rw [if_neg c3] at H
    have c3b0 : (t177 == 0) = false := beq_eq_false_iff_ne.mpr c3
    have c3b1 : (t177 != 0) = true := bne_iff_ne.mpr c3
    obtain rfl := Option.some.inj H
    go_enter Tryd.func14, Tryd.ntmps14
    go_wp2_with (first | ((with_reducible refine gate_callee (f := 12) rfl ?_); refine goesL_ (some 7) rfl rfl Tryd.func12 (by kernel_rfl) rfl #[.slice A0 l0.length c0] rfl (by (try simp only [List.map_toArray, List.map_cons, List.map_nil]); first | done | rfl | (simp only [List.length_drop, List.length_take]; rfl)) ?_; (with_reducible refine (ledger_Check.calls k _ _ l0 t177 _ ?side1 ?side2 ?side3 A2.out).mono ?_); (case side1 => repeat (first | exact HR0.out | (with_reducible refine Kd.C_alloc ?_ _) | (with_reducible refine Kd.C_drewN ?_ _) | (with_reducible refine Kd.C_drew ?_))); (case side2 => exact HC0.out); (case side3 => exact Tabs.below hT (by repeat (first | (with_reducible first | exact HB.out | apply below_alloc | apply pw_below_drewN | apply below_drew1) | exact HB.out))); rintro e w14 ⟨rfl, hb⟩; refine ⟨_, rfl, ?_⟩; have n0_ := Aside0.mk (below_step (by repeat (first | (with_reducible first | exact HB.out | apply below_alloc | apply pw_below_drewN | apply below_drew1) | exact HB.out)) hb); clear HB; have HB := n0_; clear n0_; (try clear hb); (try clear hb2); (try clear hk); (try clear hi)))
    go_ret
    exact ⟨by first | rfl | (simp [errW_none, errW_some] <;> rfl) | (simp [*, errW_none, errW_some] <;> rfl), by repeat (first | (with_reducible first | exact HB.out | apply below_alloc | apply pw_below_drewN | apply below_drew1) | exact HB.out)⟩
def malthouseref13_grams.l0 : Nat → List (S37) → Int → Int → Option (Int)
  | 0, _, _, _ => none
  | k + 1, x0, x3, x4 => if x4 < (x0.length : Int) then (if 0 ≤ x4 then (malthouseref13_grams.l0 k x0 (wrap64 (x3 + ((rd_T37 x0 x4).f1))) (wrap64 (x4 + 1))) else (none)) else (some x3)
def malthouseref13_grams.f (k : Nat) (l0 : List (S37)) : Option (Int) := malthouseref13_grams.l0 k l0 0 0
set_option maxHeartbeats 8000000 in
set_option maxRecDepth 100000 in
theorem malthouseref13_grams.calls (k : Nat) (A0 : Option Addr) (c0 : Nat) (l0 : List (S37)) (r : Int) (w : World) (hr0 : Kd.C k37 w A0 l0.length l0) (hc0 : l0.length ≤ c0) (h : malthouseref13_grams.f k l0 = some r) :
    Calls Tryd.prog 37 #[.slice A0 l0.length c0] w fun e w' => e = .returned (.int .i64 r) ∧ Drawn0 w w' := by
  have HR0 := Aside0.mk hr0
  have HC0 := Aside0.mk hc0
  clear hr0 hc0
  have H : (malthouseref13_grams.l0 k l0 0 0) = some r := h
  clear h
  have H' := Aside0.mk H
  clear H
  go_enter Tryd.func37, Tryd.ntmps37
  go_wp2
  go_loopg [3, 4] k (fun kq v3 v4 w' => ∃ (x3_1 : Int) (x4_1 : Int), v3 = .int .i64 x3_1 ∧ v4 = .int .i64 x4_1 ∧ Aside0 (malthouseref13_grams.l0 kq l0 x3_1 x4_1 = some r) ∧ Aside0 (kq ≤ k) ∧ Drawn0 w w')
  case atStart => exact ⟨(0), (0), (by first | rfl | (simp; done) | (simp [*]; done)), (by first | rfl | (simp; done) | (simp [*]; done)), H', ⟨Nat.le_refl _⟩, by repeat (first | exact Drawn0.refl _ | apply Drawn0.step)⟩
  case round =>
    clear H'
    obtain ⟨x3_1, x4_1, rfl, rfl, HA, HK1, ⟨m1, rfl⟩⟩ := hrel
    cases gk with
    | zero => exact absurd HA.out (by simp [malthouseref13_grams.l0])
    | succ k1 =>
      have H := HA.out
      clear HA
      simp only [malthouseref13_grams.l0] at H
      by_cases c2 : x4_1 < (l0.length : Int)
      · rw [if_pos c2] at H
        have c2b0 : decide (x4_1 < (l0.length : Int)) = true := decide_eq_true c2
        clear c2
        by_cases c3 : 0 ≤ x4_1
        · rw [if_pos c3] at H
          have c3b0 : decide (0 ≤ x4_1) = true := decide_eq_true c3
          clear c3
          have H' := Aside0.mk H
          clear H
          have p181 : 0 ≤ (x4_1 : Int) := of_decide_eq_true (by first | (with_reducible assumption) | assumption)
          have q181 : x4_1 < (l0.length : Int) := of_decide_eq_true (by first | (with_reducible assumption) | assumption)
          obtain ⟨ad181, e181, hx181_0, hx181_1⟩ := at_T37 HR0.out x4_1 p181 q181
          cases e181
          replace p181 := eq_true p181
          replace q181 := eq_true q181
          go_wp2
          go_roundg k1
          case measure => have := HK1.out; omega
          case rel => exact ⟨(wrap64 (x3_1 + ((rd_T37 l0 x4_1).f1))), (wrap64 (x4_1 + 1)), (by first | rfl | (simp; done) | (simp [*]; done)), (by first | rfl | (simp; done) | (simp [*]; done)), H', ⟨by have := HK1.out; omega⟩, by repeat (first | exact Drawn0.refl _ | apply Drawn0.step)⟩
        · rw [if_neg c3] at H
          exact absurd H (by simp)
      · rw [if_neg c2] at H
        have c2b0 : decide (x4_1 < (l0.length : Int)) = false := decide_eq_false c2
        clear c2
        obtain rfl := Option.some.inj H
        go_wp2
        go_ret
        exact ⟨by first | rfl | (simp; done) | (simp [*]; done), by repeat (first | exact Drawn0.refl _ | apply Drawn0.step)⟩
end Go.Proofs.YtejecmjajdhiiaaDoor.Print
/-! ### EAwake -/
namespace Go.Proofs.YtejecmjajdhiiaaDoor.Print
open Go.RowKit Go.Proofs.YtejecmjajdhiiaaDoorW.PrintWords Go.Proofs.YtejecmjajdhiiaaDoorW.PrintLast Go.Proofs.YtejecmjajdhiiaaDoorW.PrintMore
set_option linter.unusedSimpArgs false
set_option linter.unusedVariables false
def exL : List S25 := [⟨⟨#[116, 49]⟩, 100, [⟨⟨#[97]⟩, 10⟩, ⟨⟨#[98]⟩, 20⟩]⟩, ⟨⟨#[116, 50]⟩, 50, []⟩]
def exM : List S25 := [⟨⟨#[116, 49]⟩, 100, [⟨⟨#[98]⟩, 5⟩]⟩, ⟨⟨#[116, 50]⟩, 50, [⟨⟨#[97]⟩, 10⟩, ⟨⟨#[98]⟩, 15⟩]⟩]
theorem ex_move : ledger_Move.f exL ⟨#[116, 49]⟩ ⟨#[116, 50]⟩ 25 = some (exM, 0) := by kernel_rfl
theorem ex_draw : ledger_Draw.f exL ⟨#[116, 49]⟩ 15 = some ([⟨⟨#[116, 49]⟩, 100, [⟨⟨#[98]⟩, 15⟩]⟩, ⟨⟨#[116, 50]⟩, 50, []⟩], [⟨⟨#[97]⟩, 10⟩, ⟨⟨#[98]⟩, 5⟩], 0) := by kernel_rfl
def malthouselaw13_awake.f : Option Bool := some true
set_option maxHeartbeats 8000000 in
set_option maxRecDepth 100000 in
theorem malthouselaw13_awake.calls (r : Bool) (w : World) (hT : Tabs w) (h : malthouselaw13_awake.f = some r) :
    Calls Tryd.prog 10 #[] w fun e w' => e = .returned (.bool r) ∧ Below w.heap.size w w' := by
  obtain rfl := Option.some.inj h
  clear h
  have HT := Lib.hid hT
  clear hT
  go_enter Tryd.func10, Tryd.ntmps10
  go_wp2_with (go_at_call 26; refine (fun (h : Hid _) => h.out) ?_)
  refine Lib.hid ?_
  have HS := Lib.hid (((St.nil w).alloc [.string ⟨#[97]⟩, .int .i64 10, .string ⟨#[98]⟩, .int .i64 20] 37).alloc [.string ⟨#[116, 49]⟩, .int .i64 100, .slice (some ⟨w.heap.size, 0, none⟩) 2 2, .string ⟨#[116, 50]⟩, .int .i64 50, .slice none 0 0] 25)
  simp only [World.size_alloc, List.append_assoc, List.cons_append, List.nil_append] at HS
  have HCV := Lib.hid (show Kd.C k25 ((w.alloc (.cells #[.string ⟨#[97]⟩, .int .i64 10, .string ⟨#[98]⟩, .int .i64 20] 37)).alloc (.cells #[.string ⟨#[116, 49]⟩, .int .i64 100, .slice (some ⟨w.heap.size, 0, none⟩) 2 2, .string ⟨#[116, 50]⟩, .int .i64 50, .slice none 0 0] 25)) (some ⟨w.heap.size + 1, 0, none⟩) exL.length exL from
    C_ves (hs := [.slice (some ⟨w.heap.size, 0, none⟩) 2 2, .slice none 0 0]) rfl (by decide) (fun _ => ⟨_, rfl, HS.out.cells 1 rfl⟩) (fun j x u hj hu => by
      match j with
      | 0 =>
        obtain rfl := Option.some.inj hj
        obtain rfl := Option.some.inj hu
        exact ⟨some ⟨w.heap.size, 0, none⟩, 2, rfl, by decide, C_lots (by decide) (fun _ => ⟨_, rfl, HS.out.cells 0 rfl⟩)⟩
      | 1 =>
        obtain rfl := Option.some.inj hj
        obtain rfl := Option.some.inj hu
        exact ⟨none, 0, rfl, by decide, C_lots (by decide) (fun h => absurd h (by decide))⟩
      | j + 2 => simp [exL] at hj))
  generalize (w.alloc (.cells #[.string ⟨#[97]⟩, .int .i64 10, .string ⟨#[98]⟩, .int .i64 20] 37)).alloc (.cells #[.string ⟨#[116, 49]⟩, .int .i64 100, .slice (some ⟨w.heap.size, 0, none⟩) 2 2, .string ⟨#[116, 50]⟩, .int .i64 50, .slice none 0 0] 25) = W1 at *
  refine (ledger_Move.calls (some ⟨w.heap.size + 1, 0, none⟩) 2 exL ⟨#[116, 49]⟩ ⟨#[116, 50]⟩ 25 exM 0 W1 HCV.out (by decide) (HT.out.below HS.out.only.nil_below) ex_move).mono ?_
  rintro e W2 ⟨v0, rfl, ⟨Am, cm, rfl, hcm, hF⟩, hb⟩
  have HF := Lib.hid hF
  have HB := Lib.hid hb
  replace HS := Lib.hid (HS.out.keep (Only.of_below hb))
  have HDR := Lib.hid (ledger_Draw.calls (some ⟨w.heap.size + 1, 0, none⟩) 2 exL ⟨#[116, 49]⟩ 15 _ _ 0 W2 (Kd.C_below HCV.out hb) (by decide) (HT.out.below HS.out.only.nil_below) ex_draw)
  clear hF hb
  simp only []
  go_wp2_with (go_at_call 18; refine HDR.out.mono ?_; rintro e W3 ⟨v1, v2, rfl, hV2, hR2, hb2⟩; have HR2 := Lib.hid hR2; have HB2 := Lib.hid hb2; clear hV2 hR2 hb2; refine (fun (h : Hid _) => h.out) ?_)
  refine Lib.hid ?_
  clear HDR
  obtain ⟨Ao, co, rfl, hco, hCo⟩ := Kd.R_reads HR2.out
  have HCM := Lib.hid (show Kd.C k25 W3 Am exM.length exM from HF.out W3 (fun k hk hlt => HB2.out.block k hlt))
  have HSM := Lib.hid (ledger_Sum.calls 100000 Am cm exM 30 W3 HCM.out hcm (HT.out.below ((HS.out.only).trans (Only.of_below HB2.out)).nil_below) (by kernel_rfl))
  obtain ⟨am, cs, rfl, _, hK, hcs⟩ := Kd.C_cells HCM.out 1 (by decide)
  obtain ⟨A1, c1, rfl, hl1, hk1⟩ := k25_open hK
  have hm1 : W3.cell? ⟨am.block, am.off + 3 + 2, none⟩ = some (.slice A1 2 c1) := hcs 2 _ rfl
  obtain ⟨a1, rfl, hcs1⟩ := flat_lots hk1 (by decide)
  have hm2 : W3.cell? ⟨a1.block, a1.off + 2 + 1, none⟩ = some (.int .i64 15) := hcs1 3 _ rfl
  obtain ⟨ao, rfl, hcso⟩ := flat_lots hCo (by decide)
  have hm3 : W3.cell? ⟨ao.block, ao.off + 2 + 1, none⟩ = some (.int .i64 5) := hcso 3 _ rfl
  simp only [show exM.length = 2 from rfl, List.length_cons, List.length_nil, Nat.reduceAdd] at HSM ⊢
  clear hK hcs hcs1 hcso hCo hl1 hk1
  go_wp2_with (go_at_call 14; refine HSM.out.mono ?_; rintro e W4 ⟨rfl, hb3⟩; have HB3 := Lib.hid hb3; clear hb3; refine (fun (h : Hid _) => h.out) ?_)
  refine Lib.hid ?_
  clear hm1 hm2 hm3 HSM
  obtain ⟨ad, cs, e, _, hK, hcs⟩ := Kd.C_cells (Kd.C_below HCM.out HB3.out) 0 (by decide)
  obtain rfl := Option.some.inj e
  obtain ⟨A0, c0, rfl, hl0, hk0⟩ := k25_open hK
  have HLV := Lib.hid (ledger_Level.calls 100000 ⟨#[116, 49]⟩ 100 (fun k_ => k_ < W4.heap.size) A0 c0 [⟨⟨#[98]⟩, 5⟩] 5 W4 (Kd.V_mk hl0 (Kd.C_F k37_heap hk0)) (HT.out.below ((HS.out.only).trans ((Only.of_below HB2.out).trans (Only.of_below HB3.out))).nil_below) (by kernel_rfl))
  have hm1 : W4.cell? am = some (.string ⟨#[116, 49]⟩) := hcs 0 _ rfl
  have hm2 : W4.cell? ⟨am.block, am.off + 1, none⟩ = some (.int .i64 100) := hcs 1 _ rfl
  have hm3 : W4.cell? ⟨am.block, am.off + 2, none⟩ = some (.slice A0 1 c0) := hcs 2 _ rfl
  clear hK hcs hl0 hk0 e
  go_wp2_with (go_at_call 16; refine HLV.out.mono ?_; rintro e W5 ⟨rfl, hb4⟩; have HB4 := Lib.hid hb4; clear hb4)
  go_ret
  exact ⟨rfl, ((HS.out.only).trans ((Only.of_below HB2.out).trans ((Only.of_below HB3.out).trans (Only.of_below HB4.out)))).nil_below⟩
end Go.Proofs.YtejecmjajdhiiaaDoor.Print
/-! ### LgMvLaw -/
namespace Go.Proofs.YtejecmjajdhiiaaDoor.Print
open Go.RowKit Go.Proofs.YtejecmjajdhiiaaDoorW.PrintWords Go.Proofs.YtejecmjajdhiiaaDoorW.PrintLast Go.Proofs.YtejecmjajdhiiaaDoorW.PrintMore
set_option linter.unusedSimpArgs false
set_option linter.unusedVariables false
theorem any_false {α : Type} (p : α → Bool) (l : List α) : l.any p = false ↔ ∀ (j : Nat) (x : α), l[j]? = some x → p x = false := by
  rw [List.any_eq_false]
  constructor
  · intro h j x hx
    have := h x (List.mem_of_getElem? hx)
    simpa using this
  · intro h x hx
    obtain ⟨j, hj⟩ := List.mem_iff_getElem?.1 hx
    simp [h j x hj]
theorem Lite.turn {l : List S25} (h : Lite l) {i : Nat} {x : S25} {m : List S37} (hx : l[i]? = some x) (hm : m.length ≤ 60) (hn : ∀ y ∈ m, y.f0.size ≤ 1000000000) : Lite (l.set i (turned x m)) := by
  refine ⟨by rw [List.length_set]; exact h.len, fun y hy => ?_⟩
  obtain ⟨j, hj⟩ := List.mem_iff_getElem?.1 hy
  by_cases hji : j = i
  · subst hji
    rw [List.getElem?_set_self (List.getElem?_eq_some_iff.1 hx).1] at hj
    obtain rfl := Option.some.inj hj
    have hx2 := h.all x (List.mem_of_getElem? hx)
    exact ⟨hx2.name, hx2.lo, hx2.hi, hm, hn⟩
  · rw [List.getElem?_set_ne (Ne.symm hji)] at hj
    exact h.all y (List.mem_of_getElem? hj)
end Go.Proofs.YtejecmjajdhiiaaDoor.Print
/-! ### LgMvLaw2 -/
namespace Go.Proofs.YtejecmjajdhiiaaDoor.Print
open Go.RowKit Go.Proofs.YtejecmjajdhiiaaDoorW.PrintWords Go.Proofs.YtejecmjajdhiiaaDoorW.PrintLast Go.Proofs.YtejecmjajdhiiaaDoorW.PrintMore
set_option linter.unusedSimpArgs false
set_option linter.unusedVariables false
theorem firstFrom_at {l : List S25} {a : ByteArray} (h : ¬ firstFrom (vesselIs a) 0 l < 0) : ∃ (k : Nat) (x : S25), firstFrom (vesselIs a) 0 l = (k : Int) ∧ l[k]? = some x := by
  obtain ⟨k, hk⟩ := Int.eq_ofNat_of_zero_le (show 0 ≤ firstFrom (vesselIs a) 0 l by omega)
  obtain ⟨x, hx, _⟩ := firstFrom_spec (vesselIs a) l 0 k (by rw [hk]; simp)
  exact ⟨k, x, hk, hx⟩
theorem rd_at {l : List S25} {k : Nat} {x : S25} (hx : l[k]? = some x) : rd_T25 l (k : Int) = x := by
  rw [show rd_T25 l (k : Int) = l[k]'(List.getElem?_eq_some_iff.1 hx).1 from getD_at l _ k _]
  exact (List.getElem?_eq_some_iff.1 hx).2
theorem len_pos {l : List S37} (h : 1 ≤ sumL l) : 0 < l.length := by
  cases l with
  | nil => have : sumL ([] : List S37) = 0 := rfl; omega
  | cons x l => simp
theorem drawOk_good {l : List S25} (hg : Good l) {j : Nat} {x : S25} (hx : l[j]? = some x) {n : Int} (hn : 1 ≤ n) (hr : n ≤ sumL x.f2) : drawOk x.f2 n = true := by
  obtain ⟨q1, q2, q3, q4, q5⟩ := (vesB_iff x).1 (hg.all j x hx).1
  unfold drawOk
  rw [lots_good q4 (by omega)]
  have h1 : n ≤ 1125899906842624 := by omega
  have h2 : 0 < x.f2.length := len_pos (by omega)
  simp [h1]
  exact h2
theorem draw_val {l : List S25} (hl : Lite l) (hg : Good l) {a : ByteArray} {n : Int} {i : Nat} (hf : firstFrom (vesselIs a) 0 l = (i : Int)) {x : S25} (hx : l[i]? = some x) (hn : 1 ≤ n) (hr : n ≤ sumL x.f2) :
    ledger_Draw.f l a n = some (l.set i (turned x (takeM x.f2 n).1), (takeM x.f2 n).2, 0) := by
  unfold ledger_Draw.f
  rw [if_pos (smallV_lite hl), check_lite hl, (good_iff l).2 hg]
  simp only [Option.bind_some]
  rw [if_pos trivial, find_lite hl, hf]
  simp only [Option.bind_some]
  rw [if_neg (by omega), if_neg (by omega), rd_at hx, level_lite (hl.all x (List.mem_of_getElem? hx)), level_good hg hx]
  simp only [Option.bind_some]
  rw [if_neg (by omega), if_pos (drawOk_good hg hx hn hr), Int.toNat_natCast]
end Go.Proofs.YtejecmjajdhiiaaDoor.Print
/-! ### LgVal -/
namespace Go.Proofs.YtejecmjajdhiiaaDoor.Print
open Go.RowKit Go.Proofs.YtejecmjajdhiiaaDoorW.PrintWords Go.Proofs.YtejecmjajdhiiaaDoorW.PrintLast Go.Proofs.YtejecmjajdhiiaaDoorW.PrintMore
set_option linter.unusedSimpArgs false
set_option linter.unusedVariables false
/-- The vessel of that name, and where it stands. -/
def atV (l : List S25) (a : ByteArray) : Option (Nat × S25) :=
  if firstFrom (vesselIs a) 0 l < 0 then none else (l[(firstFrom (vesselIs a) 0 l).toNat]?).map fun x => ((firstFrom (vesselIs a) 0 l).toNat, x)
theorem at_cases (l : List S25) (a : ByteArray) : (firstFrom (vesselIs a) 0 l < 0 ∧ atV l a = none) ∨ ∃ (k : Nat) (x : S25), firstFrom (vesselIs a) 0 l = (k : Int) ∧ l[k]? = some x ∧ atV l a = some (k, x) := by
  by_cases h : firstFrom (vesselIs a) 0 l < 0
  · exact .inl ⟨h, if_pos h⟩
  · obtain ⟨k, x, h1, h2⟩ := firstFrom_at h
    refine .inr ⟨k, x, h1, h2, ?_⟩
    unfold atV
    rw [if_neg h, h1, Int.toNat_natCast, h2]
    rfl
def chargeV (l : List S25) (k : Nat) (y : S25) (b : ByteArray) (n : Int) : List S25 × Int :=
  if n < 1 ∨ y.f1 - sumL y.f2 < n then ([], 130) else if 5 < (pourM y.f2 ⟨b, n⟩).length then ([], 2) else (l.set k (turned y (pourM y.f2 ⟨b, n⟩)), 0)
def chargeA (l : List S25) (b : ByteArray) (n : Int) : Option (Nat × S25) → List S25 × Int
  | none => ([], 4)
  | some (k, y) => chargeV l k y b n
def chargeM (l : List S25) (a b : ByteArray) (n : Int) : List S25 × Int := if checkM l = 0 ∧ nameB b = true then chargeA l b n (atV l a) else ([], 1)
def drawV (l : List S25) (k : Nat) (y : S25) (n : Int) : List S25 × List S37 × Int :=
  if n < 1 ∨ sumL y.f2 < n then ([], [], 130) else (l.set k (turned y (takeM y.f2 n).1), (takeM y.f2 n).2, 0)
def drawA (l : List S25) (n : Int) : Option (Nat × S25) → List S25 × List S37 × Int
  | none => ([], [], 4)
  | some (k, y) => drawV l k y n
def drawM (l : List S25) (a : ByteArray) (n : Int) : List S25 × List S37 × Int := if checkM l = 0 then drawA l n (atV l a) else ([], [], 1)
def moveV (l : List S25) (i : Nat) (x : S25) (k : Nat) (y : S25) (n : Int) : List S25 × Int :=
  if n < 1 ∨ sumL x.f2 < n ∨ y.f1 - sumL y.f2 < n then ([], 130) else if 5 < (poursM y.f2 (takeM x.f2 n).2).length then ([], 2) else (movedM l i k x y n, 0)
def moveA (l : List S25) (n : Int) : Option (Nat × S25) → Option (Nat × S25) → List S25 × Int
  | some (i, x), some (k, y) => moveV l i x k y n
  | _, _ => ([], 4)
def moveM (l : List S25) (a b : ByteArray) (n : Int) : List S25 × Int := if checkM l = 0 ∧ a ≠ b then moveA l n (atV l a) (atV l b) else ([], 1)
theorem many_set {l : List S25} (hg : Good l) {k : Nat} (hk : k < l.length) (y : S25) (m : List S37) : (l.set k (turned y m)).any manyLots = decide (5 < m.length) := by
  by_cases h : 5 < m.length
  · rw [decide_eq_true h, List.any_eq_true]
    exact ⟨turned y m, List.mem_of_getElem? (List.getElem?_set_self hk), decide_eq_true h⟩
  · rw [decide_eq_false h, any_false]
    intro j x hx
    by_cases hj : j = k
    · subst hj
      rw [List.getElem?_set_self hk] at hx
      obtain rfl := Option.some.inj hx
      exact decide_eq_false h
    · rw [List.getElem?_set_ne (Ne.symm hj)] at hx
      have := (hg.all j x hx).2.2
      exact decide_eq_false (by omega)
theorem charge_value {l : List S25} (hl : Lite l) (a b : ByteArray) (n : Int) (hbs : b.size ≤ 1000000000) : ledger_Charge.f l a b n = some (chargeM l a b n) := by
  unfold chargeM
  by_cases hg : checkM l = 0
  rotate_left
  · rw [if_neg (fun h => hg h.1)]
    unfold ledger_Charge.f
    rw [if_pos (smallV_lite hl), check_lite hl]
    simp only [Option.bind_some]
    rw [if_neg hg]
  have hG := (good_iff l).1 hg
  by_cases hb : nameB b = true
  rotate_left
  · rw [if_neg (fun h => hb h.2)]
    unfold ledger_Charge.f
    rw [if_pos (smallV_lite hl), check_lite hl, hg]
    simp only [Option.bind_some]
    rw [if_pos trivial, lex_name_is b hbs]
    simp only [Option.bind_some]
    rw [if_neg hb]
  rw [if_pos ⟨hg, hb⟩]
  rcases at_cases l a with ⟨h1, h2⟩ | ⟨k, y, h1, h2, h3⟩
  · rw [h2]
    unfold ledger_Charge.f
    rw [if_pos (smallV_lite hl), check_lite hl, hg]
    simp only [Option.bind_some]
    rw [if_pos trivial, lex_name_is b hbs, hb]
    simp only [Option.bind_some]
    rw [if_pos trivial, find_lite hl]
    simp only [Option.bind_some]
    rw [if_pos h1]
    rfl
  · rw [h3]
    obtain ⟨q1, q2, q3, q4, q5⟩ := (vesB_iff y).1 (hG.all k y h2).1
    have hs0 := fine_sum _ _ q4
    have hkl := (List.getElem?_eq_some_iff.1 h2).1
    unfold ledger_Charge.f
    rw [if_pos (smallV_lite hl), check_lite hl, hg]
    simp only [Option.bind_some]
    rw [if_pos trivial, lex_name_is b hbs, hb]
    simp only [Option.bind_some]
    rw [if_pos trivial, find_lite hl, h1]
    simp only [Option.bind_some]
    rw [if_neg (by omega), rd_at h2]
    show _ = some (chargeV l k y b n)
    unfold chargeV
    by_cases hn : n < 1
    · rw [if_pos hn, if_pos (.inl hn)]
    rw [if_neg hn]
    unfold ledger_room.f
    rw [level_lite (hl.all y (List.mem_of_getElem? h2)), level_good hG h2]
    simp only [Option.bind_some]
    rw [wrap_small _ (by omega) (by omega)]
    by_cases hr : y.f1 - sumL y.f2 < n
    · rw [if_pos hr, if_pos (.inr hr)]
    rw [if_neg hr, if_neg (show ¬ (n < 1 ∨ y.f1 - sumL y.f2 < n) by omega), if_pos (pourOk_good (x := ⟨b, n⟩) q4 (by omega) (by show 1 ≤ n; omega) (by show n ≤ _; omega))]
    unfold outV
    rw [Int.toNat_natCast, many_set hG hkl]
    by_cases h5 : 5 < (pourM y.f2 ⟨b, n⟩).length
    · rw [if_pos (decide_eq_true h5), if_pos h5]
    · rw [if_neg (by simpa using h5), if_neg h5]
theorem draw_value {l : List S25} (hl : Lite l) (a : ByteArray) (n : Int) : ledger_Draw.f l a n = some (drawM l a n) := by
  unfold drawM
  by_cases hg : checkM l = 0
  rotate_left
  · rw [if_neg hg]
    unfold ledger_Draw.f
    rw [if_pos (smallV_lite hl), check_lite hl]
    simp only [Option.bind_some]
    rw [if_neg hg]
  have hG := (good_iff l).1 hg
  rw [if_pos hg]
  rcases at_cases l a with ⟨h1, h2⟩ | ⟨k, y, h1, h2, h3⟩
  · rw [h2]
    unfold ledger_Draw.f
    rw [if_pos (smallV_lite hl), check_lite hl, hg]
    simp only [Option.bind_some]
    rw [if_pos trivial, find_lite hl]
    simp only [Option.bind_some]
    rw [if_pos h1]
    rfl
  · rw [h3]
    show _ = some (drawV l k y n)
    unfold drawV
    by_cases hc : n < 1 ∨ sumL y.f2 < n
    · rw [if_pos hc]
      unfold ledger_Draw.f
      rw [if_pos (smallV_lite hl), check_lite hl, hg]
      simp only [Option.bind_some]
      rw [if_pos trivial, find_lite hl, h1]
      simp only [Option.bind_some]
      rw [if_neg (by omega), rd_at h2]
      by_cases hn : n < 1
      · rw [if_pos hn]
      rw [if_neg hn, level_lite (hl.all y (List.mem_of_getElem? h2)), level_good hG h2]
      simp only [Option.bind_some]
      rw [if_pos (by omega)]
    · rw [if_neg hc]
      exact draw_val hl hG h1 h2 (by omega) (by omega)
theorem move_value {l : List S25} (hl : Lite l) (a b : ByteArray) (n : Int) : ledger_Move.f l a b n = some (moveM l a b n) := by
  unfold moveM
  by_cases hg : checkM l = 0
  rotate_left
  · rw [if_neg (fun h => hg h.1)]
    unfold ledger_Move.f
    rw [if_pos (smallV_lite hl), check_lite hl]
    simp only [Option.bind_some]
    rw [if_neg hg]
  have hG := (good_iff l).1 hg
  by_cases hab : a = b
  · rw [if_neg (fun h => h.2 hab)]
    unfold ledger_Move.f
    rw [if_pos (smallV_lite hl), check_lite hl, hg]
    simp only [Option.bind_some]
    rw [if_pos trivial, if_pos hab]
  rw [if_pos ⟨hg, hab⟩]
  unfold ledger_Move.f
  rw [if_pos (smallV_lite hl), check_lite hl, hg]
  simp only [Option.bind_some]
  rw [if_pos trivial, if_neg hab, find_lite hl, find_lite hl]
  simp only [Option.bind_some]
  rcases at_cases l a with ⟨h1, h2⟩ | ⟨i, x, hf, hx, h3⟩
  · rw [h2, if_pos h1]
    cases atV l b <;> rfl
  rcases at_cases l b with ⟨h1, h2⟩ | ⟨k, y, hf2, hy, h4⟩
  · rw [h2, h3, if_neg (by omega), if_pos h1]
    rfl
  rw [h3, h4, hf, hf2, if_neg (by omega), if_neg (by omega), rd_at hx, rd_at hy]
  show _ = some (moveV l i x k y n)
  unfold moveV
  have hne : k ≠ i := find_ne (l := l) (a := a) (b := b) (by rw [find_lite hl, hf]) (by rw [find_lite hl, hf2]) hab
  obtain ⟨p1, p2, p3, p4, p5⟩ := (vesB_iff x).1 (hG.all i x hx).1
  obtain ⟨q1, q2, q3, q4, q5⟩ := (vesB_iff y).1 (hG.all k y hy).1
  have hs0 := fine_sum _ _ q4
  by_cases hn : n < 1
  · rw [if_pos hn, if_pos (.inl hn)]
  rw [if_neg hn, level_lite (hl.all x (List.mem_of_getElem? hx)), level_good hG hx]
  unfold ledger_room.f
  rw [level_lite (hl.all y (List.mem_of_getElem? hy)), level_good hG hy]
  simp only [Option.bind_some]
  by_cases hr : sumL x.f2 < n
  · rw [if_pos hr, if_pos (.inr (.inl hr))]
  rw [if_neg hr, wrap_small _ (by omega) (by omega)]
  by_cases hq : y.f1 - sumL y.f2 < n
  · rw [if_pos hq, if_pos (.inr (.inr hq))]
  rw [if_neg hq, if_neg (show ¬ (n < 1 ∨ sumL x.f2 < n ∨ y.f1 - sumL y.f2 < n) by omega)]
  have hts := takeM_sum x.f2 none n p4 (by omega) (by omega)
  have hout := takeM_out x.f2 none n p4
  have hkl := (List.getElem?_eq_some_iff.1 hy).1
  have hil := (List.getElem?_eq_some_iff.1 hx).1
  have hmo : moveOk x y n = true := by
    unfold moveOk
    rw [drawOk_good hG hx (by omega) (by omega), poursOk_good _ _ q4 (fun z hz => ⟨(hout z hz).1, (hout z hz).2.1⟩) (by rw [hts.1]; omega)]
    have h1 := (hG.all i x hx).2.2
    have h2 := (hG.all k y hy).2.2
    simp
    omega
  rw [if_pos hmo, Int.toNat_natCast, Int.toNat_natCast]
  unfold outV
  have hrest := takeM_rest x.f2 n
  have hg' := hG.turn hx (m := (takeM x.f2 n).1) ((vesB_iff _).2 ⟨p1, p2, p3, takeM_fine x.f2 none n p4, by show sumL (takeM x.f2 n).1 ≤ x.f1; omega⟩) (by have := (hG.all i x hx).2.2; omega)
  have hm : (movedM l i k x y n).any manyLots = decide (5 < (poursM y.f2 (takeM x.f2 n).2).length) := many_set hg' (by rw [List.length_set]; exact hkl) y _
  rw [hm]
  by_cases h5 : 5 < (poursM y.f2 (takeM x.f2 n).2).length
  · rw [if_pos (decide_eq_true h5), if_pos h5]
  · rw [if_neg (by simpa using h5), if_neg h5]
end Go.Proofs.YtejecmjajdhiiaaDoor.Print
/-! ### LgTwo -/
namespace Go.Proofs.YtejecmjajdhiiaaDoor.Print
open Go.RowKit Go.Proofs.YtejecmjajdhiiaaDoorW.PrintWords Go.Proofs.YtejecmjajdhiiaaDoorW.PrintLast Go.Proofs.YtejecmjajdhiiaaDoorW.PrintMore
set_option linter.unusedSimpArgs false
set_option linter.unusedVariables false
theorem takeM_zero (l : List S37) : takeM l 0 = (l, []) := by
  cases l with
  | nil => rfl
  | cons x l => rw [takeM, if_neg (by omega)]
theorem takeM_part (x : S37) (l : List S37) (n : Int) (h1 : 1 ≤ n) (h2 : n < x.f1) : takeM (x :: l) n = (⟨x.f0, x.f1 - n⟩ :: l, [⟨x.f0, n⟩]) := by
  have hm : mn n x.f1 = n := by unfold mn; split <;> omega
  rw [takeM, if_pos (by omega), hm, if_neg (by omega)]
  unfold outL
  rw [hm]
theorem takeM_whole (x : S37) (l : List S37) (n : Int) (h0 : 1 ≤ x.f1) (h2 : x.f1 ≤ n) : takeM (x :: l) n = ((takeM l (n - x.f1)).1, x :: (takeM l (n - x.f1)).2) := by
  have hm : mn n x.f1 = x.f1 := by unfold mn; split <;> omega
  rw [takeM, if_pos (by omega), hm, if_pos (by omega)]
  unfold outL
  rw [hm]
/-- A vessel that lost some grams stays such as may be. -/
theorem draw_good {l : List S25} (hl : Lite l) (hg : Good l) {i : Nat} {x : S25} (hx : l[i]? = some x) {n : Int} (h1 : 1 ≤ n) (h2 : n ≤ sumL x.f2) : Lite (l.set i (turned x (takeM x.f2 n).1)) ∧ Good (l.set i (turned x (takeM x.f2 n).1)) ∧ sumL (takeM x.f2 n).1 = sumL x.f2 - n ∧ sumL (takeM x.f2 n).2 = n ∧ fine none (takeM x.f2 n).1 = true := by
  obtain ⟨p1, p2, p3, p4, p5⟩ := (vesB_iff x).1 (hg.all i x hx).1
  have hts := takeM_sum x.f2 none n p4 (by omega) h2
  have hrest := takeM_rest x.f2 n
  have hx5 := (hg.all i x hx).2.2
  have hlx := hl.all x (List.mem_of_getElem? hx)
  have hf := takeM_fine x.f2 none n p4
  exact ⟨hl.turn hx (m := (takeM x.f2 n).1) (by omega) (fun z hz => by obtain ⟨q, h1, h2⟩ := hrest.2 z hz; rw [← h2]; exact hlx.lots q h1),
    hg.turn hx (m := (takeM x.f2 n).1) ((vesB_iff _).2 ⟨p1, p2, p3, hf, by show sumL (takeM x.f2 n).1 ≤ x.f1; omega⟩) (by omega), hts.2, hts.1, hf⟩
end Go.Proofs.YtejecmjajdhiiaaDoor.Print
/-! ### LgOrd -/
namespace Go.Proofs.YtejecmjajdhiiaaDoor.Print
open Go.RowKit Go.Proofs.YtejecmjajdhiiaaDoorW.PrintWords Go.Proofs.YtejecmjajdhiiaaDoorW.PrintLast Go.Proofs.YtejecmjajdhiiaaDoorW.PrintMore
set_option linter.unusedSimpArgs false
set_option linter.unusedVariables false
theorem Lite.nil : Lite [] := ⟨by simp, by simp⟩
theorem drawM_cases (l : List S25) (a : ByteArray) (n : Int) : (∃ e, e ≠ 0 ∧ drawM l a n = ([], [], e)) ∨
    (∃ (i : Nat) (x : S25), Good l ∧ l[i]? = some x ∧ atV l a = some (i, x) ∧ 1 ≤ n ∧ n ≤ sumL x.f2 ∧ drawM l a n = (l.set i (turned x (takeM x.f2 n).1), (takeM x.f2 n).2, 0)) := by
  unfold drawM
  by_cases hg : checkM l = 0
  rotate_left
  · exact .inl ⟨1, by decide, by rw [if_neg hg]⟩
  rw [if_pos hg]
  rcases at_cases l a with ⟨_, h⟩ | ⟨i, x, h1, h2, h3⟩
  · exact .inl ⟨4, by decide, by rw [h]; rfl⟩
  rw [h3]
  by_cases hc : n < 1 ∨ sumL x.f2 < n
  · exact .inl ⟨130, by decide, by show drawV l i x n = _; unfold drawV; rw [if_pos hc]⟩
  · exact .inr ⟨i, x, (good_iff l).1 hg, h2, rfl, by omega, by omega, by show drawV l i x n = _; unfold drawV; rw [if_neg hc]⟩
theorem drawM_at {l : List S25} (hg : Good l) {a : ByteArray} {n : Int} {i : Nat} {x : S25} (h : atV l a = some (i, x)) : drawM l a n = drawV l i x n := by
  unfold drawM
  rw [if_pos ((good_iff l).2 hg), h]
  rfl
theorem draw_lite {l : List S25} (hl : Lite l) (a : ByteArray) (n : Int) : Lite (drawM l a n).1 := by
  rcases drawM_cases l a n with ⟨e, _, h⟩ | ⟨i, x, hg, hx, _, h1, h2, h⟩
  · rw [h]; exact Lite.nil
  · rw [h]; exact (draw_good hl hg hx h1 h2).1
theorem fine_low : ∀ (l : List S37) (p : Option ByteArray), fine p l = true → ∀ y ∈ l, 1 ≤ y.f1 ∧ y.f1 ≤ sumL l
  | [], _, _ => by simp
  | x :: l, p, h => by
    obtain ⟨a, b, c, d⟩ := (fine_cons p x l).1 h
    have h0 := fine_sum l _ d
    have ih := fine_low l _ d
    intro y hy
    rw [sumL_cons]
    rcases List.mem_cons.1 hy with rfl | hy
    · omega
    · have := ih y hy
      omega
end Go.Proofs.YtejecmjajdhiiaaDoor.Print
/-! ### Print14 -/
namespace Go.Proofs.YtejecmjajdhiiaaDoor.Print
open Go.RowKit Go.Proofs.YtejecmjajdhiiaaDoorW.PrintWords Go.Proofs.YtejecmjajdhiiaaDoorW.PrintLast Go.Proofs.YtejecmjajdhiiaaDoorW.PrintMore
attribute [local go_sem] min_two
set_option linter.unusedVariables false
set_option linter.unusedSimpArgs false
def malthouselaw13_names.f (a0_0 : Int) (a0_1 : ByteArray) (a0_2 : ByteArray) (a0_3 : ByteArray) (a0_4 : Int) : Option (Bool) := if (a0_1.size : Int) ≤ 200 then (if (a0_2.size : Int) ≤ 200 then (some (decide ((a0_3.size : Int) ≤ 200))) else (some false)) else (some false)
set_option maxHeartbeats 8000000 in
set_option maxRecDepth 100000 in
theorem malthouselaw13_names.calls (a0_0 : Int) (a0_1 : ByteArray) (a0_2 : ByteArray) (a0_3 : ByteArray) (a0_4 : Int) (r : Bool) (w : World) (h : malthouselaw13_names.f a0_0 a0_1 a0_2 a0_3 a0_4 = some r) :
    Calls Tryd.prog 21 #[.agg #[.int .i64 a0_0, .string a0_1, .string a0_2, .string a0_3, .int .i64 a0_4]] w fun e w' => e = .returned (.bool r) ∧ Below w.heap.size w w' := by
  have hu41 := Tryd.underlying41
  have HB := Aside0.mk (Below.refl w.heap.size w)
  have H : (if (a0_1.size : Int) ≤ 200 then (if (a0_2.size : Int) ≤ 200 then (some (decide ((a0_3.size : Int) ≤ 200))) else (some false)) else (some false)) = some r := h
  clear h
  by_cases c2 : (a0_1.size : Int) ≤ 200
  · rw [if_pos c2] at H
    have c2b0 : decide ((a0_1.size : Int) ≤ 200) = true := decide_eq_true c2
    have c2b1 : decide (a0_1.size ≤ 200) = true := decide_eq_true (by omega)
    clear c2
    by_cases c3 : (a0_2.size : Int) ≤ 200
    · rw [if_pos c3] at H
      have c3b0 : decide ((a0_2.size : Int) ≤ 200) = true := decide_eq_true c3
      have c3b1 : decide (a0_2.size ≤ 200) = true := decide_eq_true (by omega)
      clear c3
      obtain rfl := Option.some.inj H
      go_enter Tryd.func21, Tryd.ntmps21
      go_wp2_with (first | ((with_reducible refine gate_dst (N := 1) rfl ?_); (try (refine gate_guard (by rfl) ?_; dsimp only)); refine box_event ?hg (N := 1) ?hd (cs := #[.int .i64 a0_0, .string a0_1, .string a0_2, .string a0_3, .int .i64 a0_4]) (t := 41) ?hr ?_; (case hd => rfl); (case hg => rfl); (case hr => first | (go_simp; done) | (go_simp; rfl)); intro gb243 hg w4 hbox hb; have n0_ := Aside0.mk (below_step (by repeat (first | (with_reducible first | exact HB.out | apply below_alloc | apply pw_below_drewN | apply below_drew1) | exact HB.out)) hb); have n1_ := Aside0.mk (hbox); have n2_ := Aside0.mk ((by rw [hg]; exact (below_size (by repeat (first | (with_reducible first | exact HB.out | apply below_alloc | apply pw_below_drewN | apply below_drew1) | exact HB.out))) : w.heap.size ≤ gb243)); have n3_ := Aside0.mk ((by rw [hg]; exact (below_size (by repeat (first | (with_reducible first | exact HB.out | apply below_alloc | apply pw_below_drewN | apply below_drew1) | exact HB.out))) : w.heap.size ≤ gb243)); clear HB; have HB := n0_; have BK243 := n1_; have GW243 := n2_; have GE243 := n3_; clear n0_ n1_ n2_ n3_; clear hb hbox hg; have hcz5_0 : w4.cell? ⟨gb243, 0, none⟩ = some (.int .i64 a0_0) := (blk_cell BK243.out 0).trans rfl; have hcz5_1 : w4.cell? ⟨gb243, 1, none⟩ = some (.string a0_1) := (blk_cell BK243.out 1).trans rfl; have hcz5_2 : w4.cell? ⟨gb243, 2, none⟩ = some (.string a0_2) := (blk_cell BK243.out 2).trans rfl; have hcz5_3 : w4.cell? ⟨gb243, 3, none⟩ = some (.string a0_3) := (blk_cell BK243.out 3).trans rfl; have hcz5_4 : w4.cell? ⟨gb243, 4, none⟩ = some (.int .i64 a0_4) := (blk_cell BK243.out 4).trans rfl; have hfz5_0 := blk_frozen BK243.out 0; have hfz5_1 := blk_frozen BK243.out 1; have hfz5_2 := blk_frozen BK243.out 2; have hfz5_3 := blk_frozen BK243.out 3; have hfz5_4 := blk_frozen BK243.out 4))
      go_ret
      exact ⟨by first | rfl | (simp [errW_none, errW_some] <;> rfl) | (simp [*, errW_none, errW_some] <;> rfl), by repeat (first | (with_reducible first | exact HB.out | apply below_alloc | apply pw_below_drewN | apply below_drew1 | refine below_set ?_ GE243.out) | exact HB.out)⟩
    · rw [if_neg c3] at H
      have c3b0 : decide ((a0_2.size : Int) ≤ 200) = false := decide_eq_false c3
      have c3b1 : decide (a0_2.size ≤ 200) = false := decide_eq_false (by omega)
      clear c3
      obtain rfl := Option.some.inj H
      go_enter Tryd.func21, Tryd.ntmps21
      go_wp2_with (first | ((with_reducible refine gate_dst (N := 1) rfl ?_); (try (refine gate_guard (by rfl) ?_; dsimp only)); refine box_event ?hg (N := 1) ?hd (cs := #[.int .i64 a0_0, .string a0_1, .string a0_2, .string a0_3, .int .i64 a0_4]) (t := 41) ?hr ?_; (case hd => rfl); (case hg => rfl); (case hr => first | (go_simp; done) | (go_simp; rfl)); intro gb243 hg w6 hbox hb; have n0_ := Aside0.mk (below_step (by repeat (first | (with_reducible first | exact HB.out | apply below_alloc | apply pw_below_drewN | apply below_drew1) | exact HB.out)) hb); have n1_ := Aside0.mk (hbox); have n2_ := Aside0.mk ((by rw [hg]; exact (below_size (by repeat (first | (with_reducible first | exact HB.out | apply below_alloc | apply pw_below_drewN | apply below_drew1) | exact HB.out))) : w.heap.size ≤ gb243)); have n3_ := Aside0.mk ((by rw [hg]; exact (below_size (by repeat (first | (with_reducible first | exact HB.out | apply below_alloc | apply pw_below_drewN | apply below_drew1) | exact HB.out))) : w.heap.size ≤ gb243)); clear HB; have HB := n0_; have BK243 := n1_; have GW243 := n2_; have GE243 := n3_; clear n0_ n1_ n2_ n3_; clear hb hbox hg; have hcz7_0 : w6.cell? ⟨gb243, 0, none⟩ = some (.int .i64 a0_0) := (blk_cell BK243.out 0).trans rfl; have hcz7_1 : w6.cell? ⟨gb243, 1, none⟩ = some (.string a0_1) := (blk_cell BK243.out 1).trans rfl; have hcz7_2 : w6.cell? ⟨gb243, 2, none⟩ = some (.string a0_2) := (blk_cell BK243.out 2).trans rfl; have hcz7_3 : w6.cell? ⟨gb243, 3, none⟩ = some (.string a0_3) := (blk_cell BK243.out 3).trans rfl; have hcz7_4 : w6.cell? ⟨gb243, 4, none⟩ = some (.int .i64 a0_4) := (blk_cell BK243.out 4).trans rfl; have hfz7_0 := blk_frozen BK243.out 0; have hfz7_1 := blk_frozen BK243.out 1; have hfz7_2 := blk_frozen BK243.out 2; have hfz7_3 := blk_frozen BK243.out 3; have hfz7_4 := blk_frozen BK243.out 4))
      go_ret
      exact ⟨by first | rfl | (simp [errW_none, errW_some] <;> rfl) | (simp [*, errW_none, errW_some] <;> rfl), by repeat (first | (with_reducible first | exact HB.out | apply below_alloc | apply pw_below_drewN | apply below_drew1 | refine below_set ?_ GE243.out) | exact HB.out)⟩
  · rw [if_neg c2] at H
    have c2b0 : decide ((a0_1.size : Int) ≤ 200) = false := decide_eq_false c2
    have c2b1 : decide (a0_1.size ≤ 200) = false := decide_eq_false (by omega)
    clear c2
    obtain rfl := Option.some.inj H
    go_enter Tryd.func21, Tryd.ntmps21
    go_wp2_with (first | ((with_reducible refine gate_dst (N := 1) rfl ?_); (try (refine gate_guard (by rfl) ?_; dsimp only)); refine box_event ?hg (N := 1) ?hd (cs := #[.int .i64 a0_0, .string a0_1, .string a0_2, .string a0_3, .int .i64 a0_4]) (t := 41) ?hr ?_; (case hd => rfl); (case hg => rfl); (case hr => first | (go_simp; done) | (go_simp; rfl)); intro gb243 hg w8 hbox hb; have n0_ := Aside0.mk (below_step (by repeat (first | (with_reducible first | exact HB.out | apply below_alloc | apply pw_below_drewN | apply below_drew1) | exact HB.out)) hb); have n1_ := Aside0.mk (hbox); have n2_ := Aside0.mk ((by rw [hg]; exact (below_size (by repeat (first | (with_reducible first | exact HB.out | apply below_alloc | apply pw_below_drewN | apply below_drew1) | exact HB.out))) : w.heap.size ≤ gb243)); have n3_ := Aside0.mk ((by rw [hg]; exact (below_size (by repeat (first | (with_reducible first | exact HB.out | apply below_alloc | apply pw_below_drewN | apply below_drew1) | exact HB.out))) : w.heap.size ≤ gb243)); clear HB; have HB := n0_; have BK243 := n1_; have GW243 := n2_; have GE243 := n3_; clear n0_ n1_ n2_ n3_; clear hb hbox hg; have hcz9_0 : w8.cell? ⟨gb243, 0, none⟩ = some (.int .i64 a0_0) := (blk_cell BK243.out 0).trans rfl; have hcz9_1 : w8.cell? ⟨gb243, 1, none⟩ = some (.string a0_1) := (blk_cell BK243.out 1).trans rfl; have hcz9_2 : w8.cell? ⟨gb243, 2, none⟩ = some (.string a0_2) := (blk_cell BK243.out 2).trans rfl; have hcz9_3 : w8.cell? ⟨gb243, 3, none⟩ = some (.string a0_3) := (blk_cell BK243.out 3).trans rfl; have hcz9_4 : w8.cell? ⟨gb243, 4, none⟩ = some (.int .i64 a0_4) := (blk_cell BK243.out 4).trans rfl; have hfz9_0 := blk_frozen BK243.out 0; have hfz9_1 := blk_frozen BK243.out 1; have hfz9_2 := blk_frozen BK243.out 2; have hfz9_3 := blk_frozen BK243.out 3; have hfz9_4 := blk_frozen BK243.out 4))
    go_ret
    exact ⟨by first | rfl | (simp [errW_none, errW_some] <;> rfl) | (simp [*, errW_none, errW_some] <;> rfl), by repeat (first | (with_reducible first | exact HB.out | apply below_alloc | apply pw_below_drewN | apply below_drew1 | refine below_set ?_ GE243.out) | exact HB.out)⟩
end Go.Proofs.YtejecmjajdhiiaaDoor.Print
/-! ### LgKp -/
namespace Go.Proofs.YtejecmjajdhiiaaDoor.Print
open Go.RowKit Go.Proofs.YtejecmjajdhiiaaDoorW.PrintWords Go.Proofs.YtejecmjajdhiiaaDoorW.PrintLast Go.Proofs.YtejecmjajdhiiaaDoorW.PrintMore
set_option linter.unusedSimpArgs false
set_option linter.unusedVariables false
theorem chargeM_cases (l : List S25) (a b : ByteArray) (n : Int) : (∃ e, e ≠ 0 ∧ chargeM l a b n = ([], e)) ∨
    (∃ (k : Nat) (y : S25), Good l ∧ nameB b = true ∧ l[k]? = some y ∧ 1 ≤ n ∧ sumL y.f2 + n ≤ y.f1 ∧ (pourM y.f2 ⟨b, n⟩).length ≤ 5 ∧ chargeM l a b n = (l.set k (turned y (pourM y.f2 ⟨b, n⟩)), 0)) := by
  unfold chargeM
  by_cases hg : checkM l = 0 ∧ nameB b = true
  rotate_left
  · exact .inl ⟨1, by decide, by rw [if_neg hg]⟩
  rw [if_pos hg]
  rcases at_cases l a with ⟨_, h⟩ | ⟨k, y, h1, h2, h3⟩
  · exact .inl ⟨4, by decide, by rw [h]; rfl⟩
  rw [h3]
  show (∃ e, e ≠ 0 ∧ chargeV l k y b n = ([], e)) ∨ _
  by_cases hc : n < 1 ∨ y.f1 - sumL y.f2 < n
  · exact .inl ⟨130, by decide, by unfold chargeV; rw [if_pos hc]⟩
  by_cases h5 : 5 < (pourM y.f2 ⟨b, n⟩).length
  · exact .inl ⟨2, by decide, by unfold chargeV; rw [if_neg hc, if_pos h5]⟩
  · exact .inr ⟨k, y, (good_iff l).1 hg.1, hg.2, h2, by omega, by omega, by omega, by show chargeV l k y b n = _; unfold chargeV; rw [if_neg hc, if_neg h5]⟩
theorem moveM_cases (l : List S25) (hl : Lite l) (a b : ByteArray) (n : Int) : (∃ e, e ≠ 0 ∧ moveM l a b n = ([], e)) ∨
    (∃ (i k : Nat) (x y : S25), Good l ∧ k ≠ i ∧ l[i]? = some x ∧ l[k]? = some y ∧ 1 ≤ n ∧ n ≤ sumL x.f2 ∧ sumL y.f2 + n ≤ y.f1 ∧ (poursM y.f2 (takeM x.f2 n).2).length ≤ 5 ∧ moveM l a b n = (movedM l i k x y n, 0)) := by
  unfold moveM
  by_cases hg : checkM l = 0 ∧ a ≠ b
  rotate_left
  · exact .inl ⟨1, by decide, by rw [if_neg hg]⟩
  rw [if_pos hg]
  rcases at_cases l a with ⟨_, h⟩ | ⟨i, x, f1, hx, h1⟩
  · exact .inl ⟨4, by decide, by rw [h]; cases atV l b <;> rfl⟩
  rcases at_cases l b with ⟨_, h⟩ | ⟨k, y, f2, hy, h2⟩
  · exact .inl ⟨4, by decide, by rw [h, h1]; rfl⟩
  have hne : k ≠ i := find_ne (l := l) (a := a) (b := b) (by rw [find_lite hl, f1]) (by rw [find_lite hl, f2]) hg.2
  rw [h1, h2]
  show (∃ e, e ≠ 0 ∧ moveV l i x k y n = ([], e)) ∨ _
  by_cases hc : n < 1 ∨ sumL x.f2 < n ∨ y.f1 - sumL y.f2 < n
  · exact .inl ⟨130, by decide, by unfold moveV; rw [if_pos hc]⟩
  by_cases h5 : 5 < (poursM y.f2 (takeM x.f2 n).2).length
  · exact .inl ⟨2, by decide, by unfold moveV; rw [if_neg hc, if_pos h5]⟩
  · exact .inr ⟨i, k, x, y, (good_iff l).1 hg.1, hne, hx, hy, by omega, by omega, by omega, by omega, by show moveV l i x k y n = _; unfold moveV; rw [if_neg hc, if_neg h5]⟩
theorem pours_names : ∀ (o l : List S37), ∀ z ∈ poursM l o, (∃ q ∈ o, q.f0 = z.f0) ∨ ∃ q ∈ l, q.f0 = z.f0
  | [], l => fun z hz => .inr ⟨z, hz, rfl⟩
  | x :: o, l => fun z hz => by
    rcases pours_names o (pourM l x) z hz with ⟨q, h1, h2⟩ | ⟨q, h1, h2⟩
    · exact .inl ⟨q, by simp [h1], h2⟩
    · rcases pour_names x l q h1 with h | ⟨r, h3, h4⟩
      · exact .inl ⟨x, by simp, by rw [← h2, h]⟩
      · exact .inr ⟨r, h3, by rw [h4, h2]⟩
def nameO (o : S41) : Bool := decide (o.f1.size ≤ 200) && decide (o.f2.size ≤ 200) && decide (o.f3.size ≤ 200)
theorem names_is (o : S41) : malthouselaw13_names.f o.f0 o.f1 o.f2 o.f3 o.f4 = some (nameO o) := by
  unfold malthouselaw13_names.f nameO
  by_cases h1 : o.f1.size ≤ 200
  · rw [if_pos (by omega)]
    by_cases h2 : o.f2.size ≤ 200
    · rw [if_pos (by omega)]
      by_cases h3 : o.f3.size ≤ 200
      · simp [h1, h2, h3]; omega
      · simp [h1, h2, h3]; omega
    · rw [if_neg (by omega)]
      simp [h2]
  · rw [if_neg (by omega)]
    simp [h1]
end Go.Proofs.YtejecmjajdhiiaaDoor.Print
