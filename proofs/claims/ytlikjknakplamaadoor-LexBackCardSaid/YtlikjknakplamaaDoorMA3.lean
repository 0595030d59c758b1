import Derived.Test.YtlikjknakplamaaDoorMA2
import Derived.Below
import Derived.ChangeOld
import Derived.Handed
import Derived.LaidLaws
import Derived.LaidOnce
import Derived.LaidSub
import Derived.Lay
import Derived.Lib.LaidTab
import Derived.Lib.LaidU8T
import Derived.OpenShut
import Derived.PinnedBridge
import Derived.ProofKit
import Derived.SevenTiedAt
import Derived.Shelf.Lay
import Derived.ShutString
import Derived.SizedLaws
import Derived.Test.YtlikjknakplamaaDoorCards
import Derived.Test.YtlikjknakplamaaDoorRows
import Derived.Test.YtlikjknakplamaaDoorTie
import Derived.WalkKit
set_option linter.unusedVariables false
set_option linter.unusedSimpArgs false
namespace Go.Proofs.YtlikjknakplamaaDoorW.PrintWords
end Go.Proofs.YtlikjknakplamaaDoorW.PrintWords
namespace Go.Proofs.YtlikjknakplamaaDoorW.PrintLast
end Go.Proofs.YtlikjknakplamaaDoorW.PrintLast
namespace Go.Proofs.YtlikjknakplamaaDoorW.PrintMore
end Go.Proofs.YtlikjknakplamaaDoorW.PrintMore
/-! ### LxLaw5 -/
namespace Go.Proofs.YtlikjknakplamaaDoor.Print
open Go.RowKit Go.Proofs.YtlikjknakplamaaDoorW.PrintWords Go.Proofs.YtlikjknakplamaaDoorW.PrintLast Go.Proofs.YtlikjknakplamaaDoorW.PrintMore Go.Lib
set_option linter.unusedSimpArgs false
set_option linter.unusedVariables false
theorem odd_str : ∀ (b a : List Nat) (f : Nat), (∀ r ∈ b, okR r) → (txt b).length ≤ f → oddFrom (str (a ++ b)) f (txt a).length = b.any fun r => decide (r < 32) || decide (r = 34)
  | [], a, f, _, _ => by
    rw [oddFrom_end _ _ _ (by rw [str_size, List.append_nil]; omega)]
    rfl
  | r :: b, a, f, h, hf => by
    have hr := h r List.mem_cons_self
    have hl := (enc_len r).1
    rw [txt_len_cons] at hf
    obtain ⟨f, rfl⟩ : ∃ m, f = m + 1 := ⟨f - 1, by omega⟩
    unfold oddFrom
    rw [if_pos (by rw [str_size, txt_len_append, txt_len_cons]; omega), decode_str a r b hr]
    have := odd_str b (a ++ [r]) f (fun r hr => h r (List.mem_cons_of_mem _ hr)) (by omega)
    rw [List.append_assoc, txt_len_append, txt_len_cons, txt_nil] at this
    simp only [List.length_nil, Nat.add_zero, List.singleton_append] at this
    rw [this, List.any_cons]
theorem str_append (a b : List Nat) : str (a ++ b) = str a ++ str b := by
  apply ByteArray.ext
  apply Array.toList_inj.1
  rw [ByteArray.data_append, Array.toList_append, str_list, str_list, str_list, txt_append]
/-- One token and the end. -/
theorem cut_one (rs : List Nat) (hok : ∀ r ∈ rs, okR r) (hs : (str rs).size ≤ 8192) (h0 : blanksN false rs = 0) (hne : rs ≠ []) (he : (tokR rs).2.2 = 0) (hl : (tokR rs).2.1 = rs.length) :
    lex_Cut.f (str rs) = some ([sTok ((tokR rs).1, 0), sTok (noTokR, rs.length)], 0, 0) := by
  rw [cut_some _ (by omega), cut_valid rs hok hs]
  unfold cutR
  rw [lex_one rs h0 hne he hl]
  simp only
  rw [if_pos trivial]
  rfl
theorem name_lex (s : ByteArray) (h : nameB s = true) (hs : s.size ≤ 8192) : ∃ rs n, s = str rs ∧ lex_Cut.f s = some ([sTok ((1, rs, 0), 0), sTok (noTokR, n)], 0, 0) := by
  have hv : validD s.data.toList = true := by unfold nameB at h; simp only [Bool.and_eq_true] at h; exact h.1.1.1
  obtain ⟨rs, hok, hl⟩ := valid_runes s.data.toList hv
  obtain rfl := str_of hl
  unfold nameB at h
  simp only [Bool.and_eq_true, decide_eq_true_eq] at h
  obtain ⟨⟨⟨_, hw⟩, hd⟩, hc⟩ := h
  rw [count_is rs hok] at hc
  unfold wordyB at hw
  simp only [Bool.and_eq_true, decide_eq_true_eq] at hw
  have hall := wordy_str rs [] (str rs).size hok (by rw [str_size]; exact Nat.le_refl _)
  rw [txt_nil, List.length_nil, List.nil_append] at hall
  rw [hall] at hw
  cases rs with
  | nil => rw [str_size] at hw; exact absurd hw.2 (by simp [txt])
  | cons r t =>
    have hwr : isW r = true := by have := hw.1; rw [List.all_cons, Bool.and_eq_true] at this; exact this.1
    have hcl : classZ r = 2 := by
      have h2 : wordyZ (r : Int) = true := hwr
      unfold wordyZ at h2
      simp only [Bool.or_eq_true, beq_iff_eq] at h2
      rcases h2 with h2 | h2
      · exact h2
      · exfalso
        have h3 := class_three h2
        have hb : byteAt (str (r :: t)) 0 = r := first_small r t (by omega)
        rw [hb] at hd
        simp only [Bool.or_eq_true, decide_eq_true_eq] at hd
        omega
    have htw : (r :: t).takeWhile isW = r :: t := takeWhile_whole isW _ hw.1
    have htk : tokR (r :: t) = ((1, r :: t, 0), (r :: t).length, 0) := by
      rw [tokR_cons, if_pos hcl, htw, if_neg (by omega)]
    refine ⟨r :: t, (r :: t).length, rfl, ?_⟩
    rw [cut_one (r :: t) hok hs (no_blanks r t (by rw [hcl]; decide) (by rw [hcl]; decide)) (by simp) (by rw [htk]) (by rw [htk]), htk]
theorem quote_lex (s : ByteArray) (h : (quoteZ s).2 = true) (hs : s.size ≤ 8000) : ∃ rs n, s = str rs ∧ lex_Cut.f (quoteZ s).1 = some ([sTok ((3, rs, 0), 0), sTok (noTokR, n)], 0, 0) := by
  unfold quoteZ at h ⊢
  by_cases c1 : validD s.data.toList = false
  · rw [if_pos c1] at h; cases h
  · simp only [if_neg c1] at h ⊢
    by_cases c2 : 20 < runeCount s
    · rw [if_pos c2] at h; cases h
    · simp only [if_neg c2] at h ⊢
      by_cases c3 : oddFrom s s.size 0 = true
      · rw [if_pos c3] at h; cases h
      · simp only [if_neg c3]
        obtain ⟨rs, hok, hl⟩ := valid_runes s.data.toList (by simpa using c1)
        obtain rfl := str_of hl
        have ho := odd_str rs [] (str rs).size hok (by rw [str_size]; exact Nat.le_refl _)
        rw [txt_nil, List.length_nil, List.nil_append] at ho
        rw [ho] at c3
        rw [count_is rs hok] at c2
        have hno : ∀ r ∈ rs, ¬ r < 32 ∧ r ≠ 34 := fun r hr => by
          have := fun h => c3 (List.any_eq_true.2 ⟨r, hr, h⟩)
          simp at this
          exact ⟨by omega, this.2⟩
        have e : (⟨#[34]⟩ : ByteArray) ++ str rs ++ (⟨#[34]⟩ : ByteArray) = str (34 :: (rs ++ [34])) := by
          have e1 : (⟨#[34]⟩ : ByteArray) = str [34] := by
            unfold str
            rw [show txt [34] = [34] by rw [txt_cons, enc_small 34 (by omega)]; rfl]
          rw [e1, ← str_append, ← str_append]
          rfl
        have ht : textR (rs ++ 34 :: []) = ((3, rs, 0), rs.length + 2, 0) := textR_of rs []
          (List.all_eq_true.2 fun r hr => by have := hno r hr; simp; omega) (List.all_eq_true.2 fun r hr => by have := hno r hr; simp; omega)
          (by rw [List.any_eq_false]; intro r hr; have := hno r hr; simp; omega) (by omega)
        have htk : tokR (34 :: (rs ++ [34])) = ((3, rs, 0), rs.length + 2, 0) := by
          rw [tokR_cons, if_neg (by decide), if_neg (by decide), if_pos (by decide)]
          exact ht
        have hok2 : ∀ r ∈ 34 :: (rs ++ [34]), okR r := by
          intro r hr
          rcases List.mem_cons.1 hr with rfl | hr
          · exact ok_small 34 (by omega)
          · rcases List.mem_append.1 hr with hr | hr
            · exact hok r hr
            · obtain rfl := List.mem_singleton.1 hr
              exact ok_small 34 (by omega)
        refine ⟨rs, (34 :: (rs ++ [34])).length, rfl, ?_⟩
        rw [e, cut_one _ hok2 (by rw [← e, ByteArray.size_append, ByteArray.size_append]; show 1 + _ + 1 ≤ _; omega) (no_blanks 34 _ (by decide) (by decide)) (by simp) (by rw [htk]) (by rw [htk]; simp), htk]
theorem show_lex (n : Int) (h0 : 0 ≤ n) (h1 : n ≤ 9223372036854775807) : ∃ rs m, lex_Cut.f (showZ n) = some ([sTok ((2, rs, n), 0), sTok (noTokR, m)], 0, 0) := by
  obtain ⟨u, rfl⟩ : ∃ u : Nat, n = u := ⟨n.toNat, by omega⟩
  have e : showR (u : Int) = digs u := by
    unfold showR
    rw [if_neg (by omega)]
    rfl
  rw [showZ_str, e]
  have hd := digs_digit u
  have hn := digs_numR u (by omega)
  have hlen : (digs u).length ≤ 20 := by
    by_cases hu : 1 ≤ u
    · obtain ⟨k1, k2, _⟩ := digs_len u hu
      rcases Nat.lt_or_ge 20 (digs u).length with h | h
      · exfalso
        have : 10 ^ 20 ≤ 10 ^ ((digs u).length - 1) := Nat.pow_le_pow_right (by omega) (by omega)
        have e20 : (10 : Nat) ^ 20 = 100000000000000000000 := by decide
        omega
      · exact h
    · rw [digs_small u (by omega)]; simp
  have hne := digs_ne u
  have hsz : (str (digs u)).size ≤ 8192 := by
    rw [str_size, txt_small _ (fun r hr => by have := hd r hr; omega)]
    omega
  have hok := digs_ok u
  cases hx : digs u with
  | nil => exact absurd hx hne
  | cons r t =>
    rw [hx] at hd hn hok hsz
    have hc : ∀ x ∈ r :: t, classZ (x : Int) = 3 := fun x hxm => class_digit x (hd x hxm).1 (hd x hxm).2
    have hcr := hc r List.mem_cons_self
    have htw : (r :: t).takeWhile isW = r :: t := takeWhile_whole isW _ (List.all_eq_true.2 fun x hxm => wordy_three (hc x hxm))
    have htk : tokR (r :: t) = ((2, r :: t, (u : Int)), (r :: t).length, 0) := by
      rw [tokR_cons, if_neg (by rw [hcr]; decide), if_pos hcr, htw, hn, if_pos rfl]
    refine ⟨r :: t, (r :: t).length, ?_⟩
    rw [cut_one (r :: t) hok hsz (no_blanks r t (by rw [hcr]; decide) (by rw [hcr]; decide)) (by simp) (by rw [htk]) (by rw [htk]), htk]
theorem rd_zero (a b : S38) : rd_T38 [a, b] 0 = a := rfl
theorem lexWords_pure (a0 : ByteArray) (a1 : Int) (h1 : a1 ≤ 9223372036854775807) : malthouselaw01_LexWords.f 10 a0 a1 = some true := by
  unfold malthouselaw01_LexWords.f malthouselaw01_awake.f
  simp only [Option.bind_some]
  by_cases hs : (a0.size : Int) > 100
  · rw [if_pos hs]
  · rw [if_neg hs, lex_name_is a0 (by omega)]
    simp only [Option.bind_some]
    have j1 : ∀ k : Nat, malthouselaw01_LexWords.j1 (k + 1) a1 true = some true := by
      intro k
      rw [malthouselaw01_LexWords.j1]
      by_cases hn : a1 ≥ 0
      · obtain ⟨rs, m, hc⟩ := show_lex a1 hn h1
        have hsh : lex_Show.f a1 = some (showZ a1) := if_pos ⟨by omega, h1⟩
        rw [if_pos hn, hsh]
        simp only [Option.bind_some]
        rw [hc]
        simp [rd_zero, sTok]
      · rw [if_neg hn]
    have j0 : ∀ k : Nat, malthouselaw01_LexWords.j0 (k + 1 + 1) a0 a1 true = some true := by
      intro k
      have hq : lex_Quote.f a0 = some (quoteZ a0) := if_pos (by omega)
      rw [malthouselaw01_LexWords.j0, hq]
      simp only [Option.bind_some]
      by_cases hb : (quoteZ a0).2 = true
      · obtain ⟨rs, n, e, hc⟩ := quote_lex a0 hb (by omega)
        rw [if_pos hb, hc]
        simp [rd_zero, sTok, ← e, j1]
      · rw [if_neg hb, j1]
    by_cases hn : nameB a0 = true
    · obtain ⟨rs, n, e, hc⟩ := name_lex a0 hn (by omega)
      rw [if_pos hn, hc]
      simp [rd_zero, sTok, ← e, j0]
    · rw [if_neg hn, j0]
theorem sum_bound (f : S38 → Nat) (B : Nat) : ∀ l : List S38, (∀ x ∈ l, f x ≤ B) → (l.map f).sum ≤ l.length * B
  | [], _ => by simp
  | x :: l, h => by
    have h1 := h x List.mem_cons_self
    have h2 := sum_bound f B l (fun y hy => h y (List.mem_cons_of_mem _ hy))
    rw [List.map_cons, List.sum_cons, List.length_cons, Nat.succ_mul]
    omega
theorem join_str : ∀ (l : List (TokR × Nat)) (a : List Nat), joinZ (str a) (l.map sTok) = str (a ++ joinR l)
  | [], a => by
    show str a = _
    rw [show joinR [] = [] from rfl, List.append_nil]
  | x :: l, a => by
    have e34 : (⟨#[34]⟩ : ByteArray) = str [34] := by unfold str; rw [show txt [34] = [34] by rw [txt_cons, enc_small 34 (by omega)]; rfl]
    have e32 : (⟨#[32]⟩ : ByteArray) = str [32] := by unfold str; rw [show txt [32] = [32] by rw [txt_cons, enc_small 32 (by omega)]; rfl]
    have e3432 : (⟨#[34, 32]⟩ : ByteArray) = str [34, 32] := by unfold str; rw [show txt [34, 32] = [34, 32] by rw [txt_cons, txt_cons, enc_small 34 (by omega), enc_small 32 (by omega)]; rfl]
    have hs : jStep (str a) (sTok x) = str (a ++ (piece x.1 ++ [32])) := by
      unfold jStep piece
      show (if x.1.1 = 3 then ((str a ++ (⟨#[34]⟩ : ByteArray)) ++ str x.1.2.1) ++ (⟨#[34, 32]⟩ : ByteArray) else (str a ++ str x.1.2.1) ++ (⟨#[32]⟩ : ByteArray)) = _
      by_cases h : x.1.1 = 3
      · rw [if_pos h, if_pos h, e34, e3432, ← str_append, ← str_append, ← str_append]
        congr 1
        simp
      · rw [if_neg h, if_neg h, e32, ← str_append, ← str_append]
        congr 1
        simp
    rw [List.map_cons]
    show joinZ (jStep (str a) (sTok x)) (l.map sTok) = _
    rw [hs, join_str l, joinR_cons]
    congr 1
    simp
theorem back_loop (l m : List (TokR × Nat)) (hlm : m.map Prod.fst = l.map Prod.fst) (hl : l.length ≤ 1000000000) : ∀ (f i k : Nat), l.length ≤ i + f → i ≤ l.length → f < k → malthouselaw01_LexBack.l0 k (l.map sTok) (m.map sTok) (i : Int) = some true := by
  have hlen : (l.map sTok).length = l.length := by simp
  have hml : m.length = l.length := by have := congrArg List.length hlm; simpa using this
  have hlen2 : (m.map sTok).length = l.length := by simpa using hml
  intro f
  induction f with
  | zero =>
    intro i k h1 h2 hk
    obtain ⟨k, rfl⟩ : ∃ m, k = m + 1 := ⟨k - 1, by omega⟩
    rw [malthouselaw01_LexBack.l0, hlen, if_neg (by omega)]
  | succ f ih =>
    intro i k h1 h2 hk
    obtain ⟨k, rfl⟩ : ∃ m, k = m + 1 := ⟨k - 1, by omega⟩
    by_cases hi : i < l.length
    · have hm : i < m.length := by omega
      have e : m[i].1 = l[i].1 := by
        have := congrArg (fun x => x[i]?) hlm
        simp only [List.getElem?_map, List.getElem?_eq_getElem hi, List.getElem?_eq_getElem hm, Option.map_some] at this
        exact Option.some.inj this
      rw [malthouselaw01_LexBack.l0, hlen, hlen2, if_pos (by omega), if_pos (by omega), if_pos (by omega), rd_tok l i hi, rd_tok m i hm]
      have e0 : (sTok l[i]).f0 = (sTok m[i]).f0 := by unfold sTok; rw [e]
      have e1 : (sTok l[i]).f1 = (sTok m[i]).f1 := by unfold sTok; rw [e]
      have e2 : (sTok l[i]).f2 = (sTok m[i]).f2 := by unfold sTok; rw [e]
      rw [if_pos e0, if_pos (by rw [e1]), if_pos e2, wrap_small _ (by omega) (by omega), show (i : Int) + 1 = ((i + 1 : Nat) : Int) by omega]
      exact ih (i + 1) k (by omega) (by omega) (by omega)
    · rw [malthouselaw01_LexBack.l0, hlen, if_neg (by omega)]
theorem lexBack_pure (a0 : ByteArray) : malthouselaw01_LexBack.f 10000 a0 = some true := by
  unfold malthouselaw01_LexBack.f malthouselaw01_awake.f
  simp only [Option.bind_some]
  by_cases hs : (a0.size : Int) > 3000
  · rw [if_pos hs]
  · rw [if_neg hs, cut_some a0 (by omega)]
    simp only [Option.bind_some, if_true]
    have hj : ∀ (k : Nat) (l : List S38), malthouselaw01_LexBack.j0 (k + 1) true l true = some true := by
      intro k l
      rw [malthouselaw01_LexBack.j0, if_pos rfl]
    rcases text_cases a0 with ⟨rs, hok, rfl⟩ | ⟨rs, t, hok, ht, rfl⟩
    · have hsz := str_size rs
      have hle := txt_len rs
      rw [cut_valid rs hok (by omega)]
      unfold cutR
      by_cases he : (lex rs 0 0).2.1 = 0
      · rw [if_pos he]
        simp only
        rw [toks_map]
        obtain ⟨j1, j2⟩ := lex_joined rs.length rs 0 0 0 (Nat.le_refl _) he
        have j3 := joined_len rs.length rs 0 0 (Nat.le_refl _) he
        obtain ⟨j4, j5⟩ := joined_ok rs.length rs 0 0 (Nat.le_refl _) hok
        have j6 := lex_len rs.length rs 0 0 (Nat.le_refl _)
        generalize (lex rs 0 0).1 = l at *
        have hsum : jSize (l.map sTok) ≤ (l.map sTok).length * 3003 := by
          unfold jSize
          refine sum_bound _ 3003 _ (fun x hx => ?_)
          obtain ⟨y, hy, rfl⟩ := List.mem_map.1 hx
          have := j5 y hy
          show (str y.1.2.1).size + 3 ≤ 3003
          rw [str_size]
          omega
        have hJ : malthouselaw01_Joined.f (l.map sTok) = some (str (joinR l)) := by
          unfold malthouselaw01_Joined.f
          rw [if_pos ⟨by rw [List.length_map] at hsum; omega, by rw [List.length_map]; omega⟩]
          have := join_str l []
          rw [List.nil_append] at this
          rw [← this]
          rfl
        have hJs := str_size (joinR l)
        have hcut : lex_Cut.f (str (joinR l)) = some ((lex (joinR l) 0 0).1.map sTok, 0, 0) := by
          rw [cut_some _ (by omega), cut_valid _ j4 (by omega)]
          unfold cutR
          rw [if_pos j1]
          simp only
          rw [toks_map]
        have hlen : ((lex (joinR l) 0 0).1.map sTok).length = (l.map sTok).length := by
          have := congrArg List.length j2
          simpa using this
        show malthouselaw01_LexBack.j0 (9999 + 1) true (l.map sTok) false = some true
        rw [malthouselaw01_LexBack.j0, if_neg (by simp), hJ]
        simp only [Option.bind_some]
        rw [hcut]
        simp only [Option.bind_some]
        rw [if_pos trivial, hlen, malthouselaw01_LexBack.j1, if_neg (by simp)]
        exact back_loop l (lex (joinR l) 0 0).1 j2 (by omega) l.length 0 9998 (by omega) (by omega) (by omega)
      · rw [if_neg he]
        simp only
        have hb : ((lex rs 0 0).2.1 != 0) = true := by simpa using he
        rw [hb]
        exact hj 9999 _
    · have hsz := strT_size rs t
      rw [cut_bad rs t hok ht (by omega)]
      exact hj 9999 _
end Go.Proofs.YtlikjknakplamaaDoor.Print
/-! ### LxWalk5 -/
namespace Go.Proofs.YtlikjknakplamaaDoor.Print
open Go.RowKit Go.Proofs.YtlikjknakplamaaDoorW.PrintWords Go.Proofs.YtlikjknakplamaaDoorW.PrintLast Go.Proofs.YtlikjknakplamaaDoorW.PrintMore
theorem lexPlaces_walk (a0 : ByteArray) (w : World) (w0 : a0.size ≤ 140737488351232) (hT : Tabs w) :
    Calls Tryd.prog 7 #[.string a0] w fun e w' => e = .returned (.bool true) ∧ Below w.heap.size w w' :=
  malthouselaw01_LexPlaces.calls 20000 a0 true w hT (lexPlaces_pure a0)
theorem lexWords_walk (a0 : ByteArray) (a1 : Int) (w : World) (w0 : a0.size ≤ 140737488351232) (w1 : (Lit.int .i64 a1).wf = true) (hT : Tabs w) :
    Calls Tryd.prog 11 #[.string a0, .int .i64 a1] w fun e w' => e = .returned (.bool true) ∧ Below w.heap.size w w' :=
  malthouselaw01_LexWords.calls 10 a0 a1 true w hT (lexWords_pure a0 a1 (wf_i64 w1).2)
theorem lexBack_walk (a0 : ByteArray) (w : World) (w0 : a0.size ≤ 140737488351232) (hT : Tabs w) :
    Calls Tryd.prog 6 #[.string a0] w fun e w' => e = .returned (.bool true) ∧ Below w.heap.size w w' :=
  malthouselaw01_LexBack.calls 10000 a0 true w hT (lexBack_pure a0)
end Go.Proofs.YtlikjknakplamaaDoor.Print
/-! ### Tied -/
namespace Go.Proofs.YtlikjknakplamaaDoor
open Go Go.RowKit Go.Shelf Go.Lib
set_option linter.unusedVariables false
theorem returnsInHanded_of_change_and_shaped {H : Type} {enc : TypeId × Value → H} {a : Assume} {C : Checked} {os : Os} {f : FuncId} {fn : Func} {s : ChangeSpec} {conds : List PathCond} {apart fresh handsOn again : Bool} {X : World → Array Value → Prop}
    (hX : ∀ (w w' : World) (args : Array Value), w.heap = w'.heap → X w args → X w' args)
    (own : ownKnob C.prog.godebug = none) (started : os.Started) (noInit : C.prog.inits.idxOf? f = none) (hfn : C.prog.funcs[f]? = some fn)
    (witness : ∃ (w : World) (tape : Tape) (i : Input), w.os = os ∧ (w.forCall tape i).Shaped C.prog ∧ i.vars = [] ∧ Input.okWide C.prog (w.forCall tape i) .any w.heap.size f i ∧
      ((s.pre enc C.prog fn conds apart (w.forCall tape i).memory i.args ∧ X (w.forCall tape i).memory i.args) ∧ sizedMet enc C.prog fn (OpenSpec.ofChange s) apart (w.forCall tape i).memory i.args) ∧ a.holds C.prog (lone (Frame.enter C.prog f i.args .normal) [] (w.forCall tape i)))
    (contract : ∀ (W : World) (base : Nat) (args : Array Value) (ds gs : List (DataW H)) (before : List MemPlace),
      (∀ (j : Nat) t v, fn.params[j]? = some t → args[j]? = some v → Value.okWide C.prog W .any base t v) →
      DataW.Whole enc C.prog fn.params.toList s.vars apart W args.toList ds gs before →
      conds.all (PathCond.test C.prog ⟨fn.params.toList, ds, s.plain.varTypes C.prog, gs⟩) = true →
      (DataW.weightsEach C.prog (fn.params.toList ++ s.plain.varTypes C.prog) (ds ++ gs)).all (· ≤ reachBytes) = true → X W args →
      W.ShapedOpen C.prog →
      a.holds C.prog (lone (Frame.enter C.prog f args .normal) [] W) →
      Calls C.prog f args W fun e W' => ∃ v, e = .returned v ∧ s.post enc C.prog fn apart fresh handsOn again W args v W') :
    ReturnsInHanded a C os f .any (fun w args => (s.pre enc C.prog fn conds apart w args ∧ X w args) ∧ sizedMet enc C.prog fn (OpenSpec.ofChange s) apart w args) (s.post enc C.prog fn apart fresh handsOn again) := by
  refine returnsInHanded_of_calls own started noInit witness ?_
  intro w tape i _ hsh _ hok hpre hholds
  obtain ⟨_, _, _, fn', hfn', _, _, _, _, hval⟩ := hok
  have e : fn' = fn := Option.some.inj (hfn'.symm.trans hfn)
  subst e
  obtain ⟨⟨⟨ds, gs, before, hw, hc⟩, hx⟩, hz⟩ := hpre
  have hw' := DataW.Whole.of_heap (w' := w.forCall tape i) (by rfl) hw
  refine (contract (w.forCall tape i) w.heap.size i.args ds gs before hval hw' hc (hz.weights hw) (hX _ _ _ (by rfl) hx) hsh hholds).mono fun e W' ⟨v, he, hp⟩ => ?_
  subst he
  exact ChangeSpec.post_blind hp
theorem tabs_of {W : World} (hL : laidMet Tryd.prog Rows.lexFoldsRow.laid W) (hsh : W.ShapedOpen Tryd.prog) : Tabs W := by
  refine ⟨?_, ?_, ?_⟩
  · exact utf8Tabs_of_readsT (U8Types.of196 Tryd.laysValid) ⟨by kernel_rfl, by kernel_rfl, by kernel_rfl, by kernel_rfl, by kernel_rfl, by kernel_rfl, by kernel_rfl⟩ (Pinned.utf8First_eq ▸ Lib.laidMet.reads hL (.tail _ (.tail _ (.tail _ (.tail _ (.head _)))))) ((show Rows.laid_unicode_utf8_acceptRanges = acceptData from rfl) ▸ Lib.laidMet.reads hL (.tail _ (.tail _ (.tail _ (.head _)))))
  · have h := laidMet.filter (fun x => x.1 == "internal/strconv.uint64pow10") hL
    exact tabIs_of_head (rest := []) (t := 84) (e := 59) (n := 20) (g := Tryd.laysM171_ren.g 17) pow_named (by kernel_rfl) (by kernel_rfl) (by kernel_rfl) (by kernel_rfl) (by kernel_rfl) (show laidMet Tryd.prog [("internal/strconv.uint64pow10", tabData .u64 pow10Tab)] W from h)
  · exact Tryd.laysM145.s1_3 W hsh
end Go.Proofs.YtlikjknakplamaaDoor
/-! ### LexPlacesRow -/
namespace Go.Proofs.YtlikjknakplamaaDoor.lexPlaces
open Go.ChangeShapes Go.WideShapes Go.ChangeAt Go.RowKit Go.Shelf Go.Lib Go.Proofs.YtlikjknakplamaaDoor.Print
open Go.ChangeMaps (open_string shut_string)
set_option linter.unusedVariables false
set_option linter.unusedSimpArgs false
theorem own : ownKnob Tryd.prog.godebug = none := by kernel_rfl
set_option maxRecDepth 100000 in
theorem lifted (os : Os) (started : os.Started) (H : Type) (enc : TypeId × Value → H) :
    ReturnsInHanded {} Tryd.checked os 7 .any (fun w args => (Rows.lexPlacesSpec.pre enc Tryd.prog Tryd.f7 [] false w args ∧ laidMetH Tryd.prog Rows.lexPlacesRow.laid w) ∧ sizedMet enc Tryd.prog Tryd.f7 (OpenSpec.ofChange Rows.lexPlacesSpec) false w args) (Rows.lexPlacesSpec.post enc Tryd.prog Tryd.f7 false true false false) := by
  refine returnsInHanded_of_change_and_shaped (C := Tryd.checked) (X := fun w _ => laidMetH Tryd.prog Rows.lexPlacesRow.laid w) (fun _ _ _ hh h => h.of_heap hh) own started (by kernel_rfl) Tryd.func7
    (ChangeSpec.witness_shaped (enc := enc) (C := Tryd.checked) (os := os) (X := fun w _ => laidMetH Tryd.prog Rows.lexPlacesRow.laid w) false (World.laidAll Tryd.prog os Rows.lexPlacesRow.laid) #[.string ByteArray.empty] 8 (World.laidAll_os _ _ _)
      (World.shaped_of_ZipB (by kernel_rfl) (by kernel_rfl)) (by kernel_rfl) (by kernel_rfl) (by kernel_rfl)
      (by rw [MakeChecks.laidMetH_plain _ _ _ (by kernel_rfl)]; exact laidMet_laidAll _ (by kernel_rfl) (by kernel_rfl))) ?_
  intro W base args ds gs before hval0 hW hcnd hsz0 hL0 hsh _
  have hL : laidMet Tryd.prog Rows.lexPlacesRow.laid W := by
    have h := hL0
    rw [MakeChecks.laidMetH_plain _ _ _ (by kernel_rfl)] at h
    exact h
  have hT : Tabs W := tabs_of (show laidMet Tryd.prog Rows.lexFoldsRow.laid W from hL) hsh
  have hsz : (DataW.weightsEach Tryd.prog (Tryd.f7.params.toList ++ Rows.lexPlacesSpec.plain.varTypes Tryd.prog) (ds ++ gs)).all (· ≤ reachBytes) = true := hsz0
  have hval : ∀ (j : Nat) t v, Tryd.f7.params[j]? = some t → args[j]? = some v → Value.okWide Tryd.prog W .any base t v := hval0
  have hW' := hW
  obtain ⟨p, q, hA0, hV, rfl, hfz, hnd⟩ := hW
  have hA : DataW.TrodAll enc Tryd.prog W 0 (fun _ => true) true Tryd.f7.params.toList args.toList ds p := hA0
  rw [Tryd.params7] at hA hval hsz
  obtain ⟨v0, vs0, d0, ds0, p0, q0, hargs, rfl, rfl, h0, r0⟩ := trodAll_cons hA
  obtain ⟨rfl, rfl, rfl⟩ := trodAll_nil r0
  obtain rfl : args = #[v0] := by cases args; simp_all
  obtain ⟨rfl, rfl⟩ := trodVars_none hV
  obtain ⟨a0, rfl, rfl, rfl, y0⟩ := open_string Tryd.underlying9 (hval 0 9 v0 rfl rfl) h0
  have w0 : a0.size ≤ 140737488351232 := by
    have z := sized_string hsz (j := 0) (t := 9) rfl rfl
    rw [Array.length_toList] at z
    exact z
  clear hA0 hval0 hsz0 hsz
  refine (lexPlaces_walk a0 W w0 hT).mono fun e W' ⟨he, bel⟩ => ?_
  subst he
  exact ⟨_, rfl, _, _, _, [], _, [], hW', trodAll_mk1 (shut_bool Tryd.underlying4 _), (trodAll_cons_mk (shut_string Tryd.underlying9 y0) trodAll_mk0), rfl, bel.frame _, fun h => by cases h⟩
theorem over : Rows.lexPlacesRow.holds Tryd.pinned (OpenSpec.ofChange Rows.lexPlacesSpec) :=
  OpenClaim.holds_of_wide 7 Tryd.f7 rfl rfl rfl rfl rfl rfl rfl ⟨rfl, rfl, rfl, rfl, rfl⟩ rfl rfl rfl rfl rfl (by kernel_rfl) Tryd.func7 (by kernel_rfl)
    (of_decide_eq_true (by kernel_rfl)) (by unfold Func.isWrapper; first | (rw [if_pos (by decide +kernel)]; kernel_rfl) | (rw [if_neg (by decide +kernel)]; exact ⟨rfl, rfl⟩))
    (fun os started H enc _ => lifted os started H enc)
theorem card_holds : Claim7.holds Tryd.pinned (.plain (OpenSpec.ofChange Rows.lexPlacesSpec)) Rows.lexPlacesCard :=
  Claim7.holds_tied_plain_at .later [] [.data, .data, .data, .data, .pinned] true (true, "2df379d0a8e382ae56a4a25da8425f329115bfa31b6102406861f16ecf271d0c") false over (fun _ h => by cases h) (by kernel_rfl) (fun _ h => by cases h) lexPlaces_row_tie rfl ⟨rfl, rfl⟩ (by kernel_rfl) rfl
    (fun f fn hf hfn => by
      obtain rfl : f = 7 := Option.some.inj ((show Tryd.prog.funcNamed "malthouse/malthouselaw01.LexPlaces" = some 7 by kernel_rfl).symm.trans hf) |>.symm
      obtain rfl : fn = Tryd.f7 := (Option.some.inj (Tryd.func7.symm.trans hfn)).symm
      exact ⟨by kernel_rfl, fun j t ht => by
        rw [Tryd.params7] at ht
        have hm : t ∈ [9] := by simpa using Array.mem_of_getElem? ht
        have hall : ([9].all fun u => !Tryd.prog.wantsStandIn u) = true := by kernel_rfl
        exact (show Tryd.prog.wantsStandIn t = false by simpa using List.all_eq_true.1 hall t hm)⟩)
    (by kernel_rfl)
theorem proved : Rows.LexPlacesCardSaid := card_holds
#print axioms proved
end Go.Proofs.YtlikjknakplamaaDoor.lexPlaces
namespace Go.Proofs.YtlikjknakplamaaDoor
/-- The card, under a short name, for the claim. -/
theorem lexPlaces_holds : Rows.LexPlacesCardSaid := lexPlaces.proved
end Go.Proofs.YtlikjknakplamaaDoor
/-! ### LexWordsRow -/
namespace Go.Proofs.YtlikjknakplamaaDoor.lexWords
open Go.ChangeShapes Go.WideShapes Go.ChangeAt Go.RowKit Go.Shelf Go.Lib Go.Proofs.YtlikjknakplamaaDoor.Print
open Go.ChangeMaps (open_string shut_string)
set_option linter.unusedVariables false
set_option linter.unusedSimpArgs false
theorem own : ownKnob Tryd.prog.godebug = none := by kernel_rfl
set_option maxRecDepth 100000 in
theorem lifted (os : Os) (started : os.Started) (H : Type) (enc : TypeId × Value → H) :
    ReturnsInHanded {} Tryd.checked os 11 .any (fun w args => (Rows.lexWordsSpec.pre enc Tryd.prog Tryd.f11 [] false w args ∧ laidMetH Tryd.prog Rows.lexWordsRow.laid w) ∧ sizedMet enc Tryd.prog Tryd.f11 (OpenSpec.ofChange Rows.lexWordsSpec) false w args) (Rows.lexWordsSpec.post enc Tryd.prog Tryd.f11 false true false false) := by
  refine returnsInHanded_of_change_and_shaped (C := Tryd.checked) (X := fun w _ => laidMetH Tryd.prog Rows.lexWordsRow.laid w) (fun _ _ _ hh h => h.of_heap hh) own started (by kernel_rfl) Tryd.func11
    (ChangeSpec.witness_shaped (enc := enc) (C := Tryd.checked) (os := os) (X := fun w _ => laidMetH Tryd.prog Rows.lexWordsRow.laid w) false (World.laidAll Tryd.prog os Rows.lexWordsRow.laid) #[.string ByteArray.empty, .int .i64 0] 8 (World.laidAll_os _ _ _)
      (World.shaped_of_ZipB (by kernel_rfl) (by kernel_rfl)) (by kernel_rfl) (by kernel_rfl) (by kernel_rfl)
      (by rw [MakeChecks.laidMetH_plain _ _ _ (by kernel_rfl)]; exact laidMet_laidAll _ (by kernel_rfl) (by kernel_rfl))) ?_
  intro W base args ds gs before hval0 hW hcnd hsz0 hL0 hsh _
  have hL : laidMet Tryd.prog Rows.lexWordsRow.laid W := by
    have h := hL0
    rw [MakeChecks.laidMetH_plain _ _ _ (by kernel_rfl)] at h
    exact h
  have hT : Tabs W := tabs_of (show laidMet Tryd.prog Rows.lexFoldsRow.laid W from hL) hsh
  have hsz : (DataW.weightsEach Tryd.prog (Tryd.f11.params.toList ++ Rows.lexWordsSpec.plain.varTypes Tryd.prog) (ds ++ gs)).all (· ≤ reachBytes) = true := hsz0
  have hval : ∀ (j : Nat) t v, Tryd.f11.params[j]? = some t → args[j]? = some v → Value.okWide Tryd.prog W .any base t v := hval0
  have hW' := hW
  obtain ⟨p, q, hA0, hV, rfl, hfz, hnd⟩ := hW
  have hA : DataW.TrodAll enc Tryd.prog W 0 (fun _ => true) true Tryd.f11.params.toList args.toList ds p := hA0
  rw [Tryd.params11] at hA hval hsz
  obtain ⟨v0, vs0, d0, ds0, p0, q0, hargs, rfl, rfl, h0, r0⟩ := trodAll_cons hA
  obtain ⟨v1, vs1, d1, ds1, p1, q1, rfl, rfl, rfl, h1, r1⟩ := trodAll_cons r0
  obtain ⟨rfl, rfl, rfl⟩ := trodAll_nil r1
  obtain rfl : args = #[v0, v1] := by cases args; simp_all
  obtain ⟨rfl, rfl⟩ := trodVars_none hV
  obtain ⟨a0, rfl, rfl, rfl, y0⟩ := open_string Tryd.underlying9 (hval 0 9 v0 rfl rfl) h0
  have w0 : a0.size ≤ 140737488351232 := by
    have z := sized_string hsz (j := 0) (t := 9) rfl rfl
    rw [Array.length_toList] at z
    exact z
  obtain ⟨a1, rfl, rfl, rfl, w1⟩ := open_int Tryd.underlying3 (hval 1 3 v1 rfl rfl) h1
  clear hA0 hval0 hsz0 hsz
  refine (lexWords_walk a0 a1 W w0 w1 hT).mono fun e W' ⟨he, bel⟩ => ?_
  subst he
  exact ⟨_, rfl, _, _, _, [], _, [], hW', trodAll_mk1 (shut_bool Tryd.underlying4 _), (trodAll_cons_mk (shut_string Tryd.underlying9 y0) (trodAll_cons_mk (shut_int Tryd.underlying3 w1) trodAll_mk0)), rfl, bel.frame _, fun h => by cases h⟩
theorem over : Rows.lexWordsRow.holds Tryd.pinned (OpenSpec.ofChange Rows.lexWordsSpec) :=
  OpenClaim.holds_of_wide 11 Tryd.f11 rfl rfl rfl rfl rfl rfl rfl ⟨rfl, rfl, rfl, rfl, rfl⟩ rfl rfl rfl rfl rfl (by kernel_rfl) Tryd.func11 (by kernel_rfl)
    (of_decide_eq_true (by kernel_rfl)) (by unfold Func.isWrapper; first | (rw [if_pos (by decide +kernel)]; kernel_rfl) | (rw [if_neg (by decide +kernel)]; exact ⟨rfl, rfl⟩))
    (fun os started H enc _ => lifted os started H enc)
theorem card_holds : Claim7.holds Tryd.pinned (.plain (OpenSpec.ofChange Rows.lexWordsSpec)) Rows.lexWordsCard :=
  Claim7.holds_tied_plain_at .later [] [.data, .data, .data, .data, .pinned] true (true, "2df379d0a8e382ae56a4a25da8425f329115bfa31b6102406861f16ecf271d0c") false over (fun _ h => by cases h) (by kernel_rfl) (fun _ h => by cases h) lexWords_row_tie rfl ⟨rfl, rfl⟩ (by kernel_rfl) rfl
    (fun f fn hf hfn => by
      obtain rfl : f = 11 := Option.some.inj ((show Tryd.prog.funcNamed "malthouse/malthouselaw01.LexWords" = some 11 by kernel_rfl).symm.trans hf) |>.symm
      obtain rfl : fn = Tryd.f11 := (Option.some.inj (Tryd.func11.symm.trans hfn)).symm
      exact ⟨by kernel_rfl, fun j t ht => by
        rw [Tryd.params11] at ht
        have hm : t ∈ [9, 3] := by simpa using Array.mem_of_getElem? ht
        have hall : ([9, 3].all fun u => !Tryd.prog.wantsStandIn u) = true := by kernel_rfl
        exact (show Tryd.prog.wantsStandIn t = false by simpa using List.all_eq_true.1 hall t hm)⟩)
    (by kernel_rfl)
theorem proved : Rows.LexWordsCardSaid := card_holds
#print axioms proved
end Go.Proofs.YtlikjknakplamaaDoor.lexWords
namespace Go.Proofs.YtlikjknakplamaaDoor
/-- The card, under a short name, for the claim. -/
theorem lexWords_holds : Rows.LexWordsCardSaid := lexWords.proved
end Go.Proofs.YtlikjknakplamaaDoor
/-! ### LexBackRow -/
namespace Go.Proofs.YtlikjknakplamaaDoor.lexBack
open Go.ChangeShapes Go.WideShapes Go.ChangeAt Go.RowKit Go.Shelf Go.Lib Go.Proofs.YtlikjknakplamaaDoor.Print
open Go.ChangeMaps (open_string shut_string)
set_option linter.unusedVariables false
set_option linter.unusedSimpArgs false
theorem own : ownKnob Tryd.prog.godebug = none := by kernel_rfl
set_option maxRecDepth 100000 in
theorem lifted (os : Os) (started : os.Started) (H : Type) (enc : TypeId × Value → H) :
    ReturnsInHanded {} Tryd.checked os 6 .any (fun w args => (Rows.lexBackSpec.pre enc Tryd.prog Tryd.f6 [] false w args ∧ laidMetH Tryd.prog Rows.lexBackRow.laid w) ∧ sizedMet enc Tryd.prog Tryd.f6 (OpenSpec.ofChange Rows.lexBackSpec) false w args) (Rows.lexBackSpec.post enc Tryd.prog Tryd.f6 false true false false) := by
  refine returnsInHanded_of_change_and_shaped (C := Tryd.checked) (X := fun w _ => laidMetH Tryd.prog Rows.lexBackRow.laid w) (fun _ _ _ hh h => h.of_heap hh) own started (by kernel_rfl) Tryd.func6
    (ChangeSpec.witness_shaped (enc := enc) (C := Tryd.checked) (os := os) (X := fun w _ => laidMetH Tryd.prog Rows.lexBackRow.laid w) false (World.laidAll Tryd.prog os Rows.lexBackRow.laid) #[.string ByteArray.empty] 8 (World.laidAll_os _ _ _)
      (World.shaped_of_ZipB (by kernel_rfl) (by kernel_rfl)) (by kernel_rfl) (by kernel_rfl) (by kernel_rfl)
      (by rw [MakeChecks.laidMetH_plain _ _ _ (by kernel_rfl)]; exact laidMet_laidAll _ (by kernel_rfl) (by kernel_rfl))) ?_
  intro W base args ds gs before hval0 hW hcnd hsz0 hL0 hsh _
  have hL : laidMet Tryd.prog Rows.lexBackRow.laid W := by
    have h := hL0
    rw [MakeChecks.laidMetH_plain _ _ _ (by kernel_rfl)] at h
    exact h
  have hT : Tabs W := tabs_of (show laidMet Tryd.prog Rows.lexFoldsRow.laid W from hL) hsh
  have hsz : (DataW.weightsEach Tryd.prog (Tryd.f6.params.toList ++ Rows.lexBackSpec.plain.varTypes Tryd.prog) (ds ++ gs)).all (· ≤ reachBytes) = true := hsz0
  have hval : ∀ (j : Nat) t v, Tryd.f6.params[j]? = some t → args[j]? = some v → Value.okWide Tryd.prog W .any base t v := hval0
  have hW' := hW
  obtain ⟨p, q, hA0, hV, rfl, hfz, hnd⟩ := hW
  have hA : DataW.TrodAll enc Tryd.prog W 0 (fun _ => true) true Tryd.f6.params.toList args.toList ds p := hA0
  rw [Tryd.params6] at hA hval hsz
  obtain ⟨v0, vs0, d0, ds0, p0, q0, hargs, rfl, rfl, h0, r0⟩ := trodAll_cons hA
  obtain ⟨rfl, rfl, rfl⟩ := trodAll_nil r0
  obtain rfl : args = #[v0] := by cases args; simp_all
  obtain ⟨rfl, rfl⟩ := trodVars_none hV
  obtain ⟨a0, rfl, rfl, rfl, y0⟩ := open_string Tryd.underlying9 (hval 0 9 v0 rfl rfl) h0
  have w0 : a0.size ≤ 140737488351232 := by
    have z := sized_string hsz (j := 0) (t := 9) rfl rfl
    rw [Array.length_toList] at z
    exact z
  clear hA0 hval0 hsz0 hsz
  refine (lexBack_walk a0 W w0 hT).mono fun e W' ⟨he, bel⟩ => ?_
  subst he
  exact ⟨_, rfl, _, _, _, [], _, [], hW', trodAll_mk1 (shut_bool Tryd.underlying4 _), (trodAll_cons_mk (shut_string Tryd.underlying9 y0) trodAll_mk0), rfl, bel.frame _, fun h => by cases h⟩
theorem over : Rows.lexBackRow.holds Tryd.pinned (OpenSpec.ofChange Rows.lexBackSpec) :=
  OpenClaim.holds_of_wide 6 Tryd.f6 rfl rfl rfl rfl rfl rfl rfl ⟨rfl, rfl, rfl, rfl, rfl⟩ rfl rfl rfl rfl rfl (by kernel_rfl) Tryd.func6 (by kernel_rfl)
    (of_decide_eq_true (by kernel_rfl)) (by unfold Func.isWrapper; first | (rw [if_pos (by decide +kernel)]; kernel_rfl) | (rw [if_neg (by decide +kernel)]; exact ⟨rfl, rfl⟩))
    (fun os started H enc _ => lifted os started H enc)
theorem card_holds : Claim7.holds Tryd.pinned (.plain (OpenSpec.ofChange Rows.lexBackSpec)) Rows.lexBackCard :=
  Claim7.holds_tied_plain_at .later [] [.data, .data, .data, .data, .pinned] true (true, "2df379d0a8e382ae56a4a25da8425f329115bfa31b6102406861f16ecf271d0c") false over (fun _ h => by cases h) (by kernel_rfl) (fun _ h => by cases h) lexBack_row_tie rfl ⟨rfl, rfl⟩ (by kernel_rfl) rfl
    (fun f fn hf hfn => by
      obtain rfl : f = 6 := Option.some.inj ((show Tryd.prog.funcNamed "malthouse/malthouselaw01.LexBack" = some 6 by kernel_rfl).symm.trans hf) |>.symm
      obtain rfl : fn = Tryd.f6 := (Option.some.inj (Tryd.func6.symm.trans hfn)).symm
      exact ⟨by kernel_rfl, fun j t ht => by
        rw [Tryd.params6] at ht
        have hm : t ∈ [9] := by simpa using Array.mem_of_getElem? ht
        have hall : ([9].all fun u => !Tryd.prog.wantsStandIn u) = true := by kernel_rfl
        exact (show Tryd.prog.wantsStandIn t = false by simpa using List.all_eq_true.1 hall t hm)⟩)
    (by kernel_rfl)
theorem proved : Rows.LexBackCardSaid := card_holds
#print axioms proved
end Go.Proofs.YtlikjknakplamaaDoor.lexBack
namespace Go.Proofs.YtlikjknakplamaaDoor
/-- The card, under a short name, for the claim. -/
theorem lexBack_holds : Rows.LexBackCardSaid := lexBack.proved
end Go.Proofs.YtlikjknakplamaaDoor
