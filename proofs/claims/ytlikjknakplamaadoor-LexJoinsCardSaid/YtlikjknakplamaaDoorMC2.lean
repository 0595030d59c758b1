import Derived.Test.YtlikjknakplamaaDoorMC1
import Derived.Below
import Derived.ChangeOld
import Derived.Handed
import Derived.LaidLaws
import Derived.LaidOnce
import Derived.LaidSub
import Derived.Laws.RangeAny
import Derived.Lay
import Derived.Lib.AppendIntMem
import Derived.Lib.LaidTab
import Derived.Lib.LaidU8T
import Derived.Lib.TrimUEq
import Derived.OpenShut
import Derived.PinnedBridge
import Derived.ProofKit
import Derived.SevenTiedAt
import Derived.Shelf.Lay
import Derived.ShutString
import Derived.SizedLaws
import Derived.Test.YtlikjknakplamaaDoorCards
import Derived.Test.YtlikjknakplamaaDoorRows
import Derived.Test.YtlikjknakplamaaDoorTie
import Derived.WalkKit
set_option linter.unusedVariables false
set_option linter.unusedSimpArgs false
namespace Go.Proofs.YtlikjknakplamaaDoorW.PrintWords
end Go.Proofs.YtlikjknakplamaaDoorW.PrintWords
namespace Go.Proofs.YtlikjknakplamaaDoorW.PrintLast
end Go.Proofs.YtlikjknakplamaaDoorW.PrintLast
namespace Go.Proofs.YtlikjknakplamaaDoorW.PrintMore
end Go.Proofs.YtlikjknakplamaaDoorW.PrintMore
/-! ### ECut -/
namespace Go.Proofs.YtlikjknakplamaaDoor.Print
open Go.RowKit Go.Proofs.YtlikjknakplamaaDoorW.PrintWords Go.Proofs.YtlikjknakplamaaDoorW.PrintLast Go.Proofs.YtlikjknakplamaaDoorW.PrintMore
set_option linter.unusedSimpArgs false
set_option linter.unusedVariables false
def gTok (t : Tok) : S38 := ⟨t.1, t.2.1, t.2.2.1, t.2.2.2⟩
def tcells (t : Tok) : List Value := [.int .i64 t.1, .string t.2.1, .int .i64 t.2.2.1, .int .i64 t.2.2.2]
def toks (l : List Tok) : List Value := l.flatMap tcells
theorem toks_snoc (l : List Tok) (t : Tok) : toks (l ++ [t]) = toks l ++ tcells t := by unfold toks; rw [List.flatMap_append]; simp
theorem toks_len (l : List Tok) : (toks l).length = l.length * 4 := by
  induction l with
  | nil => rfl
  | cons t l ih => show (tcells t ++ toks l).length = _; rw [List.length_append, ih, List.length_cons]; show 4 + _ = _; omega
theorem toks_one (l : List Tok) : ∀ u ∈ toks l, u.oneCell' = true := by
  intro u hu
  obtain ⟨t, _, h⟩ := List.mem_flatMap.1 hu
  unfold tcells at h
  simp at h
  rcases h with rfl | rfl | rfl | rfl <;> rfl
theorem toks_reps (w : World) : ∀ l : List Tok, Reps (k38.K w) 4 (l.map gTok) (toks l)
  | [] => Reps.none _ _
  | t :: l => Reps.c4 (k38_mk w (gTok t)) (toks_reps w l)
structure OutAt (w : World) (base g : Nat) (A : Option Addr) (c : Nat) (l : List Tok) : Prop where
  own : w.ownsRow base 38 4 (.slice A l.length c) l.length (toks l)
  ne : ∀ k, (Value.slice A l.length c).ownBlock = some k → k ≠ g
theorem OutAt.only {w w' : World} {base g : Nat} {A : Option Addr} {c : Nat} {l : List Tok} {S : List Nat} (h : OutAt w base g A c l) (ho : Only S w w') (hS : ∀ k, (Value.slice A l.length c).ownBlock = some k → k ∉ S) : OutAt w' base g A c l :=
  ⟨ownsRow_only h.own ho hS, h.ne⟩
theorem fill_one4 (z a b c d : Value) (hz : z.cells.size = 4) :
    Instr.fill (fun i => some (i * 4, 4)) ((Array.range (1 * 4)).map (z.cells[· % z.cells.size]!)) [(0, .agg #[a, b, c, d])] = some #[a, b, c, d] := by
  generalize hA : ((Array.range (1 * 4)).map (z.cells[· % z.cells.size]!)) = arr
  have h2 : arr.size = 4 := by rw [← hA]; simp
  match arr, h2 with
  | ⟨[x, y, u, v]⟩, _ => simp [Instr.fill, Value.cells]
abbrev zTok : Value := .agg #[.int .i64 0, .string ⟨#[]⟩, .int .i64 0, .int .i64 0]
set_option maxHeartbeats 8000000 in
set_option maxRecDepth 100000 in
theorem cut_walk (a0 : ByteArray) (w : World) (hs : a0.size ≤ 1000000000) (hT : Tabs w) :
    Calls Tryd.prog 13 #[.string a0] w fun e w' => ∃ A c, e = .returned (.tuple #[.slice A (cutZ a0).1.length c, .int .i64 (cutZ a0).2.1, .int .i64 (cutZ a0).2.2]) ∧ w'.ownsRow w.heap.size 38 4 (.slice A (cutZ a0).1.length c) (cutZ a0).1.length (toks (cutZ a0).1) ∧ Below w.heap.size w w' := by
  obtain ⟨V, hV⟩ : ∃ V, V = cutZ a0 := ⟨_, rfl⟩
  rw [← hV]
  unfold cutZ at hV
  have HV := Lib.hid hV
  have HTB := Lib.hid hT
  have hu2 := Tryd.underlying47
  have hu3 := Tryd.underlying38
  clear hV hT
  go_enter Tryd.func13, Tryd.ntmps13
  by_cases hlong : 8192 < a0.size
  · have hv := HV.out
    rw [if_pos hlong] at hv
    have HV2 := Lib.hid hv
    have hl' : (8192 : Int) < a0.size := by omega
    clear hv HV
    go_wp2
    go_ret3
    refine ⟨none, 0, ?_, ?_, Below.refl _ _⟩
    · rw [HV2.out]; rfl
    · rw [HV2.out]; exact ownsRow_nil _ _ _ _
  · have hl' : (a0.size : Int) ≤ 8192 := by omega
    have hv := HV.out
    rw [if_neg hlong] at hv
    have HBA := Lib.hid (bad_any a0 w hs HTB.out)
    generalize badZ a0 = bz at *
    by_cases hb : 0 ≤ bz
    · rw [if_pos hb] at hv
      have HV2 := Lib.hid hv
      clear hv HV
      go_wp2_with (go_at_call 28; refine HBA.out.mono ?_; rintro e w1 ⟨rfl, hb1⟩; have HB1 := Lib.hid hb1; clear hb1)
      go_ret3
      refine ⟨none, 0, ?_, ?_, HB1.out⟩
      · rw [HV2.out]; rfl
      · rw [HV2.out]; exact ownsRow_nil _ _ _ _
    · rw [if_neg hb] at hv
      have hb' : bz < 0 := by omega
      rw [cutLoop_tail] at hv
      have HV2 := Lib.hid hv
      have hbd := blanksZ_bound a0.size (a0, 0) 8192 (by simp) (by simp; omega)
      have HBD := Lib.hid (show 0 ≤ (blanks (a0, 0)).2 ∧ (blanks (a0, 0)).2 + (blanks (a0, 0)).1.size ≤ 8192 ∧ (blanks (a0, 0)).1.size ≤ a0.size from hbd)
      clear hv HV hbd
      go_wp2_with (go_at_call 28; refine HBA.out.mono ?_; rintro e w1 ⟨rfl, hb1⟩; have HB1 := Lib.hid (Only.of_below hb1); clear hb1; refine (fun (h : Hid _) => h.out) ?_)
      refine Lib.hid ?_
      clear HBA
      obtain ⟨g, hg⟩ : ∃ g, g = w1.heap.size := ⟨_, rfl⟩
      have HGL := Lib.hid (show w.heap.size ≤ g by rw [hg]; exact HB1.out.size)
      have HA1 := Lib.hid (show Only [] w (w1.alloc (.cells #[.string a0, .int .i64 0, .slice none 0 0] 47)) from HB1.out.alloc _)
      have HC1 := Lib.hid (show CutAt (w1.alloc (.cells #[.string a0, .int .i64 0, .slice none 0 0] 47)) g a0 0 (.slice none 0 0) by rw [hg]; exact heap_alloc_new w1 _)
      go_wp2_with (go_at_call 29; rw [← hg]; refine (blanks_any g a0 0 (.slice none 0 0) _ HC1.out (by omega) (by omega)).mono ?_; rintro e w2 ⟨rfl, hg2, ho2⟩; have HG2 := Lib.hid hg2; have HO2 := Lib.hid (HA1.out.then ho2 (by intro i hi; simp at hi; subst hi; exact .inr HGL.out)); clear hg2 ho2; refine (fun (h : Hid _) => h.out) ?_)
      refine Lib.hid ?_
      clear HA1 HC1
      have HO0 := Lib.hid (show OutAt w2 w.heap.size g none 0 [] from ⟨ownsRow_nil _ _ _ _, by simp [Value.ownBlock]⟩)
      rw [← hg]
      clear hg HB1
      have ha8 := hl'
      generalize blanks (a0, 0) = st at *
      obtain ⟨y0, b0⟩ := st
      have HBD2 := Lib.hid (show 0 ≤ b0 ∧ b0 + y0.size ≤ 8192 from ⟨HBD.out.1, HBD.out.2.1⟩)
      have HF := Lib.hid (show y0.size ≤ a0.size from HBD.out.2.2)
      clear HBD
      have HG3 : Hid (CutAt w2 g y0 b0 (.slice none 0 0)) := HG2
      clear HG2
      go_wp2
      go_loopw [7, 8, 9] (fun _ _ _ wr => ∃ (x : ByteArray) (a : Int) (l : List Tok) (A : Option Addr) (c f : Nat), Hid (CutAt wr g x a (.slice A l.length c)) ∧ Hid (OutAt wr w.heap.size g A c l) ∧ Hid (V = cutTail f (x, a) l) ∧ Hid (0 ≤ a ∧ a + x.size ≤ 8192) ∧ Hid (l.length ≤ 2000) ∧ Hid (x.size ≤ f) ∧ Hid (Only [] w wr)) (fun _ _ _ wr => leftN wr g)
      case atStart => exact ⟨y0, b0, [], none, 0, a0.size, HG3, HO0, HV2, HBD2, Lib.hid (by simp), HF, HO2⟩
      case round =>
        obtain ⟨x, a, l, A, c, f, hg, hout, hv, hbd, hln, hf, ho⟩ := hrel
        clear HG3 HO0 HV2 HBD2 HF HO2
        have c0 : wr.cell? ⟨g, 0, none⟩ = some (.string x) := (cell_of_row wr g 0 _ _ _ hg.out).trans rfl
        by_cases hx : x = ⟨#[]⟩
        · have hv' := hv.out
          subst hx
          unfold cutTail at hv'
          rw [if_pos (by rfl)] at hv'
          have HV2 := Lib.hid (show V = (l ++ [((0, ⟨#[]⟩, 0, a) : Tok)], 0, 0) from hv')
          clear hv hv'
          have HGS := Lib.hid (show g ∉ (Value.slice A l.length c).ownBlock.toList ∧ (∀ k ∈ (Value.slice A l.length c).ownBlock.toList, w.heap.size ≤ k) from
            ⟨fun h => hout.out.ne g (by simpa using h) rfl, fun k hk => (ownsRow_lt hout.out.own (by simpa using hk)).1⟩)
          go_wp2
          obtain ⟨S, hS⟩ : ∃ S, S = (Value.slice A l.length c).ownBlock.toList := ⟨_, rfl⟩
          rw [← hS] at HGS
          have HSS := Lib.hid hS
          clear hS c0
          refine L.grow_start S 14 ((0, true, false) :: (1, true, false) :: (2, true, false) :: (3, true, false) :: (4, true, true) :: (5, true, true) :: (6, true, true) :: (7, true, true) :: (8, true, true) :: (9, false, true) :: (10, false, true) :: (11, true, true) :: (12, true, true) :: (13, true, true) :: []) (by kernel_rfl) (([], [6], some 67) :: ([0], [67], some 68) :: ([1], [68], some 69) :: ([2], [69], some 70) :: ([], [6], some 71) :: ([4], [71], some 72) :: ([5], [72], some 73) :: ([6], [73], some 74) :: ([7], [74], some 75) :: ([8], [75], some 76) :: ([3, 9], [70, 76], some 77) :: ([10, 10, 0, 1, 2, 3, 4, 5, 6, 7, 8, 9, 10], [77], some 2) :: ([11, 0, 1, 2, 3, 4, 5, 6, 7, 8, 9, 10, 11], [], some 3) :: ([12, 0, 1, 2, 3, 4, 5, 6, 7, 8, 9, 10, 11, 12], [], some 4) :: []) (by kernel_rfl) (by kernel_rfl) (n := 14) rfl (by kernel_rfl) (fun _ _ _ _ _ h => h) (fun wg hog => ?_)
          refine L.growe_start (N := 78) (by rfl) ?_
          have e2 : ∀ w', Only S wg w' → w'.cell? ⟨g, 2, none⟩ = some (.slice A l.length c) := fun w' q => (cell_of_row w' g 2 _ _ _ (((hog.mono (T := S) (by simp)).trans q).heap hg.out HGS.out.1)).trans rfl
          have e1 : ∀ w', Only S wg w' → w'.cell? ⟨g, 1, none⟩ = some (.int .i64 a) := fun w' q => (cell_of_row w' g 1 _ _ _ (((hog.mono (T := S) (by simp)).trans q).heap hg.out HGS.out.1)).trans rfl
          have HOG := Lib.hid hog
          clear hog
          iterate 8 (first | (refine L.ge_off rfl rfl rfl (by rfl) ?_) | (refine L.ge_move rfl rfl rfl (by rfl) rfl (by simp [L.evE, L.lk, Act.eval]; rfl) ?_) | (refine L.ge_pick rfl rfl rfl (by rfl) rfl (by simp [L.evE, L.lk, Act.eval]; rfl) (by simp [L.evE, L.lk, Act.eval]; rfl) ?_) | (refine L.ge_val rfl rfl rfl (by rfl) (by intro w' hw'; simp [execOp, L.evE, L.lk, Act.eval]; go_simp; rfl) ?_))
          refine L.ge_val (v := .agg #[.int .i64 0, .string ⟨#[]⟩, .int .i64 0, .int .i64 a]) rfl rfl rfl (by rfl) (by intro w' hw'; simp [execOp, L.evE, L.lk, Act.eval]; go_simp) ?_
          refine ge_one rfl rfl rfl (by rfl) _ (.tmp 75) rfl 38 Tryd.underlying23 zTok 4 40 infoTok (by omega) (by omega) #[.int .i64 0, .string ⟨#[]⟩, .int .i64 0, .int .i64 a] (by have h := fill_one4 zTok (.int .i64 0) (.string ⟨#[]⟩) (.int .i64 0) (.int .i64 a) rfl; simpa [L.evE, L.lk, Act.eval] using h) ?_
          have HPN := Lib.hid (heap_alloc_new wg (.cells #[.int .i64 0, .string ⟨#[]⟩, .int .i64 0, .int .i64 a] 38))
          have HOW := Lib.hid ((hout.out.only HOG.out (by simp)).only ((Only.refl [] wg).alloc (.cells #[.int .i64 0, .string ⟨#[]⟩, .int .i64 0, .int .i64 a] 38)) (by simp))
          refine ge_append_row rfl rfl rfl (by rfl) (.tmp 70) (.tmp 76) 23 rfl w.heap.size 38 4 40 zTok Tryd.underlying23 infoTok rfl (by omega) (.slice A l.length c) l.length (toks l) (by simp [L.evE, L.lk, Act.eval]) HOW.out.own (some ⟨wg.heap.size, 0, none⟩) 1 1 [.int .i64 0, .string ⟨#[]⟩, .int .i64 0, .int .i64 a] (by simp [L.evE, L.lk, Act.eval]) rfl (fun _ => ⟨_, rfl, cellsAt_row HPN.out⟩) (by simp [Value.oneCell']) (by have := hln.out; unfold maxLen; omega) (by have := hln.out; omega) (by have := ho.out.size; have := HOG.out.size; simp; omega) ?_
          intro A8 c8 w8 hb8 ho8 hk8
          refine ⟨by rw [HSS.out]; exact ho8, ?_⟩
          have HO8 := Lib.hid (show Only S wg w8 by rw [HSS.out]; exact (((Only.refl [] wg).alloc (.cells #[.int .i64 0, .string ⟨#[]⟩, .int .i64 0, .int .i64 a] 38)).mono (by simp)).trans ho8)
          have HB8 := Lib.hid (show w8.ownsRow w.heap.size 38 4 (.slice A8 (l.length + 1) c8) (l.length + 1) (toks (l ++ [((0, ⟨#[]⟩, 0, a) : Tok)])) by rw [toks_snoc]; exact hb8)
          clear hb8 ho8 hk8 HPN HOW
          iterate 3 (first | (refine L.ge_off rfl rfl rfl (by rfl) ?_) | (refine L.ge_move rfl rfl rfl (by rfl) rfl (by simp [L.evE, L.lk, Act.eval]; rfl) ?_) | (refine L.ge_pick rfl rfl rfl (by rfl) rfl (by simp [L.evE, L.lk, Act.eval]; rfl) (by simp [L.evE, L.lk, Act.eval]; rfl) ?_) | (refine L.ge_val rfl rfl rfl (by rfl) (by intro w' hw'; simp [execOp, L.evE, L.lk, Act.eval]; go_simp; rfl) ?_))
          refine L.ge_done ?_
          simp only [L.puts, Act.put, goInt, List.setIfInBounds_toArray, List.set_cons_zero, List.set_cons_succ]
          go_wp2
          go_ret3
          have hll : (l ++ [((0, ⟨#[]⟩, 0, a) : Tok)]).length = l.length + 1 := by simp
          refine ⟨A8, c8, ?_, ?_, ((ho.out.trans HOG.out).then HO8.out (fun i hi => .inr (HGS.out.2 i hi))).nil_below⟩
          · rw [HV2.out]
            simp only [hll]
            rfl
          · rw [HV2.out]
            simp only [hll]
            exact HB8.out
        · have hpos : 0 < x.size := by
            rcases Nat.eq_zero_or_pos x.size with h | h
            · exact absurd (ByteArray.size_eq_zero_iff.1 h) hx
            · exact h
          have hp' : (0 : Int) < x.size := by omega
          have hie := some_left x hpos
          have hv' := hv.out
          unfold cutTail at hv'
          rw [if_neg (by show ¬ x.size = 0; omega)] at hv'
          have hv' : V = if l.length = 2000 then ([], 2, a) else if (tokenZ x).2.2 ≠ 0 then ([], (tokenZ x).2.2, a) else cutLoop f (passZ (x, a) (tokenZ x).2.1.toNat) (l ++ [((tokenZ x).1.1, (tokenZ x).1.2.1, (tokenZ x).1.2.2.1, a)]) := hv'
          have HTK := Lib.hid (token_any g x a (.slice A l.length c) wr hg.out hpos (by have := hbd.out; omega) (HTB.out.below ho.out.nil_below))
          have HTL := Lib.hid (token_len x hpos)
          have HG0 := Lib.hid (show g < wr.heap.size from heap_lt hg.out)
          generalize tokenZ x = tz at *
          obtain ⟨⟨tk, ts, tn, ta⟩, tl, te⟩ := tz
          have HV := Lib.hid hv'
          clear hv hv' hx
          go_wp2_with (go_at_call 30; refine HTK.out.mono ?_; rintro e w3 ⟨rfl, ho3⟩; have HG3 := Lib.hid (ho3.heap hg.out (by simp)); have HU3 := Lib.hid (hout.out.only ho3 (by simp)); have HO3 := Lib.hid (ho.out.trans ho3); have HS3 := Lib.hid ho3.size; clear ho3; refine (fun (h : Hid _) => h.out) ?_)
          refine Lib.hid ?_
          have HL := Lib.hid (leftN_at hg.out)
          clear HTK hg hout ho c0
          obtain ⟨b, hb⟩ : ∃ b, b = w3.heap.size := ⟨_, rfl⟩
          have HBG := Lib.hid (show g ≠ b ∧ w.heap.size ≤ b ∧ w3.heap.size ≤ b by have := HG0.out; have := HS3.out; have := HO3.out.size; omega)
          have HON := Lib.hid (show Only [] w3 (w3.alloc (.cells #[.int .i64 tk, .string ts, .int .i64 tn, .int .i64 ta] 38)) from (Only.refl _ _).alloc _)
          have HR4 := Lib.hid (show (w3.alloc (.cells #[.int .i64 tk, .string ts, .int .i64 tn, .int .i64 ta] 38)).heap[b]? = some (.cells #[.int .i64 tk, .string ts, .int .i64 tn, .int .i64 ta] 38 (0, 0)) by rw [hb]; exact heap_alloc_new w3 _)
          have HG4 := Lib.hid (HON.out.heap HG3.out (by simp))
          have HU4 := Lib.hid (HU3.out.only HON.out (by simp))
          have HO4 := Lib.hid (HO3.out.trans HON.out)
          have HON5 := Lib.hid (show Only [] w3 (w3.alloc (.cells #[.int .i64 tk, .string ts, .int .i64 tn, .int .i64 a] 38)) from (Only.refl _ _).alloc _)
          have HR5 := Lib.hid (show (w3.alloc (.cells #[.int .i64 tk, .string ts, .int .i64 tn, .int .i64 a] 38)).heap[b]? = some (.cells #[.int .i64 tk, .string ts, .int .i64 tn, .int .i64 a] 38 (0, 0)) by rw [hb]; exact heap_alloc_new w3 _)
          have HG5 := Lib.hid (HON5.out.heap HG3.out (by simp))
          have HU5 := Lib.hid (HU3.out.only HON5.out (by simp))
          have HO5 := Lib.hid (HO3.out.trans HON5.out)
          have HGS := Lib.hid (show g ∉ (Value.slice A l.length c).ownBlock.toList ∧ b ∉ (Value.slice A l.length c).ownBlock.toList ∧ (∀ k ∈ (Value.slice A l.length c).ownBlock.toList, w.heap.size ≤ k) by
            refine ⟨fun h => HU3.out.ne g (by simpa using h) rfl, fun h => ?_, fun k hk => (ownsRow_lt HU3.out.own (by simpa using hk)).1⟩
            have := (ownsRow_lt HU3.out.own (by simpa using h)).2
            omega)
          have hb3 : w3.heap.size = b := hb.symm
          clear HON hb
          have c1 : (w3.alloc (.cells #[.int .i64 tk, .string ts, .int .i64 tn, .int .i64 ta] 38)).cell? ⟨g, 1, none⟩ = some (.int .i64 a) := (cell_of_row _ g 1 _ _ _ HG4.out).trans rfl
          have c2 : (w3.alloc (.cells #[.int .i64 tk, .string ts, .int .i64 tn, .int .i64 ta] 38)).cell? ⟨g, 2, none⟩ = some (.slice A l.length c) := (cell_of_row _ g 2 _ _ _ HG4.out).trans rfl
          by_cases hfull : l.length = 2000
          · have hfb : ((l.length : Int) == 2000) = true := by rw [hfull]; rfl
            have hv := HV.out
            rw [if_pos hfull] at hv
            have HV2 := Lib.hid hv
            clear hv HV
            go_wp2
            generalize (w3.alloc (.cells #[.int .i64 tk, .string ts, .int .i64 tn, .int .i64 ta] 38)) = w4 at *
            refine L.grow_start [] 8 ((0, true, false) :: (1, true, false) :: (2, true, false) :: (3, true, false) :: (4, true, false) :: (5, true, true) :: (6, true, true) :: (7, true, true) :: []) (by kernel_rfl) (([], [9], some 44) :: ([], [6], some 45) :: ([1], [45], some 46) :: ([2], [46], some 47) :: ([3], [47], some 48) :: ([], [], some 2) :: ([0, 5, 0, 5], [44], some 3) :: ([4, 6, 0, 1, 2, 3, 4, 5, 6], [48], some 4) :: []) (by kernel_rfl) (by kernel_rfl) (n := 8) rfl (by kernel_rfl) (fun _ _ _ _ _ h => h) (fun wg hog => ?_)
            refine L.growe_start (N := 78) (by rfl) ?_
            have e1 : ∀ w', Only [] wg w' → w'.cell? ⟨g, 1, none⟩ = some (.int .i64 a) := fun w' q => (cell_of_row w' g 1 _ _ _ ((hog.trans q).heap HG4.out (by simp))).trans rfl
            have HOG := Lib.hid hog
            clear hog
            iterate 8 (first | (refine L.ge_off rfl rfl rfl (by rfl) ?_) | (refine L.ge_move rfl rfl rfl (by rfl) rfl (by simp [L.evE, L.lk, Act.eval]; rfl) ?_) | (refine L.ge_pick rfl rfl rfl (by rfl) rfl (by simp [L.evE, L.lk, Act.eval]; rfl) (by simp [L.evE, L.lk, Act.eval]; rfl) ?_) | (refine L.ge_val rfl rfl rfl (by rfl) (by intro w' hw'; simp [execOp, L.evE, L.lk, Act.eval]; go_simp; rfl) ?_))
            refine L.ge_done ?_
            simp only [L.puts, Act.put, goInt, List.setIfInBounds_toArray, List.set_cons_zero, List.set_cons_succ]
            go_wp2
            go_ret3
            refine ⟨none, 0, ?_, ?_, (HO4.out.trans HOG.out).nil_below⟩
            · rw [HV2.out]; rfl
            · rw [HV2.out]; exact ownsRow_nil _ _ _ _
          · have hfb : ((l.length : Int) == 2000) = false := by rw [beq_eq_false_iff_ne]; omega
            have hv := HV.out
            rw [if_neg hfull] at hv
            by_cases hte : te = 0
            · have hv' := hv
              rw [if_neg (by simpa using hte)] at hv'
              have HV2 := Lib.hid hv'
              obtain ⟨n, rfl, hn1, hn2⟩ := HTL.out hte
              subst hte
              clear hv hv' HV HTL HR4 HG4 HU4 HO4 c1 c2
              have c2 : (w3.alloc (.cells #[.int .i64 tk, .string ts, .int .i64 tn, .int .i64 ta] 38)).cell? ⟨g, 2, none⟩ = some (.slice A l.length c) := (cell_of_row _ g 2 _ _ _ (((Only.refl [] w3).alloc _).heap HG3.out (by simp))).trans rfl
              have c1 : (w3.alloc (.cells #[.int .i64 tk, .string ts, .int .i64 tn, .int .i64 ta] 38)).cell? ⟨g, 1, none⟩ = some (.int .i64 a) := (cell_of_row _ g 1 _ _ _ (((Only.refl [] w3).alloc _).heap HG3.out (by simp))).trans rfl
              clear HG3 HU3 HO3 HON5
              go_wp2
              clear c1 c2
              generalize (w3.alloc (.cells #[.int .i64 tk, .string ts, .int .i64 tn, .int .i64 a] 38)) = w5 at *
              obtain ⟨S, hS⟩ : ∃ S, S = (Value.slice A l.length c).ownBlock.toList := ⟨_, rfl⟩
              rw [← hS] at HGS
              have HSS := Lib.hid hS
              clear hS
              refine L.grow_start S 10 ((0, true, false) :: (1, true, false) :: (2, true, false) :: (3, true, false) :: (4, true, false) :: (5, true, true) :: (6, false, true) :: (7, false, true) :: (8, true, true) :: (9, true, true) :: (10, false, true) :: []) (by kernel_rfl) (([], [6], some 54) :: ([], [6], some 55) :: ([1], [55], some 56) :: ([2], [56], some 57) :: ([3], [57], some 58) :: ([], [7], some 59) :: ([5], [59], some 60) :: ([4, 6], [58, 60], some 61) :: ([0, 0, 1, 2, 3, 4, 5, 6, 7], [54], some 62) :: ([8, 0, 1, 2, 3, 4, 5, 6, 7], [62], some 63) :: ([9, 7, 7, 0, 1, 2, 3, 4, 5, 6, 7], [63, 61], none) :: []) (by kernel_rfl) (by kernel_rfl) (n := 11) rfl (by kernel_rfl) (fun _ _ _ _ _ h => h) (fun wg hog => ?_)
              refine L.growe_start (N := 78) (by rfl) ?_
              have e2 : ∀ w', Only S wg w' → w'.cell? ⟨g, 2, none⟩ = some (.slice A l.length c) := fun w' q => (cell_of_row w' g 2 _ _ _ (((hog.mono (T := S) (by simp)).trans q).heap HG5.out HGS.out.1)).trans rfl
              have e3 : ∀ w', Only S wg w' → (loadVar 38 ⟨b, 0, none⟩).run Tryd.prog w' = .ok (.agg #[.int .i64 tk, .string ts, .int .i64 tn, .int .i64 a]) w' := fun w' q => run_loadVar_row w' b 38 38 _ (0, 0) _ (((hog.mono (T := S) (by simp)).trans q).heap HR5.out HGS.out.2.1) hu3 rfl (by kernel_rfl)
              have HOG := Lib.hid hog
              clear hog
              iterate 5 (first | (refine L.ge_off rfl rfl rfl (by rfl) ?_) | (refine L.ge_move rfl rfl rfl (by rfl) rfl (by simp [L.evE, L.lk, Act.eval]; rfl) ?_) | (refine L.ge_pick rfl rfl rfl (by rfl) rfl (by simp [L.evE, L.lk, Act.eval]; rfl) (by simp [L.evE, L.lk, Act.eval]; rfl) ?_) | (refine L.ge_val rfl rfl rfl (by rfl) (by intro w' hw'; simp [execOp, L.evE, L.lk, Act.eval]; go_simp; rfl) ?_))
              refine L.ge_val (v := .agg #[.int .i64 tk, .string ts, .int .i64 tn, .int .i64 a]) rfl rfl rfl (by rfl) (by intro w' hw'; simp [execOp, L.evE, L.lk, Act.eval, Instr.loadAt, Instr.sureAddr, e3 w' hw']) ?_
              have e2z := e2
              clear e3
              refine ge_one rfl rfl rfl (by rfl) _ (.tmp 59) rfl 38 Tryd.underlying23 zTok 4 40 infoTok (by omega) (by omega) #[.int .i64 tk, .string ts, .int .i64 tn, .int .i64 a] (by have h := fill_one4 zTok (.int .i64 tk) (.string ts) (.int .i64 tn) (.int .i64 a) rfl; simpa [L.evE, L.lk, Act.eval] using h) ?_
              have HPN := Lib.hid (heap_alloc_new wg (.cells #[.int .i64 tk, .string ts, .int .i64 tn, .int .i64 a] 38))
              have HOW := Lib.hid ((HU5.out.only HOG.out (by simp)).only ((Only.refl [] wg).alloc (.cells #[.int .i64 tk, .string ts, .int .i64 tn, .int .i64 a] 38)) (by simp))
              refine ge_append_row rfl rfl rfl (by rfl) (.tmp 58) (.tmp 60) 23 rfl w.heap.size 38 4 40 zTok Tryd.underlying23 infoTok rfl (by omega) (.slice A l.length c) l.length (toks l) (by simp [L.evE, L.lk, Act.eval]) HOW.out.own (some ⟨wg.heap.size, 0, none⟩) 1 1 [.int .i64 tk, .string ts, .int .i64 tn, .int .i64 a] (by simp [L.evE, L.lk, Act.eval]) rfl (fun _ => ⟨_, rfl, cellsAt_row HPN.out⟩) (by simp [Value.oneCell']) (by have := hln.out; unfold maxLen; omega) (by have := hln.out; omega) (by have := HO5.out.size; have := HOG.out.size; simp; omega) ?_
              intro A8 c8 w8 hb8 ho8 hk8
              refine ⟨by rw [HSS.out]; exact ho8, ?_⟩
              have HO8 := Lib.hid (show Only S wg w8 by rw [HSS.out]; exact (((Only.refl [] wg).alloc (.cells #[.int .i64 tk, .string ts, .int .i64 tn, .int .i64 a] 38)).mono (by simp)).trans ho8)
              have HB8 := Lib.hid (show w8.ownsRow w.heap.size 38 4 (.slice A8 (l.length + 1) c8) (l.length + 1) (toks (l ++ [((tk, ts, tn, a) : Tok)])) by rw [toks_snoc]; exact hb8)
              have HK8 := Lib.hid (show ∀ k, (Value.slice A8 (l.length + 1) c8).ownBlock = some k → k ≠ g from fun k hk => by
                rcases hk8 k hk with h | h
                · exact HU5.out.ne k h
                · have h1 := heap_lt HG5.out
                  have h2 := HOG.out.size
                  simp at h
                  omega)
              clear hb8 ho8 hk8 HPN HOW
              iterate 2 (first | (refine L.ge_off rfl rfl rfl (by rfl) ?_) | (refine L.ge_move rfl rfl rfl (by rfl) rfl (by simp [L.evE, L.lk, Act.eval]; rfl) ?_) | (refine L.ge_pick rfl rfl rfl (by rfl) rfl (by simp [L.evE, L.lk, Act.eval]; rfl) (by simp [L.evE, L.lk, Act.eval]; rfl) ?_) | (refine L.ge_val rfl rfl rfl (by rfl) (by intro w' hw'; simp [execOp, L.evE, L.lk, Act.eval]; go_simp; rfl) ?_))
              have HG8 := Lib.hid (HO8.out.heap (HOG.out.heap HG5.out (by simp)) HGS.out.1)
              have c2 : w8.cell? ⟨g, 2, none⟩ = some (.slice A l.length c) := (cell_of_row _ g 2 _ _ _ HG8.out).trans rfl
              have z2 : w8.frozen? ⟨g, 2, none⟩ = false := frozen_of_row w8 g 2 _ _ HG8.out
              refine L.ge_last (w' := w8.setCell ⟨g, 2, none⟩ (.slice A8 (l.length + 1) c8)) rfl rfl (by rfl) (by simp [execOp, L.evE, L.lk, Act.eval]; go_simp) ?_
              simp only [L.puts, Act.put, goInt, List.setIfInBounds_toArray, List.set_cons_zero, List.set_cons_succ]
              have HG9 := Lib.hid (show CutAt (w8.setCell ⟨g, 2, none⟩ (.slice A8 (l.length + 1) c8)) g x a (.slice A8 (l.length + 1) c8) from heap_setCell_same w8 g 2 _ _ _ HG8.out)
              have HO9 := Lib.hid (show Only [g] w8 (w8.setCell ⟨g, 2, none⟩ (.slice A8 (l.length + 1) c8)) from (Only.refl _ _).setCell (by simp) _)
              clear c2 z2 HG8
              generalize w8.setCell ⟨g, 2, none⟩ (.slice A8 (l.length + 1) c8) = w9 at *
              have HB9 := Lib.hid (ownsRow_only HB8.out HO9.out (fun k hk => by simpa using HK8.out k hk))
              have HOA := Lib.hid (show Only [] w w9 from ((HO5.out.trans HOG.out).then HO8.out (fun i hi => .inr (HGS.out.2.2 i hi))).then HO9.out (fun i hi => by simp at hi; subst hi; exact .inr HGL.out))
              clear HB8 HO9 HO8 HU5 HG5 HR5 HO5 HOG e2 e2z HSS HGS
              have hn0 : (0 : Int) ≤ n := by omega
              have hbnd := hbd.out
              have HPA := Lib.hid (passZ_at (x, a) n hn2)
              have HPS := Lib.hid (passZ_size (x, a) n hn2)
              have HPX := Lib.hid (pass_any g n x a (.slice A8 (l.length + 1) c8) w9 HG9.out (by omega) hn2 hbnd.1 (by omega))
              obtain ⟨px, hpx⟩ : ∃ px, px = passZ (x, a) n := ⟨_, rfl⟩
              obtain ⟨p1, p2⟩ := px
              have q1 : x.extract n x.size = p1 := (congrArg Prod.fst hpx).symm
              have q2 : a + Lib.runeCount (x.extract 0 n) = p2 := (congrArg Prod.snd hpx).symm
              rw [q1, q2] at HPX
              rw [← hpx] at HPA HPS
              have HPS2 : Hid (p1.size = x.size - n) := HPS
              have HPA2 : Hid (a ≤ p2 ∧ p2 + (p1.size : Int) ≤ a + x.size) := HPA
              have HVV := HV2.out
              rw [Int.toNat_natCast, ← hpx] at HVV
              have HV3 := Lib.hid HVV
              clear HVV HV2 hpx q1 q2
              go_wp2_with (go_at_call 31; refine HPX.out.mono ?_; rintro e w10 ⟨rfl, hg10, ho10⟩; have HG10 := Lib.hid hg10; have HB10 := Lib.hid (ownsRow_only HB9.out ho10 (fun k hk => by simpa using HK8.out k hk)); have HO10 := Lib.hid (HOA.out.then ho10 (fun i hi => by simp at hi; subst hi; exact .inr HGL.out)); clear hg10 ho10; refine (fun (h : Hid _) => h.out) ?_)
              refine Lib.hid ?_
              have HBB := Lib.hid (blanksZ_bound p1.size (p1, p2) 8192 (show 0 ≤ p2 by have := HPA2.out; omega) (show p2 + (p1.size : Int) ≤ 8192 by have := HPA2.out; omega))
              have HBL := Lib.hid (blanks_any g p1 p2 (.slice A8 (l.length + 1) c8) w10 HG10.out (by have := HPA2.out; omega) (by have := HPA2.out; omega))
              obtain ⟨f, rfl⟩ : ∃ m, f = m + 1 := ⟨f - 1, by have := hf.out; omega⟩
              have HVV := HV3.out
              rw [cutLoop_tail] at HVV
              have HBB2 : Hid (0 ≤ (blanks (p1, p2)).2 ∧ (blanks (p1, p2)).2 + (blanks (p1, p2)).1.size ≤ 8192 ∧ (blanks (p1, p2)).1.size ≤ p1.size) := HBB
              clear HBB HV3
              generalize blanks (p1, p2) = bx at *
              obtain ⟨b1, b2⟩ := bx
              have HV4 := Lib.hid HVV
              clear HVV HG9 HB9 HPX HOA
              go_wp2_with (go_at_call 29; refine HBL.out.mono ?_; rintro e w11 ⟨rfl, hg11, ho11⟩; have HG11 := Lib.hid hg11; have HB11 := Lib.hid (ownsRow_only HB10.out ho11 (fun k hk => by simpa using HK8.out k hk)); have HO11 := Lib.hid (HO10.out.then ho11 (fun i hi => by simp at hi; subst hi; exact .inr HGL.out)); clear hg11 ho11)
              go_roundw
              case rel =>
                have hll : (l ++ [((tk, ts, tn, a) : Tok)]).length = l.length + 1 := by simp
                refine ⟨b1, b2, l ++ [(tk, ts, tn, a)], A8, c8, f, Lib.hid (by rw [hll]; exact HG11.out), Lib.hid ⟨by rw [hll]; exact HB11.out, by rw [hll]; exact HK8.out⟩, HV4, Lib.hid ⟨HBB2.out.1, HBB2.out.2.1⟩, Lib.hid (by rw [hll]; have := hln.out; omega), Lib.hid (by have := HBB2.out.2.2; have := HPS2.out; have := hf.out; omega), HO11⟩
              case measure =>
                rw [leftN_at HG11.out, HL.out]
                have := HBB2.out.2.2
                have := HPS2.out
                omega
            · have hv' := hv
              rw [if_pos (by simpa using hte)] at hv'
              have HV2 := Lib.hid hv'
              have hte' : ¬ te = 0 := hte
              clear hv hv' HV HTL
              go_wp2
              generalize (w3.alloc (.cells #[.int .i64 tk, .string ts, .int .i64 tn, .int .i64 ta] 38)) = w4 at *
              refine L.grow_start [] 8 ((0, true, false) :: (1, true, false) :: (2, true, false) :: (3, true, false) :: (4, true, false) :: (5, true, true) :: (6, true, true) :: (7, true, true) :: []) (by kernel_rfl) (([], [9], some 44) :: ([], [6], some 45) :: ([1], [45], some 46) :: ([2], [46], some 47) :: ([3], [47], some 48) :: ([], [], some 2) :: ([0, 5, 0, 5], [44], some 3) :: ([4, 6, 0, 1, 2, 3, 4, 5, 6], [48], some 4) :: []) (by kernel_rfl) (by kernel_rfl) (n := 8) rfl (by kernel_rfl) (fun _ _ _ _ _ h => h) (fun wg hog => ?_)
              refine L.growe_start (N := 78) (by rfl) ?_
              have e1 : ∀ w', Only [] wg w' → w'.cell? ⟨g, 1, none⟩ = some (.int .i64 a) := fun w' q => (cell_of_row w' g 1 _ _ _ ((hog.trans q).heap HG4.out (by simp))).trans rfl
              have HOG := Lib.hid hog
              clear hog
              iterate 8 (first | (refine L.ge_off rfl rfl rfl (by rfl) ?_) | (refine L.ge_move rfl rfl rfl (by rfl) rfl (by simp [L.evE, L.lk, Act.eval]; rfl) ?_) | (refine L.ge_pick rfl rfl rfl (by rfl) rfl (by simp [L.evE, L.lk, Act.eval]; rfl) (by simp [L.evE, L.lk, Act.eval]; rfl) ?_) | (refine L.ge_val rfl rfl rfl (by rfl) (by intro w' hw'; simp [execOp, L.evE, L.lk, Act.eval]; go_simp; rfl) ?_))
              refine L.ge_done ?_
              simp only [L.puts, Act.put, goInt, List.setIfInBounds_toArray, List.set_cons_zero, List.set_cons_succ]
              go_wp2
              go_ret3
              refine ⟨none, 0, ?_, ?_, (HO4.out.trans HOG.out).nil_below⟩
              · rw [HV2.out]; rfl
              · rw [HV2.out]; exact ownsRow_nil _ _ _ _
end Go.Proofs.YtlikjknakplamaaDoor.Print
/-! ### EShow -/
namespace Go.Proofs.YtlikjknakplamaaDoor.Print
open Go.RowKit Go.Proofs.YtlikjknakplamaaDoorW.PrintWords Go.Proofs.YtlikjknakplamaaDoorW.PrintLast Go.Proofs.YtlikjknakplamaaDoorW.PrintMore
set_option linter.unusedSimpArgs false
set_option linter.unusedVariables false
def showZ (n : Int) : ByteArray := ⟨(Lib.itoa n).toArray⟩
theorem show_any (n : Int) (w : World) (h0 : -9223372036854775808 ≤ n) (h1 : n ≤ 9223372036854775807) (hT : Tabs w) :
    Calls Tryd.prog 20 #[.int .i64 n] w fun e w' => e = .returned (.string (showZ n)) ∧ Below w.heap.size w w' := by
  obtain ⟨V, hV⟩ : ∃ V, V = showZ n := ⟨_, rfl⟩
  have hc := Lib.hid (show Calls Tryd.prog 36 #[.int .i64 n] w fun e w' => e = .returned (.string V) ∧ Below w.heap.size w w' from
    (Tryd.strconv_Itoa n h0 h1 w hT.ten).mono fun e w' ⟨he, k, os, hw⟩ => ⟨by rw [he, hV]; rfl, hw ▸ Lib.below_grow _ w (Nat.le_refl _) k os⟩)
  rw [← hV]
  clear hV h0 h1 hT
  go_enter Tryd.func20, Tryd.ntmps20
  go_wp2_with (go_at_call 36; refine hc.out.mono ?_; rintro e w1 ⟨rfl, hb⟩; have HB := Lib.hid hb; clear hb)
  go_ret
  exact ⟨rfl, HB.out⟩
end Go.Proofs.YtlikjknakplamaaDoor.Print
/-! ### EAwake -/
namespace Go.Proofs.YtlikjknakplamaaDoor.Print
open Go.RowKit Go.Proofs.YtlikjknakplamaaDoorW.PrintWords Go.Proofs.YtlikjknakplamaaDoorW.PrintLast Go.Proofs.YtlikjknakplamaaDoorW.PrintMore
set_option linter.unusedSimpArgs false
set_option linter.unusedVariables false
def exText : ByteArray := ⟨#[97, 49, 32, 58, 61, 32, 50, 48, 32, 35, 32, 120]⟩
def exToks : List Tok := [(1, ⟨#[97, 49]⟩, 0, 0), (4, ⟨#[58, 61]⟩, 0, 3), (2, ⟨#[50, 48]⟩, 20, 6), (0, ⟨#[]⟩, 0, 12)]
theorem ex_cut : cutZ exText = (exToks, 0, 0) := by kernel_rfl
theorem ex_num : numZ ⟨#[50, 48]⟩ = (20, true) := by kernel_rfl
theorem ex_show : showZ (-7) = ⟨#[45, 55]⟩ := by
  unfold showZ Lib.itoa
  rw [if_pos (by decide), show (-7 : Int).natAbs = 7 from rfl]
  unfold Lib.decDigits
  rw [dif_pos (by decide)]
  rfl
def malthouselaw01_awake.f : Option Bool := some true
set_option maxHeartbeats 4000000 in
set_option maxRecDepth 100000 in
theorem malthouselaw01_awake.calls (r : Bool) (w : World) (hT : Tabs w) (h : malthouselaw01_awake.f = some r) :
    Calls Tryd.prog 12 #[] w fun e w' => e = .returned (.bool r) ∧ Below w.heap.size w w' := by
  obtain rfl := Option.some.inj h
  clear h
  have HTB := Lib.hid hT
  have hu3 := Tryd.underlying38
  have hc1 := Lib.hid (cut_walk exText w (by decide) hT)
  rw [ex_cut] at hc1
  have hc1 : Hid (Calls Tryd.prog 13 #[.string ⟨#[97, 49, 32, 58, 61, 32, 50, 48, 32, 35, 32, 120]⟩] w fun e w' => ∃ A c, e = .returned (.tuple #[.slice A 4 c, .int .i64 0, .int .i64 0]) ∧ w'.ownsRow w.heap.size 38 4 (.slice A 4 c) 4 (toks exToks) ∧ Below w.heap.size w w') := hc1
  have hc2 := Lib.hid (fun W => number_any ⟨#[50, 48]⟩ W)
  rw [ex_num] at hc2
  have hc3 := Lib.hid (fun W (hW : Tabs W) => show_any (-7) W (by decide) (by decide) hW)
  rw [ex_show] at hc3
  clear hT
  go_enter Tryd.func12, Tryd.ntmps12
  go_wp2_with (first
    | (go_at_call 13; refine hc1.out.mono ?_; rintro e w1 ⟨A, c, rfl, how, hb1⟩; have HOW := Lib.hid how; have HB1 := Lib.hid hb1; clear how hb1)
    | (go_at_call 18; refine (hc2.out _).mono ?_; rintro e w2 ⟨rfl, hb2⟩; have HB2 := Lib.hid (below_then HB1.out HB1.out.size hb2); have HO2 := Lib.hid (Only.of_below hb2); clear hb2; refine (fun (h : Hid _) => h.out) ?_))
  refine Lib.hid ?_
  have ho := ownsRow_only HOW.out HO2.out (by simp)
  rcases ho.2 with ⟨_, h0⟩ | ⟨g, cap, cur, e1, hb, hh, hn, _, hs, ht⟩
  · cases h0
  · injection e1 with e1 e2 e3
    subst e1 e3
    have hcl := Lib.hid (show ∀ j u, (toks exToks)[j]? = some u → w2.cell? ⟨g, j, none⟩ = some u from fun j u hj => by
      rw [cell_of_row w2 g j _ _ _ hh, ← Array.getElem?_toList]
      rw [← ht, List.getElem?_take] at hj
      split at hj
      · exact hj
      · cases hj)
    clear ho hh hs ht hn hb e2 HO2 HOW HB1
    have q0 : w2.cell? ⟨g, 0, none⟩ = some (.int .i64 1) := hcl.out 0 _ rfl
    have q1 : w2.cell? ⟨g, 1, none⟩ = some (.string ⟨#[97, 49]⟩) := hcl.out 1 _ rfl
    have q2 : w2.cell? ⟨g, 2, none⟩ = some (.int .i64 0) := hcl.out 2 _ rfl
    have q3 : w2.cell? ⟨g, 3, none⟩ = some (.int .i64 0) := hcl.out 3 _ rfl
    have q8 : w2.cell? ⟨g, 8, none⟩ = some (.int .i64 2) := hcl.out 8 _ rfl
    have q9 : w2.cell? ⟨g, 9, none⟩ = some (.string ⟨#[50, 48]⟩) := hcl.out 9 _ rfl
    have q10 : w2.cell? ⟨g, 10, none⟩ = some (.int .i64 20) := hcl.out 10 _ rfl
    have q11 : w2.cell? ⟨g, 11, none⟩ = some (.int .i64 6) := hcl.out 11 _ rfl
    have q12 : w2.cell? ⟨g, 12, none⟩ = some (.int .i64 0) := hcl.out 12 _ rfl
    have q13 : w2.cell? ⟨g, 13, none⟩ = some (.string ⟨#[]⟩) := hcl.out 13 _ rfl
    have q14 : w2.cell? ⟨g, 14, none⟩ = some (.int .i64 0) := hcl.out 14 _ rfl
    have q15 : w2.cell? ⟨g, 15, none⟩ = some (.int .i64 12) := hcl.out 15 _ rfl
    go_wp2_with (go_at_call 20; refine (hc3.out _ (HTB.out.below HB2.out)).mono ?_; rintro e w3 ⟨rfl, hb3⟩; have HB3 := Lib.hid (below_then HB2.out HB2.out.size hb3); clear hb3)
    go_ret
    exact ⟨by rfl, HB3.out⟩
end Go.Proofs.YtlikjknakplamaaDoor.Print
/-! ### NmPure -/
namespace Go.Proofs.YtlikjknakplamaaDoor.Print
open Go.RowKit Go.Proofs.YtlikjknakplamaaDoorW.PrintWords Go.Proofs.YtlikjknakplamaaDoorW.PrintLast Go.Proofs.YtlikjknakplamaaDoorW.PrintMore
set_option linter.unusedSimpArgs false
set_option linter.unusedVariables false
theorem wrap_small (x : Int) (h0 : -9223372036854775808 ≤ x) (h1 : x ≤ 9223372036854775807) : wrap64 x = x := by unfold wrap64; omega
end Go.Proofs.YtlikjknakplamaaDoor.Print
/-! ### LxLaw4 -/
namespace Go.Proofs.YtlikjknakplamaaDoor.Print
open Go.RowKit Go.Proofs.YtlikjknakplamaaDoorW.PrintWords Go.Proofs.YtlikjknakplamaaDoorW.PrintLast Go.Proofs.YtlikjknakplamaaDoorW.PrintMore
set_option linter.unusedSimpArgs false
set_option linter.unusedVariables false
theorem lex_len : ∀ (m : Nat) (rs : List Nat) (n k : Nat), rs.length ≤ m → (lex rs n k).1.length ≤ rs.length + 1 := by
  intro m
  induction m with
  | zero =>
    intro rs n k hm
    obtain rfl := List.eq_nil_of_length_eq_zero (show rs.length = 0 by omega)
    rw [lex_end [] n k rfl]
    simp
  | succ m ih =>
    intro rs n k hm
    have hp : (past rs).length + blanksN false rs = rs.length := drop_blanks_len rs
    by_cases h : past rs = []
    · rw [lex_end rs n k h]; simp
    · by_cases hk : k = 2000
      · subst hk; rw [lex_full rs n h]; simp
      · by_cases he : (tokR (past rs)).2.2 = 0
        · obtain ⟨g1, g2, _⟩ := tokR_good _ he
          have ih' := ih ((past rs).drop (tokR (past rs)).2.1) (n + blanksN false rs + (tokR (past rs)).2.1) (k + 1) (by rw [List.length_drop]; omega)
          rw [List.length_drop] at ih'
          have ih2 : (rest rs n k).1.length ≤ (past rs).length - (tokR (past rs)).2.1 + 1 := ih'
          rw [lex_more rs n k h hk he]
          split
          · simp
          · simp only [List.length_cons]; omega
        · rw [lex_err rs n k h hk he]; simp
end Go.Proofs.YtlikjknakplamaaDoor.Print
/-! ### LxLaw7 -/
namespace Go.Proofs.YtlikjknakplamaaDoor.Print
open Go.RowKit Go.Proofs.YtlikjknakplamaaDoorW.PrintWords Go.Proofs.YtlikjknakplamaaDoorW.PrintLast Go.Proofs.YtlikjknakplamaaDoorW.PrintMore Go.Lib
set_option linter.unusedSimpArgs false
set_option linter.unusedVariables false
theorem enc10 : enc 10 = [10] := enc_small 10 (by omega)
theorem bad_join (t x : List UInt8) (h : t ≠ [] ∧ (decodeL t).1 = 65533 ∧ (decodeL t).2 = 1) : t ++ 10 :: x ≠ [] ∧ (decodeL (t ++ 10 :: x)).1 = 65533 ∧ (decodeL (t ++ 10 :: x)).2 = 1 := by
  obtain ⟨hne, h1, h2⟩ := h
  have hne' : t ++ 10 :: x ≠ [] := by simp
  refine ⟨hne', ?_⟩
  by_cases hv : (decodeL (t ++ 10 :: x)).1 = 65533 ∧ (decodeL (t ++ 10 :: x)).2 = 1
  · exact hv
  · exfalso
    obtain ⟨ok, e, hl⟩ := dec_ok _ hne' hv
    generalize hr : (decodeL (t ++ 10 :: x)).1 = r at *
    generalize hw : (decodeL (t ++ 10 :: x)).2 = w at *
    have hpos : 1 ≤ t.length := List.length_pos_iff.2 hne
    by_cases hle : w ≤ t.length
    · rw [List.take_append_of_le_length hle] at e
      have ht : t = enc r ++ t.drop w := by rw [e, List.take_append_drop]
      have hd := dec_app r ok (t.drop w)
      rw [← ht] at hd
      rw [hd] at h1 h2
      exact ok.2 ⟨h1, h2⟩
    · have hmem : (10 : UInt8) ∈ enc r := by
        rw [e]
        refine List.mem_iff_getElem?.2 ⟨t.length, ?_⟩
        rw [List.getElem?_take, if_pos (by omega), List.getElem?_append_right (Nat.le_refl _), Nat.sub_self]
        rfl
      by_cases h10 : r = 10
      · subst h10
        rw [enc10] at hl
        simp at hl
        omega
      · exact enc_no 10 (by omega) r h10 10 hmem rfl
def joinS (a b : ByteArray) : ByteArray := (a ++ (⟨#[10]⟩ : ByteArray)) ++ b
theorem joinS_size (a b : ByteArray) : (joinS a b).size = a.size + 1 + b.size := by
  unfold joinS
  rw [ByteArray.size_append, ByteArray.size_append]
  rfl
theorem joinS_list (a b : ByteArray) : (joinS a b).data.toList = a.data.toList ++ 10 :: b.data.toList := by
  unfold joinS
  simp
theorem txt_join (u v : List Nat) : txt (u ++ 10 :: v) = txt u ++ 10 :: txt v := by
  rw [txt_append, txt_cons, enc10]
  rfl
theorem join_ok {u v : List Nat} (hu : ∀ r ∈ u, okR r) (hv : ∀ r ∈ v, okR r) : ∀ r ∈ u ++ 10 :: v, okR r := by
  intro r hr
  rcases List.mem_append.1 hr with h | h
  · exact hu r h
  · rcases List.mem_cons.1 h with rfl | h
    · exact ok_small 10 (by omega)
    · exact hv r h
def moveT (d : Int) (t : Tok) : Tok := (t.1, t.2.1, t.2.2.1, t.2.2.2 + d)
/-- What the law asks. -/
structure JoinOk (A B C : List Tok × Int × Int) : Prop where
  left : A.2.1 ≠ 0 → C.2.1 ≠ 0
  right : B.2.1 ≠ 0 → C.2.1 ≠ 0
  lens : A.1.length ≤ 2001 ∧ B.1.length ≤ 2001
  both : A.2.1 = 0 → B.2.1 = 0 → 1 ≤ B.1.length ∧ ∃ (l : List Tok) (t : Tok), A.1 = l ++ [t] ∧ 0 ≤ t.2.2.2 ∧ t.2.2.2 ≤ 2000 ∧ (∀ x ∈ B.1, 0 ≤ x.2.2.2 ∧ x.2.2.2 ≤ 2000) ∧
    (2001 < l.length + B.1.length → C.2.1 = 2) ∧ (l.length + B.1.length ≤ 2001 → C.2.1 = 0 ∧ C.1 = l ++ B.1.map (moveT (t.2.2.2 + 1)))
theorem lex_last : ∀ (m : Nat) (u : List Nat) (n k : Nat), u.length ≤ m → (lex u n k).2.1 = 0 → ∃ l, (lex u n k).1 = l ++ [(noTokR, n + u.length)] := by
  have hend : ∀ (u : List Nat) (n k : Nat), past u = [] → ∃ l, (lex u n k).1 = l ++ [(noTokR, n + u.length)] := by
    intro u n k hp
    rw [lex_end u n k hp, (past_nil u).1 hp]
    exact ⟨[], rfl⟩
  intro m
  induction m with
  | zero =>
    intro u n k hm h
    obtain rfl : u = [] := List.length_eq_zero_iff.1 (by omega)
    exact hend [] n k rfl
  | succ m ih =>
    intro u n k hm h
    by_cases hp : past u = []
    · exact hend u n k hp
    · by_cases hk : k = 2000
      · subst hk; rw [lex_full u n hp] at h; simp at h
      · by_cases he : (tokR (past u)).2.2 = 0
        · have hg := tokR_good _ he
          have hd : (past u).length + blanksN false u = u.length := drop_blanks_len u
          have hle : (tokR (past u)).2.1 ≤ (past u).length := hg.2.1
          rw [lex_more u n k hp hk he] at h ⊢
          by_cases hz : (rest u n k).2.1 = 0
          · rw [if_neg (by simpa using hz)]
            obtain ⟨l, hl⟩ := ih ((past u).drop (tokR (past u)).2.1) (n + blanksN false u + (tokR (past u)).2.1) (k + 1) (by rw [List.length_drop]; have := hg.1; omega) hz
            refine ⟨((tokR (past u)).1, n + blanksN false u) :: l, ?_⟩
            show _ :: (rest u n k).1 = _
            rw [show (rest u n k).1 = _ from hl, List.length_drop, show n + blanksN false u + (tokR (past u)).2.1 + ((past u).length - (tokR (past u)).2.1) = n + u.length by omega]
            rfl
          · rw [if_pos hz] at h
            exact absurd h hz
        · rw [lex_err u n k hp hk he] at h
          exact absurd h he
theorem joins_ok (a b : ByteArray) (ha : a.size ≤ 2000) (hb : b.size ≤ 2000) : JoinOk (cutZ a) (cutZ b) (cutZ (joinS a b)) := by
  have hsz := joinS_size a b
  have hbytes : ∀ (t : List UInt8) (x : List UInt8), t ≠ [] ∧ (decodeL t).1 = 65533 ∧ (decodeL t).2 = 1 → t ++ 10 :: x ≠ [] ∧ (decodeL (t ++ 10 :: x)).1 = 65533 ∧ (decodeL (t ++ 10 :: x)).2 = 1 := bad_join
  rcases text_cases a with ⟨u, hu, rfl⟩ | ⟨u, t, hu, ht, rfl⟩
  · rcases text_cases b with ⟨v, hv, rfl⟩ | ⟨v, t, hv, ht, rfl⟩
    · have e : joinS (str u) (str v) = str (u ++ 10 :: v) := of_list (by rw [joinS_list, str_list, str_list, txt_join])
      rw [e] at hsz ⊢
      have hlu : u.length ≤ 2000 := by have := txt_len u; have := str_size u; omega
      have hlv : v.length ≤ 2000 := by have := txt_len v; have := str_size v; omega
      rw [cut_valid u hu (by omega), cut_valid v hv (by omega), cut_valid _ (join_ok hu hv) (by omega)]
      have hL1 := lex_len u.length u 0 0 (Nat.le_refl _)
      have hL2 := lex_len v.length v 0 0 (Nat.le_refl _)
      have hj := lex_join u.length u v 0 0 (Nat.le_refl _)
      have hfail := lex_fail v.length v 0 0 (u.length + 1) ((lex u 0 0).1.length - 1) (Nat.le_refl _) (by omega)
      unfold joinedL at hj
      rw [Nat.zero_add, Nat.zero_add] at hj
      have hcz : ∀ w : List Nat, (cutR w).2.1 = (lex w 0 0).2.1 := by
        intro w
        unfold cutR
        split
        · rename_i h; exact h.symm
        · rfl
      refine ⟨?_, ?_, ?_, ?_⟩
      · rw [hcz, hcz]
        intro h
        rw [hj, if_pos h]
        exact h
      · rw [hcz, hcz]
        intro h
        rw [hj]
        split
        · assumption
        · rw [if_pos (hfail h)]
          exact hfail h
      · have : ∀ w : List Nat, (cutR w).1.length ≤ (lex w 0 0).1.length := by
          intro w
          unfold cutR
          split
          · simp
          · simp
        have h1 := this u
        have h2 := this v
        omega
      · rw [hcz, hcz, hcz]
        intro h1 h2
        obtain ⟨l1, e1⟩ := lex_last u.length u 0 0 (Nat.le_refl _) h1
        obtain ⟨l2, e2⟩ := lex_last v.length v 0 0 (Nat.le_refl _) h2
        have hri := lex_rising v.length v 0 0 (Nat.le_refl _)
        have hb1 : (cutR u).1 = (lex u 0 0).1.map tokAt := by unfold cutR; rw [if_pos h1]
        have hb2 : (cutR v).1 = (lex v 0 0).1.map tokAt := by unfold cutR; rw [if_pos h2]
        have hs := lex_shift v.length v 0 0 (u.length + 1) ((lex u 0 0).1.length - 1) (Nat.le_refl _) h2 (by omega)
        rw [Nat.zero_add] at hs
        have hm : ∀ x ∈ (lex v 0 0).1.map tokAt, 0 ≤ x.2.2.2 ∧ x.2.2.2 ≤ 2000 := by
          intro x hx
          obtain ⟨y, hy, rfl⟩ := List.mem_map.1 hx
          obtain ⟨i, hi, rfl⟩ := List.mem_iff_getElem.1 hy
          obtain ⟨_, r2, _⟩ := rising_at _ _ _ (hri.1 h2).2 i hi
          show (0 : Int) ≤ (((lex v 0 0).1[i].2 : Nat) : Int) ∧ (((lex v 0 0).1[i].2 : Nat) : Int) ≤ 2000
          omega
        have hl1 : (lex u 0 0).1.length = l1.length + 1 := by rw [e1, List.length_append]; rfl
        have hl2 : (lex v 0 0).1.length = l2.length + 1 := by rw [e2, List.length_append]; rfl
        rw [hj, if_neg (by rw [h1]; simp), hb1, hb2]
        rw [hl1, Nat.add_sub_cancel] at hs ⊢
        refine ⟨by rw [List.length_map]; omega, l1.map tokAt, tokAt (noTokR, 0 + u.length), by rw [e1, List.map_append]; rfl, ?_, ?_, hm, ?_, ?_⟩
        · show (0 : Int) ≤ ((0 + u.length : Nat) : Int); omega
        · show ((0 + u.length : Nat) : Int) ≤ 2000; omega
        · rw [List.length_map, List.length_map]
          intro hh
          have e := hs.2 hh
          rw [if_pos (by rw [e]; decide)]
          exact e
        · rw [List.length_map, List.length_map]
          intro hh
          have e := hs.1 hh
          have e0 : (lex (u ++ 10 :: v) 0 0) = (l1 ++ (lex v 0 0).1.map (shiftT (u.length + 1)), 0, 0) := by
            rw [hj, if_neg (by rw [h1]; simp), hl1, Nat.add_sub_cancel, if_neg (by rw [e]; simp), e, e1]
            simp
          refine ⟨by rw [if_neg (by rw [e]; simp)], ?_⟩
          unfold cutR
          rw [e0, if_pos rfl, List.map_append, List.map_map, List.map_map]
          refine congrArg (l1.map tokAt ++ ·) (List.map_congr_left ?_)
          intro x _
          show tokAt (shiftT (u.length + 1) x) = moveT _ (tokAt x)
          unfold tokAt shiftT moveT
          simp only
          rw [show (((x.2 + (u.length + 1) : Nat)) : Int) = (x.2 : Int) + (((0 + u.length : Nat) : Int) + 1) by omega]
    · have e : joinS (str u) (strT v t) = strT (u ++ 10 :: v) t := of_list (by rw [joinS_list, str_list, strT_list, txt_join]; simp)
      rw [e] at hsz ⊢
      have hlu : u.length ≤ 2000 := by have := txt_len u; have := str_size u; omega
      rw [cut_valid u hu (by omega), cut_bad v t hv ht (by omega), cut_bad _ t (join_ok hu hv) ht (by omega)]
      refine ⟨fun _ => by simp, fun _ => by simp, ⟨?_, by simp⟩, fun _ h => by simp at h⟩
      have hL1 := lex_len u.length u 0 0 (Nat.le_refl _)
      unfold cutR
      split
      · simp; omega
      · simp
  · have e : joinS (strT u t) b = strT u (t ++ 10 :: b.data.toList) := of_list (by rw [joinS_list, strT_list]; simp)
    rw [e] at hsz ⊢
    have hlb : (cutZ b).1.length ≤ 2001 := by
      rcases text_cases b with ⟨v, hv, rfl⟩ | ⟨v, t', hv, ht', rfl⟩
      · have hlv : v.length ≤ 2000 := by have := txt_len v; have := str_size v; omega
        have hL1 := lex_len v.length v 0 0 (Nat.le_refl _)
        rw [cut_valid v hv (by omega)]
        unfold cutR
        split
        · simp; omega
        · simp
      · rw [cut_bad v t' hv ht' (by omega)]; simp
    rw [cut_bad u t hu ht (by omega), cut_bad u _ hu (bad_join t _ ht) (by omega)]
    exact ⟨fun _ => by simp, fun _ => by simp, ⟨by simp, hlb⟩, fun h => by simp at h⟩
end Go.Proofs.YtlikjknakplamaaDoor.Print
/-! ### Print1 -/
namespace Go.Proofs.YtlikjknakplamaaDoor.Print
open Go.RowKit Go.Proofs.YtlikjknakplamaaDoorW.PrintWords Go.Proofs.YtlikjknakplamaaDoorW.PrintLast Go.Proofs.YtlikjknakplamaaDoorW.PrintMore
set_option linter.unusedVariables false
set_option linter.unusedSimpArgs false
theorem eqA38 (d : Nat) (w : World) (x0 y0 : Int) (x1 y1 : ByteArray) (x2 y2 : Int) (x3 y3 : Int) :
    (Op.equalIn (d + 2) 38 (.agg #[.int .i64 x0, .string x1, .int .i64 x2, .int .i64 x3]) (.agg #[.int .i64 y0, .string y1, .int .i64 y2, .int .i64 y3])).run Tryd.prog w = .ok (x0 == y0 && (x1.toList == y1.toList && (x2 == y2 && (x3 == y3)))) w := by
  refine eqA_of Tryd.underlying38 (by kernel_rfl) ?_
  refine eqf_cons (by rfl) (by go_simp; rfl) (by go_simp; rfl) (by go_simp) ?_
  refine eqf_cons (by rfl) (by go_simp; rfl) (by go_simp; rfl) (by go_simp) ?_
  refine eqf_cons (by rfl) (by go_simp; rfl) (by go_simp; rfl) (by go_simp) ?_
  exact eqf_last (by rfl) (by go_simp; rfl) (by go_simp; rfl) (by go_simp)
end Go.Proofs.YtlikjknakplamaaDoor.Print
/-! ### Print7 -/
namespace Go.Proofs.YtlikjknakplamaaDoor.Print
open Go.RowKit Go.Proofs.YtlikjknakplamaaDoorW.PrintWords Go.Proofs.YtlikjknakplamaaDoorW.PrintLast Go.Proofs.YtlikjknakplamaaDoorW.PrintMore
set_option linter.unusedVariables false
set_option linter.unusedSimpArgs false
attribute [local go_sem high] eqA38
def malthouselaw01_Same.l0 : Nat → List (S38) → List (S38) → Int → Option (Bool)
  | 0, _, _, _ => none
  | k + 1, x0, x1, x5 => if x5 < (x0.length : Int) then (if 0 ≤ x5 then (if x5 < (x1.length : Int) then (if (!(((rd_T38 x0 x5).f0) == ((rd_T38 x1 x5).f0)) || (!((((rd_T38 x0 x5).f1).toList) == (((rd_T38 x1 x5).f1).toList)) || (!(((rd_T38 x0 x5).f2) == ((rd_T38 x1 x5).f2)) || (!(((rd_T38 x0 x5).f3) == ((rd_T38 x1 x5).f3)))))) = true then (some false) else (malthouselaw01_Same.l0 k x0 x1 (wrap64 (x5 + 1)))) else (none)) else (none)) else (some true)
def malthouselaw01_Same.f (k : Nat) (l0 : List (S38)) (l1 : List (S38)) : Option (Bool) := if (l0.length : Int) = (l1.length : Int) then (malthouselaw01_Same.l0 k l0 l1 0) else (some false)
set_option maxHeartbeats 8000000 in
set_option maxRecDepth 100000 in
theorem malthouselaw01_Same.calls (k : Nat) (A0 : Option Addr) (c0 : Nat) (l0 : List (S38)) (A1 : Option Addr) (c1 : Nat) (l1 : List (S38)) (r : Bool) (w : World) (hr0 : Kd.C k38 w A0 l0.length l0) (hc0 : l0.length ≤ c0) (hr1 : Kd.C k38 w A1 l1.length l1) (hc1 : l1.length ≤ c1) (h : malthouselaw01_Same.f k l0 l1 = some r) :
    Calls Tryd.prog 15 #[.slice A0 l0.length c0, .slice A1 l1.length c1] w fun e w' => e = .returned (.bool r) ∧ Drawn0 w w' := by
  have hu38 := Tryd.underlying38
  have HR0 := Aside0.mk hr0
  have HC0 := Aside0.mk hc0
  clear hr0 hc0
  have HR1 := Aside0.mk hr1
  have HC1 := Aside0.mk hc1
  clear hr1 hc1
  have H : (if (l0.length : Int) = (l1.length : Int) then (malthouselaw01_Same.l0 k l0 l1 0) else (some false)) = some r := h
  clear h
  by_cases c3 : (l0.length : Int) = (l1.length : Int)
  · rw [if_pos c3] at H
    have c3b0 : ((l0.length : Int) == (l1.length : Int)) = true := beq_iff_eq.mpr c3
    have c3b1 : ((l0.length : Int) != (l1.length : Int)) = false := bne_eq_false_iff_eq.mpr c3
    have c3b2 : (l0.length == l1.length) = true := by first | simpa using c3 | (simp at c3 ⊢; omega)
    clear c3
    have H' := Aside0.mk H
    clear H
    go_enter Tryd.func15, Tryd.ntmps15
    go_wp2
    repeat (go_quiet (fail); try go_wp2)
    go_loopg [5] k (fun kq v5 w' => ∃ (x5_1 : Int), v5 = .int .i64 x5_1 ∧ Aside0 (malthouselaw01_Same.l0 kq l0 l1 x5_1 = some r) ∧ Aside0 (kq ≤ k) ∧ Drawn0 w w')
    case atStart => exact ⟨(0), (by first | rfl | (simp; done) | (simp [*]; done)), H', ⟨Nat.le_refl _⟩, by repeat (first | exact Drawn0.refl _ | apply Drawn0.step)⟩
    case round =>
      clear H'
      try clear c1
      try clear p2
      try clear c3
      try clear c3b0
      try clear c3b1
      try clear c3b2
      obtain ⟨x5_1, rfl, HA, HK1, ⟨m1, rfl⟩⟩ := hrel
      cases gk with
      | zero => exact absurd HA.out (by simp [malthouselaw01_Same.l0])
      | succ k1 =>
        have H := HA.out
        clear HA
        simp only [malthouselaw01_Same.l0] at H
        by_cases c4 : x5_1 < (l0.length : Int)
        · rw [if_pos c4] at H
          have c4b0 : decide (x5_1 < (l0.length : Int)) = true := decide_eq_true c4
          clear c4
          by_cases c5 : 0 ≤ x5_1
          · rw [if_pos c5] at H
            have c5b0 : decide (0 ≤ x5_1) = true := decide_eq_true c5
            clear c5
            by_cases c6 : x5_1 < (l1.length : Int)
            · rw [if_pos c6] at H
              have c6b0 : decide (x5_1 < (l1.length : Int)) = true := decide_eq_true c6
              clear c6
              by_cases c7 : (!(((rd_T38 l0 x5_1).f0) == ((rd_T38 l1 x5_1).f0)) || (!((((rd_T38 l0 x5_1).f1).toList) == (((rd_T38 l1 x5_1).f1).toList)) || (!(((rd_T38 l0 x5_1).f2) == ((rd_T38 l1 x5_1).f2)) || (!(((rd_T38 l0 x5_1).f3) == ((rd_T38 l1 x5_1).f3)))))) = true
              · rw [if_pos c7] at H
                have c7b0 : (!(((rd_T38 l0 x5_1).f0) == ((rd_T38 l1 x5_1).f0)) || (!((((rd_T38 l0 x5_1).f1).toList) == (((rd_T38 l1 x5_1).f1).toList)) || (!(((rd_T38 l0 x5_1).f2) == ((rd_T38 l1 x5_1).f2)) || (!(((rd_T38 l0 x5_1).f3) == ((rd_T38 l1 x5_1).f3)))))) = true := c7
                clear c7
                obtain rfl := Option.some.inj H
                have p156 : 0 ≤ (x5_1 : Int) := of_decide_eq_true (by first | (with_reducible assumption) | assumption)
                have q156 : x5_1 < (l0.length : Int) := of_decide_eq_true (by first | (with_reducible assumption) | assumption)
                obtain ⟨ad156, e156, hx156_0, hx156_1, hx156_2, hx156_3⟩ := at_T38 HR0.out x5_1 p156 q156
                cases e156
                replace p156 := eq_true p156
                replace q156 := eq_true q156
                have p157 : 0 ≤ (x5_1 : Int) := of_decide_eq_true (by first | (with_reducible assumption) | assumption)
                have q157 : x5_1 < (l1.length : Int) := of_decide_eq_true (by first | (with_reducible assumption) | assumption)
                obtain ⟨ad157, e157, hx157_0, hx157_1, hx157_2, hx157_3⟩ := at_T38 HR1.out x5_1 p157 q157
                cases e157
                replace p157 := eq_true p157
                replace q157 := eq_true q157
                go_wp2
                repeat (go_quiet (fail); try go_wp2)
                go_ret
                exact ⟨by first | rfl | (simp; done) | (simp [*]; done), by repeat (first | exact Drawn0.refl _ | apply Drawn0.step)⟩
              · rw [if_neg c7] at H
                have c7b0 : (!(((rd_T38 l0 x5_1).f0) == ((rd_T38 l1 x5_1).f0)) || (!((((rd_T38 l0 x5_1).f1).toList) == (((rd_T38 l1 x5_1).f1).toList)) || (!(((rd_T38 l0 x5_1).f2) == ((rd_T38 l1 x5_1).f2)) || (!(((rd_T38 l0 x5_1).f3) == ((rd_T38 l1 x5_1).f3)))))) = false := by simpa using c7
                clear c7
                have H' := Aside0.mk H
                clear H
                have p156 : 0 ≤ (x5_1 : Int) := of_decide_eq_true (by first | (with_reducible assumption) | assumption)
                have q156 : x5_1 < (l0.length : Int) := of_decide_eq_true (by first | (with_reducible assumption) | assumption)
                obtain ⟨ad156, e156, hx156_0, hx156_1, hx156_2, hx156_3⟩ := at_T38 HR0.out x5_1 p156 q156
                cases e156
                replace p156 := eq_true p156
                replace q156 := eq_true q156
                have p157 : 0 ≤ (x5_1 : Int) := of_decide_eq_true (by first | (with_reducible assumption) | assumption)
                have q157 : x5_1 < (l1.length : Int) := of_decide_eq_true (by first | (with_reducible assumption) | assumption)
                obtain ⟨ad157, e157, hx157_0, hx157_1, hx157_2, hx157_3⟩ := at_T38 HR1.out x5_1 p157 q157
                cases e157
                replace p157 := eq_true p157
                replace q157 := eq_true q157
                go_wp2
                repeat (go_quiet (fail); try go_wp2)
                go_roundg k1
                case measure => have := HK1.out; omega
                case rel => exact ⟨(wrap64 (x5_1 + 1)), (by first | rfl | (simp; done) | (simp [*]; done)), H', ⟨by have := HK1.out; omega⟩, by repeat (first | exact Drawn0.refl _ | apply Drawn0.step)⟩
            · rw [if_neg c6] at H
              exact absurd H (by simp)
          · rw [if_neg c5] at H
            exact absurd H (by simp)
        · rw [if_neg c4] at H
          have c4b0 : decide (x5_1 < (l0.length : Int)) = false := decide_eq_false c4
          clear c4
          obtain rfl := Option.some.inj H
          go_wp2
          repeat (go_quiet (fail); try go_wp2)
          go_ret
          exact ⟨by first | rfl | (simp; done) | (simp [*]; done), by repeat (first | exact Drawn0.refl _ | apply Drawn0.step)⟩
  · rw [if_neg c3] at H
    have c3b0 : ((l0.length : Int) == (l1.length : Int)) = false := beq_eq_false_iff_ne.mpr c3
    have c3b1 : ((l0.length : Int) != (l1.length : Int)) = true := bne_iff_ne.mpr c3
    have c3b2 : (l0.length == l1.length) = false := by first | simpa using c3 | (simp at c3 ⊢; omega)
    obtain rfl := Option.some.inj H
    go_enter Tryd.func15, Tryd.ntmps15
    go_wp2
    repeat (go_quiet (fail); try go_wp2)
    go_ret
    exact ⟨by first | rfl | (simp; done) | (simp [*]; done), by repeat (first | exact Drawn0.refl _ | apply Drawn0.step)⟩
end Go.Proofs.YtlikjknakplamaaDoor.Print
/-! ### LxLaw6 -/
namespace Go.Proofs.YtlikjknakplamaaDoor.Print
open Go.RowKit Go.Proofs.YtlikjknakplamaaDoorW.PrintWords Go.Proofs.YtlikjknakplamaaDoorW.PrintLast Go.Proofs.YtlikjknakplamaaDoorW.PrintMore Go.Lib
set_option linter.unusedSimpArgs false
set_option linter.unusedVariables false
theorem same_loop (l : List S38) (hl : l.length ≤ 1000000000) : ∀ (f i k : Nat), l.length ≤ i + f → i ≤ l.length → f < k → malthouselaw01_Same.l0 k l l (i : Int) = some true := by
  intro f
  induction f with
  | zero =>
    intro i k h1 h2 hk
    obtain ⟨k, rfl⟩ : ∃ m, k = m + 1 := ⟨k - 1, by omega⟩
    rw [malthouselaw01_Same.l0, if_neg (by omega)]
  | succ f ih =>
    intro i k h1 h2 hk
    obtain ⟨k, rfl⟩ : ∃ m, k = m + 1 := ⟨k - 1, by omega⟩
    rw [malthouselaw01_Same.l0]
    by_cases hi : i < l.length
    · rw [if_pos (by omega), if_pos (by omega), if_pos (by omega), if_neg (by simp), wrap_small _ (by omega) (by omega), show (i : Int) + 1 = ((i + 1 : Nat) : Int) by omega]
      exact ih (i + 1) k (by omega) (by omega) (by omega)
    · rw [if_neg (by omega)]
theorem same_refl (l : List S38) (hl : l.length ≤ 10000) (k : Nat) (hk : 20000 ≤ k) : malthouselaw01_Same.f k l l = some true := by
  unfold malthouselaw01_Same.f
  rw [if_pos rfl]
  exact same_loop l (by omega) l.length 0 k (by omega) (by omega) (by omega)
end Go.Proofs.YtlikjknakplamaaDoor.Print
/-! ### LxWalk7 -/
namespace Go.Proofs.YtlikjknakplamaaDoor.Print
open Go.RowKit Go.Proofs.YtlikjknakplamaaDoorW.PrintWords Go.Proofs.YtlikjknakplamaaDoorW.PrintLast Go.Proofs.YtlikjknakplamaaDoorW.PrintMore Go.Lib
set_option linter.unusedSimpArgs false
set_option linter.unusedVariables false
theorem own_open {w : World} {base : Nat} {A : Option Addr} {c : Nat} {L : List Tok} (h : w.ownsRow base 38 4 (.slice A L.length c) L.length (toks L)) (h0 : 0 < L.length) :
    ∃ g, A = some ⟨g, 0, none⟩ ∧ L.length ≤ c ∧ base ≤ g ∧ g < w.heap.size ∧ CellsAt w ⟨g, 0, none⟩ (toks L) := by
  rcases h.2 with ⟨h1, h2⟩ | ⟨g, cap, cur, e1, hb, hh, hn, _, hs, ht⟩
  · injection h1 with _ h1 _
    omega
  · injection e1 with e1 e2 e3
    subst e1 e3
    refine ⟨g, rfl, hn, hb, heap_lt hh, ?_⟩
    intro j u hj
    have e : (⟨g, 0, none⟩ : Addr).add j = ⟨g, j, none⟩ := by unfold Addr.add; split <;> simp_all
    rw [e, cell_of_row w g j _ _ _ hh, ← Array.getElem?_toList]
    rw [← ht, List.getElem?_take] at hj
    split at hj
    · exact hj
    · cases hj
theorem own_ge {w : World} {base : Nat} {e : TypeId} {size : Nat} {v : Value} {n : Nat} {xs : List Value} (h : w.ownsRow base e size v n xs) {k : Nat} (hk : v.ownBlock = some k) : base ≤ k := by
  rcases h.2 with ⟨h1, h2⟩ | ⟨g, cap, cur, e1, hb, hh, hn, _, hs, ht⟩
  · subst h1
    cases hk
  · subst e1
    obtain rfl := Option.some.inj hk
    exact hb
theorem sizeTok : (Tryd.prog.info? 38).map (·.size) = some 4 := by kernel_rfl
theorem sizeT4 (a b c d : Value) : (Tryd.prog.info? 38).map (·.size) = some (#[a, b, c, d] : Array Value).size := sizeTok
theorem zTok4 (a b c d : Value) : zTok.cells.size = (#[a, b, c, d] : Array Value).size := rfl
theorem tok_reads {w : World} {base : Nat} {A : Option Addr} {c : Nat} {L : List Tok} (h : w.ownsRow base 38 4 (.slice A L.length c) L.length (toks L)) : (L.map gTok).length ≤ c ∧ Kd.C k38 w A (L.map gTok).length (L.map gTok) := by
  have h' : w.ownsRow base 38 4 (.slice A (L.map gTok).length c) (L.map gTok).length (toks L) := by rw [List.length_map]; exact h
  have hR : Kd.R k38 38 w base (fun _ => True) (.slice A (L.map gTok).length c) (L.map gTok) := by
    refine Kd.R_of_own (w := w) (news := toks L) (fun x cs hx => ?_) (toks_reps w _) h'
    obtain rfl := k38_open hx
    exact k38_mkM _ _ _ _
  exact (Kd.R_reads' hR).2
theorem same_own {w : World} {base base' : Nat} {A B : Option Addr} {ca cb : Nat} {L : List Tok} (hA : w.ownsRow base 38 4 (.slice A L.length ca) L.length (toks L)) (hB : w.ownsRow base' 38 4 (.slice B L.length cb) L.length (toks L)) (hl : L.length ≤ 10000) :
    Calls Tryd.prog 15 #[.slice A L.length ca, .slice B L.length cb] w fun e w' => e = .returned (.bool true) ∧ Below w.heap.size w w' := by
  obtain ⟨h1, h2⟩ := tok_reads hA
  obtain ⟨h3, h4⟩ := tok_reads hB
  have := malthouselaw01_Same.calls 20000 A ca (L.map gTok) B cb (L.map gTok) true w h2 h1 h4 h3 (same_refl _ (by rw [List.length_map]; exact hl) _ (by omega))
  rw [List.length_map] at this
  exact this.mono fun e w' ⟨he, n, hn⟩ => ⟨he, hn ▸ pw_below_drewN (Below.refl _ _) n⟩
theorem toks_at : ∀ (L : List Tok) (k : Nat) (hk : k < L.length) (j : Nat) (hj : j < 4), (toks L)[k * 4 + j]? = (tcells L[k])[j]?
  | t :: L, 0, _, j, hj => by
    show (tcells t ++ toks L)[0 * 4 + j]? = _
    rw [Nat.zero_mul, Nat.zero_add, List.getElem?_append_left (by show j < 4; exact hj)]
    rfl
  | t :: L, k + 1, hk, j, hj => by
    show (tcells t ++ toks L)[(k + 1) * 4 + j]? = _
    have h4 : (tcells t).length = 4 := rfl
    rw [List.getElem?_append_right (by omega), h4, show (k + 1) * 4 + j - 4 = k * 4 + j by omega, toks_at L k (by simpa using hk) j hj]
    rfl
theorem tcell_at {w : World} {g : Nat} {L : List Tok} (h : CellsAt w ⟨g, 0, none⟩ (toks L)) (k : Nat) (hk : k < L.length) (j : Nat) (hj : j < 4) (u : Value) (hu : (tcells L[k])[j]? = some u) : w.cell? ⟨g, k * 4 + j, none⟩ = some u := by
  have e : (⟨g, 0, none⟩ : Addr).add (k * 4 + j) = ⟨g, k * 4 + j, none⟩ := by unfold Addr.add; split <;> simp_all
  rw [← e]
  exact h _ _ (by rw [toks_at L k hk j hj]; exact hu)
set_option maxHeartbeats 8000000 in
set_option maxRecDepth 100000 in
theorem lexJoins_walk (a0 a1 : ByteArray) (w : World) (w0 : a0.size ≤ 140737488351232) (w1 : a1.size ≤ 140737488351232) (hT : Tabs w) :
    Calls Tryd.prog 8 #[.string a0, .string a1] w fun e w' => e = .returned (.bool true) ∧ Below w.heap.size w w' := by
  have HTB := Lib.hid hT
  have HAW := Lib.hid (fun (W : World) (hW : Tabs W) => malthouselaw01_awake.calls true W hW rfl)
  clear hT
  go_enter Tryd.func8, Tryd.ntmps8
  go_wp2_with (go_at_call 12; refine (HAW.out _ HTB.out).mono ?_; rintro e wa ⟨rfl, hba⟩; have HBA := Lib.hid hba; clear hba; refine (fun (h : Hid _) => h.out) ?_)
  refine Lib.hid ?_
  by_cases hl0 : 2000 < a0.size
  · have hl0' : (2000 : Int) < a0.size := by omega
    go_wp2
    go_ret
    exact ⟨rfl, HBA.out⟩
  · have hl0' : (a0.size : Int) ≤ 2000 := by omega
    by_cases hl1 : 2000 < a1.size
    · have hl1' : (2000 : Int) < a1.size := by omega
      go_wp2
      go_ret
      exact ⟨rfl, HBA.out⟩
    · have hl1' : (a1.size : Int) ≤ 2000 := by omega
      have hj := joins_ok a0 a1 (by omega) (by omega)
      have hc1 := fun (W : World) (hW : Tabs W) => cut_walk a0 W (by omega) hW
      have hc2 := fun (W : World) (hW : Tabs W) => cut_walk a1 W (by omega) hW
      have hc3 := fun (W : World) (hW : Tabs W) => cut_walk (joinS a0 a1) W (by rw [joinS_size]; omega) hW
      have hjs := joinS_size a0 a1
      unfold joinS at hj hc3 hjs
      have hss : (a0 ++ (⟨#[10]⟩ : ByteArray)).size ≤ 2001 := by rw [ByteArray.size_append]; show a0.size + 1 ≤ 2001; omega
      generalize cutZ a0 = Z1 at *
      generalize cutZ a1 = Z2 at *
      generalize cutZ ((a0 ++ (⟨#[10]⟩ : ByteArray)) ++ a1) = Z3 at *
      obtain ⟨L1, E1, P1⟩ := Z1
      obtain ⟨L2, E2, P2⟩ := Z2
      obtain ⟨L3, E3, P3⟩ := Z3
      have HJ := Lib.hid hj
      have HC1 := Lib.hid hc1
      have HC2 := Lib.hid hc2
      have HC3 := Lib.hid hc3
      clear hj hc1 hc2 hc3
      have h10 : (⟨#[10]⟩ : ByteArray).size = 1 := rfl
      go_wp2_with (go_at_call 13; refine (HC1.out _ (Tabs.below HTB.out HBA.out)).mono ?_; rintro e wb ⟨A1, c1, rfl, how, hb⟩; have HO1 := Lib.hid how; have HBB := Lib.hid hb; clear how hb; refine (fun (h : Hid _) => h.out) ?_)
      refine Lib.hid ?_
      have HB1 := Lib.hid (below_then HBA.out HBA.out.size HBB.out)
      go_wp2_with (go_at_call 13; refine (HC2.out _ (Tabs.below HTB.out HB1.out)).mono ?_; rintro e wc ⟨A2, c2, rfl, how, hb⟩; have HO2 := Lib.hid how; have HBC := Lib.hid hb; clear how hb; refine (fun (h : Hid _) => h.out) ?_)
      refine Lib.hid ?_
      have HB2 := Lib.hid (below_then HB1.out HB1.out.size HBC.out)
      go_wp2_with (go_at_call 13; refine (HC3.out _ (Tabs.below HTB.out HB2.out)).mono ?_; rintro e wd ⟨A3, c3, rfl, how, hb⟩; have HO3 := Lib.hid how; have HBD := Lib.hid hb; clear how hb; refine (fun (h : Hid _) => h.out) ?_)
      refine Lib.hid ?_
      have HB3 := Lib.hid (below_then HB2.out HB2.out.size HBD.out)
      have HBZ := Lib.hid HB3.out
      have HJ' := HJ.out
      obtain ⟨jl, jr, ⟨jn1, jn2⟩, jb⟩ := HJ'
      have jl : E1 ≠ 0 → E3 ≠ 0 := jl
      have jr : E2 ≠ 0 → E3 ≠ 0 := jr
      have jn1 : L1.length ≤ 2001 := jn1
      have jn2 : L2.length ≤ 2001 := jn2
      have JB := Lib.hid jb
      clear jb
      by_cases hE1 : E1 = 0
      · subst hE1
        by_cases hE2 : E2 = 0
        · subst hE2
          obtain ⟨k1, l, ⟨tk, ts, tn, ta⟩, el, t0, t1, hx, hlong, hshort⟩ := JB.out rfl rfl
          have el : L1 = l ++ [(tk, ts, tn, ta)] := el
          have t0 : 0 ≤ ta := t0
          have t1 : ta ≤ 2000 := t1
          have hlen : L1.length = l.length + 1 := by rw [el]; simp
          have k1 : 1 ≤ L2.length := k1
          have hlong : 2001 < l.length + L2.length → E3 = 2 := hlong
          have hshort : l.length + L2.length ≤ 2001 → E3 = 0 ∧ L3 = l ++ L2.map (moveT (ta + 1)) := hshort
          have hz1 : ((L1.length : Int) == 0) = false := by rw [beq_eq_false_iff_ne]; omega
          have hz2 : ((L2.length : Int) == 0) = false := by rw [beq_eq_false_iff_ne]; omega
          have HX := Lib.hid hx
          have HS := Lib.hid hshort
          have HLG := Lib.hid hlong
          have HEL := Lib.hid el
          clear hx hshort hlong el jl jr
          by_cases hbig : 2001 < l.length + L2.length
          · have e3 := HLG.out hbig
            subst e3
            have hbig' : (2000 : Int) < (L1.length : Int) + L2.length - 2 := by omega
            clear hbig
            go_wp2
            go_ret
            exact ⟨rfl, HBZ.out⟩
          · have hbig' : (L1.length : Int) + L2.length - 2 ≤ 2000 := by omega
            obtain ⟨e3, e4⟩ := HS.out (by omega)
            subst e3
            have HE4 := Lib.hid e4
            clear e4
            obtain ⟨g1, rfl, hc1, hg1, hgs1, hcl1⟩ := own_open HO1.out (by omega)
            obtain ⟨g2, rfl, hc2, hg2, hgs2, hcl2⟩ := own_open HO2.out (by omega)
            have hca : l.length ≤ c1 := by omega
            have hcz : ¬ c1 = 0 := by omega
            have HCL1 := Lib.hid (hcl1.below (below_then HBC.out HBC.out.size HBD.out))
            have HCL2 := Lib.hid (hcl2.below HBD.out)
            have HSRC := Lib.hid (show CellsAt wd ⟨g1, 0, none⟩ (toks l) from fun j v hj => HCL1.out j v (by
              rw [HEL.out]
              have hlt := (List.getElem?_eq_some_iff.1 hj).1
              show (toks (l ++ [(tk, ts, tn, ta)]))[j]? = some v
              rw [toks_snoc, List.getElem?_append_left hlt]
              exact hj))
            have ht3 := Lib.hid (tcell_at HCL1.out l.length (by omega) 3 (by omega) (.int .i64 ta) (by
              have e : L1[l.length]'(by omega) = (tk, ts, tn, ta) := by simp [HEL.out]
              rw [e]
              rfl))
            clear hcl1 hcl2 hc1
            have hl2001 : l.length ≤ 2000 := by omega
            go_wp2_with (at_builtin; refine wpList_append_row rfl _ _ 23 rfl wd.heap.size 38 4 40 zTok Tryd.underlying23 infoTok rfl (by omega) (.slice none 0 0) 0 [] rfl (ownsRow_nil _ _ _ _) (some ⟨g1, 0, none⟩) l.length c1 (toks l) rfl (toks_len l) (fun _ => ⟨_, rfl, HSRC.out⟩) (toks_one l) (by unfold maxLen; omega) (by omega) (by simp) ?_; intro A4 c4 w4 hown ho hblk; rw [Nat.zero_add, List.nil_append] at hown; have HW4 := Lib.hid hown; have HO4 := Lib.hid (show Only [] _ w4 from ho); have h3 := HO4.out.cell ht3.out (by simp); clear hown ho hblk)
            have HJX := HX.out
            have HX2 := Lib.hid (show ∀ x ∈ L2, 0 ≤ x.2.2.2 ∧ x.2.2.2 ≤ 2000 from HJX)
            clear HJX HX ht3 h3 HSRC
            go_loopw [15, 17, 18] (fun wt i _ wr => ∃ (k : Nat) (A : Option Addr) (c : Nat), k ≤ L2.length ∧ wt = .slice A (l.length + k) c ∧ i = .int .i64 k ∧ Hid (wr.ownsRow wd.heap.size 38 4 (.slice A (l.length + k) c) (l.length + k) (toks (l ++ (L2.take k).map (moveT (ta + 1))))) ∧ Hid (Below wd.heap.size wd wr)) (fun _ i _ _ => L2.length - (Go.RowKit.intOf i).toNat)
            case atStart => exact ⟨0, A4, c4, by omega, rfl, rfl, Lib.hid (by simpa using HW4.out), Lib.hid HO4.out.nil_below⟩
            case round =>
              obtain ⟨k, A, c, hk, rfl, rfl, HOW, HBR⟩ := hrel
              clear HW4 HO4
              by_cases hlt : k < L2.length
              · have hlt' : (k : Int) < L2.length := by omega
                have hk0 : (0 : Int) ≤ k := by omega
                have hcc := HCL2.out.below HBR.out
                obtain ⟨x, hx⟩ : ∃ x, x = L2[k] := ⟨_, rfl⟩
                have hxb := HX2.out x (by rw [hx]; exact List.getElem_mem _)
                have hq := fun j (hj : j < 4) u (hu : (tcells x)[j]? = some u) => tcell_at hcc k hlt j hj u (by rw [← hx]; exact hu)
                obtain ⟨xk, xs, xn, xa⟩ := x
                have x0 : 0 ≤ xa := hxb.1
                have x1 : xa ≤ 2000 := hxb.2
                have q0 := hq 0 (by omega) (.int .i64 xk) rfl
                have q1 := hq 1 (by omega) (.string xs) rfl
                have q2 := hq 2 (by omega) (.int .i64 xn) rfl
                have q3 := hq 3 (by omega) (.int .i64 xa) rfl
                rw [Nat.add_zero] at q0
                have HXE := Lib.hid hx
                clear hcc hq hxb hx
                go_wp2_with (first
                  | (with_reducible refine wpList_alloc_new rfl 38 rfl zTok 4 40 infoTok ?_; intro w5 hh hs ho)
                  | (with_reducible refine wpList_store_new rfl 38 (.tmp 18) (.tmp 119) rfl wr.heap.size #[.int .i64 xk, .string xs, .int .i64 xn, .int .i64 xa] rfl rfl 38 _ hh.out (sizeT4 _ _ _ _) (zTok4 _ _ _ _) (by simp [Value.oneCell']) ?_; intro w6 hh2 ho2; refine (fun (h : Hid _) => h.out) ?_))
                refine Lib.hid ?_
                have HH2 := hh2
                have HO5 := Lib.hid (show Only [] wr w6 from (ho.then ho2 (by simp)))
                have y0 := (cell_of_row w6 _ 0 _ _ _ HH2.out).trans rfl
                have y1 := (cell_of_row w6 _ 1 _ _ _ HH2.out).trans rfl
                have y2 := (cell_of_row w6 _ 2 _ _ _ HH2.out).trans rfl
                have y3 := (cell_of_row w6 _ 3 _ _ _ HH2.out).trans rfl
                have z3 := frozen_of_row w6 _ 3 _ _ HH2.out
                clear hh hs ho hh2 ho2 q0 q1 q2 q3
                generalize hbk : wr.heap.size = bk at *
                have hOX : Only [] wr ((w6.setCell ⟨bk, 3, none⟩ (.int .i64 (xa + (ta + 1)))).alloc (.cells #[.int .i64 xk, .string xs, .int .i64 xn, .int .i64 (xa + (ta + 1))] 38)) := (HO5.out.setCell (.inr (by show wr.heap.size ≤ bk; omega)) _).alloc _
                have HWX := Lib.hid (ownsRow_only HOW.out hOX (by simp))
                have HSX := Lib.hid (Nat.le_trans HBR.out.size hOX.size)
                have HOX := Lib.hid hOX
                have hkl : l.length + k ≤ 2001 := by omega
                have HPN := Lib.hid (show ((w6.setCell ⟨bk, 3, none⟩ (.int .i64 (xa + (ta + 1)))).alloc (.cells #[.int .i64 xk, .string xs, .int .i64 xn, .int .i64 (xa + (ta + 1))] 38)).heap[w6.heap.size]? = some (.cells ([.int .i64 xk, .string xs, .int .i64 xn, .int .i64 (xa + (ta + 1))] : List Value).toArray 38 (0, 0)) by
                  have := heap_alloc_new (w6.setCell ⟨bk, 3, none⟩ (.int .i64 (xa + (ta + 1)))) (.cells #[.int .i64 xk, .string xs, .int .i64 xn, .int .i64 (xa + (ta + 1))] 38)
                  rw [show (w6.setCell ⟨bk, 3, none⟩ (.int .i64 (xa + (ta + 1)))).heap.size = w6.heap.size by simp [World.setCell]] at this
                  exact this)
                clear hOX
                go_wp2_with (at_builtin; refine wpList_append_row rfl _ _ 23 rfl wd.heap.size 38 4 40 zTok Tryd.underlying23 infoTok rfl (by omega) (.slice A (l.length + k) c) (l.length + k) (toks (l ++ (L2.take k).map (moveT (ta + 1)))) rfl HWX.out (some ⟨w6.heap.size, 0, none⟩) 1 1 [.int .i64 xk, .string xs, .int .i64 xn, .int .i64 (xa + (ta + 1))] (by first | rfl | simp [Act.eval]) rfl (fun _ => ⟨_, rfl, cellsAt_row HPN.out⟩) (by simp [Value.oneCell']) (by unfold maxLen; omega) (by omega) HSX.out ?_; intro A5 c5 w8 hown ho _; have HW8 := Lib.hid hown; have HO8 := Lib.hid ho; clear hown ho)
                have HB8 := Lib.hid ((below_then HBR.out HBR.out.size HOX.out.nil_below).trans (HO8.out.below HSX.out (fun i hi => own_ge HOW.out (by simpa using hi))))
                have HEQ := Lib.hid (show toks (l ++ (L2.take (k + 1)).map (moveT (ta + 1))) = toks (l ++ (L2.take k).map (moveT (ta + 1))) ++ [.int .i64 xk, .string xs, .int .i64 xn, .int .i64 (xa + (ta + 1))] by
                  rw [List.take_succ_eq_append_getElem hlt, List.map_append, ← List.append_assoc, ← HXE.out]
                  exact toks_snoc _ _)
                go_roundw
                case rel =>
                  refine ⟨k + 1, A5, c5, by omega, rfl, by go_num, ?_, HB8⟩
                  exact Lib.hid (by rw [HEQ.out]; exact HW8.out)
                case measure => simp [Go.RowKit.intOf]; omega
              · have hke : k = L2.length := by omega
                have hlt' : (L2.length : Int) ≤ k := by omega
                have hl3 : L3.length = l.length + k := by rw [HE4.out, List.length_append, List.length_map, hke]
                have hown := HOW.out
                rw [hke, List.take_length, ← HE4.out, ← hke, ← hl3] at hown
                have hsame := same_own (ownsRow_only HO3.out (Only.of_below HBR.out) (by simp)) hown (by omega)
                have HSM := Lib.hid (show Calls Tryd.prog 15 #[.slice A3 L3.length c3, .slice A (l.length + k) c] wr fun e w' => e = .returned (.bool true) ∧ Below wr.heap.size wr w' by rw [hl3] at hsame ⊢; exact hsame)
                clear hown hsame hl3 hke HOW
                go_wp2_with (go_at_call 15; refine HSM.out.mono ?_; rintro e w9 ⟨rfl, hb9⟩; have HB9 := Lib.hid hb9; clear hb9)
                go_ret
                exact ⟨rfl, HBZ.out.trans ((HBR.out.trans (HB9.out.mono HBR.out.size)).mono HB3.out.size)⟩
        · have h3 := jr hE2
          have g2 : (E2 != 0) = true := bne_iff_ne.2 hE2
          have g3 : (E3 != 0) = true := bne_iff_ne.2 h3
          clear jl jr
          go_wp2
          go_ret
          exact ⟨rfl, HBZ.out⟩
      · have h3 := jl hE1
        have g1 : (E1 != 0) = true := bne_iff_ne.2 hE1
        have g3 : (E3 != 0) = true := bne_iff_ne.2 h3
        clear jl jr
        go_wp2
        go_ret
        exact ⟨rfl, HBZ.out⟩
end Go.Proofs.YtlikjknakplamaaDoor.Print
/-! ### Tied -/
namespace Go.Proofs.YtlikjknakplamaaDoor
open Go Go.RowKit Go.Shelf Go.Lib
set_option linter.unusedVariables false
theorem returnsInHanded_of_change_and_shaped {H : Type} {enc : TypeId × Value → H} {a : Assume} {C : Checked} {os : Os} {f : FuncId} {fn : Func} {s : ChangeSpec} {conds : List PathCond} {apart fresh handsOn again : Bool} {X : World → Array Value → Prop}
    (hX : ∀ (w w' : World) (args : Array Value), w.heap = w'.heap → X w args → X w' args)
    (own : ownKnob C.prog.godebug = none) (started : os.Started) (noInit : C.prog.inits.idxOf? f = none) (hfn : C.prog.funcs[f]? = some fn)
    (witness : ∃ (w : World) (tape : Tape) (i : Input), w.os = os ∧ (w.forCall tape i).Shaped C.prog ∧ i.vars = [] ∧ Input.okWide C.prog (w.forCall tape i) .any w.heap.size f i ∧
      ((s.pre enc C.prog fn conds apart (w.forCall tape i).memory i.args ∧ X (w.forCall tape i).memory i.args) ∧ sizedMet enc C.prog fn (OpenSpec.ofChange s) apart (w.forCall tape i).memory i.args) ∧ a.holds C.prog (lone (Frame.enter C.prog f i.args .normal) [] (w.forCall tape i)))
    (contract : ∀ (W : World) (base : Nat) (args : Array Value) (ds gs : List (DataW H)) (before : List MemPlace),
      (∀ (j : Nat) t v, fn.params[j]? = some t → args[j]? = some v → Value.okWide C.prog W .any base t v) →
      DataW.Whole enc C.prog fn.params.toList s.vars apart W args.toList ds gs before →
      conds.all (PathCond.test C.prog ⟨fn.params.toList, ds, s.plain.varTypes C.prog, gs⟩) = true →
      (DataW.weightsEach C.prog (fn.params.toList ++ s.plain.varTypes C.prog) (ds ++ gs)).all (· ≤ reachBytes) = true → X W args →
      W.ShapedOpen C.prog →
      a.holds C.prog (lone (Frame.enter C.prog f args .normal) [] W) →
      Calls C.prog f args W fun e W' => ∃ v, e = .returned v ∧ s.post enc C.prog fn apart fresh handsOn again W args v W') :
    ReturnsInHanded a C os f .any (fun w args => (s.pre enc C.prog fn conds apart w args ∧ X w args) ∧ sizedMet enc C.prog fn (OpenSpec.ofChange s) apart w args) (s.post enc C.prog fn apart fresh handsOn again) := by
  refine returnsInHanded_of_calls own started noInit witness ?_
  intro w tape i _ hsh _ hok hpre hholds
  obtain ⟨_, _, _, fn', hfn', _, _, _, _, hval⟩ := hok
  have e : fn' = fn := Option.some.inj (hfn'.symm.trans hfn)
  subst e
  obtain ⟨⟨⟨ds, gs, before, hw, hc⟩, hx⟩, hz⟩ := hpre
  have hw' := DataW.Whole.of_heap (w' := w.forCall tape i) (by rfl) hw
  refine (contract (w.forCall tape i) w.heap.size i.args ds gs before hval hw' hc (hz.weights hw) (hX _ _ _ (by rfl) hx) hsh hholds).mono fun e W' ⟨v, he, hp⟩ => ?_
  subst he
  exact ChangeSpec.post_blind hp
theorem tabs_of {W : World} (hL : laidMet Tryd.prog Rows.lexFoldsRow.laid W) (hsh : W.ShapedOpen Tryd.prog) : Tabs W := by
  refine ⟨?_, ?_, ?_⟩
  · exact utf8Tabs_of_readsT (U8Types.of196 Tryd.laysValid) ⟨by kernel_rfl, by kernel_rfl, by kernel_rfl, by kernel_rfl, by kernel_rfl, by kernel_rfl, by kernel_rfl⟩ (Pinned.utf8First_eq ▸ Lib.laidMet.reads hL (.tail _ (.tail _ (.tail _ (.tail _ (.head _)))))) ((show Rows.laid_unicode_utf8_acceptRanges = acceptData from rfl) ▸ Lib.laidMet.reads hL (.tail _ (.tail _ (.tail _ (.head _)))))
  · have h := laidMet.filter (fun x => x.1 == "internal/strconv.uint64pow10") hL
    exact tabIs_of_head (rest := []) (t := 84) (e := 59) (n := 20) (g := Tryd.laysM171_ren.g 17) pow_named (by kernel_rfl) (by kernel_rfl) (by kernel_rfl) (by kernel_rfl) (by kernel_rfl) (show laidMet Tryd.prog [("internal/strconv.uint64pow10", tabData .u64 pow10Tab)] W from h)
  · exact Tryd.laysM145.s1_3 W hsh
end Go.Proofs.YtlikjknakplamaaDoor
/-! ### LexJoinsRow -/
namespace Go.Proofs.YtlikjknakplamaaDoor.lexJoins
open Go.ChangeShapes Go.WideShapes Go.ChangeAt Go.RowKit Go.Shelf Go.Lib Go.Proofs.YtlikjknakplamaaDoor.Print
open Go.ChangeMaps (open_string shut_string)
set_option linter.unusedVariables false
set_option linter.unusedSimpArgs false
theorem own : ownKnob Tryd.prog.godebug = none := by kernel_rfl
set_option maxRecDepth 100000 in
theorem lifted (os : Os) (started : os.Started) (H : Type) (enc : TypeId × Value → H) :
    ReturnsInHanded {} Tryd.checked os 8 .any (fun w args => (Rows.lexJoinsSpec.pre enc Tryd.prog Tryd.f8 [] false w args ∧ laidMetH Tryd.prog Rows.lexJoinsRow.laid w) ∧ sizedMet enc Tryd.prog Tryd.f8 (OpenSpec.ofChange Rows.lexJoinsSpec) false w args) (Rows.lexJoinsSpec.post enc Tryd.prog Tryd.f8 false true false false) := by
  refine returnsInHanded_of_change_and_shaped (C := Tryd.checked) (X := fun w _ => laidMetH Tryd.prog Rows.lexJoinsRow.laid w) (fun _ _ _ hh h => h.of_heap hh) own started (by kernel_rfl) Tryd.func8
    (ChangeSpec.witness_shaped (enc := enc) (C := Tryd.checked) (os := os) (X := fun w _ => laidMetH Tryd.prog Rows.lexJoinsRow.laid w) false (World.laidAll Tryd.prog os Rows.lexJoinsRow.laid) #[.string ByteArray.empty, .string ByteArray.empty] 8 (World.laidAll_os _ _ _)
      (World.shaped_of_ZipB (by kernel_rfl) (by kernel_rfl)) (by kernel_rfl) (by kernel_rfl) (by kernel_rfl)
      (by rw [MakeChecks.laidMetH_plain _ _ _ (by kernel_rfl)]; exact laidMet_laidAll _ (by kernel_rfl) (by kernel_rfl))) ?_
  intro W base args ds gs before hval0 hW hcnd hsz0 hL0 hsh _
  have hL : laidMet Tryd.prog Rows.lexJoinsRow.laid W := by
    have h := hL0
    rw [MakeChecks.laidMetH_plain _ _ _ (by kernel_rfl)] at h
    exact h
  have hT : Tabs W := tabs_of (show laidMet Tryd.prog Rows.lexFoldsRow.laid W from hL) hsh
  have hsz : (DataW.weightsEach Tryd.prog (Tryd.f8.params.toList ++ Rows.lexJoinsSpec.plain.varTypes Tryd.prog) (ds ++ gs)).all (· ≤ reachBytes) = true := hsz0
  have hval : ∀ (j : Nat) t v, Tryd.f8.params[j]? = some t → args[j]? = some v → Value.okWide Tryd.prog W .any base t v := hval0
  have hW' := hW
  obtain ⟨p, q, hA0, hV, rfl, hfz, hnd⟩ := hW
  have hA : DataW.TrodAll enc Tryd.prog W 0 (fun _ => true) true Tryd.f8.params.toList args.toList ds p := hA0
  rw [Tryd.params8] at hA hval hsz
  obtain ⟨v0, vs0, d0, ds0, p0, q0, hargs, rfl, rfl, h0, r0⟩ := trodAll_cons hA
  obtain ⟨v1, vs1, d1, ds1, p1, q1, rfl, rfl, rfl, h1, r1⟩ := trodAll_cons r0
  obtain ⟨rfl, rfl, rfl⟩ := trodAll_nil r1
  obtain rfl : args = #[v0, v1] := by cases args; simp_all
  obtain ⟨rfl, rfl⟩ := trodVars_none hV
  obtain ⟨a0, rfl, rfl, rfl, y0⟩ := open_string Tryd.underlying9 (hval 0 9 v0 rfl rfl) h0
  have w0 : a0.size ≤ 140737488351232 := by
    have z := sized_string hsz (j := 0) (t := 9) rfl rfl
    rw [Array.length_toList] at z
    exact z
  obtain ⟨a1, rfl, rfl, rfl, y1⟩ := open_string Tryd.underlying9 (hval 1 9 v1 rfl rfl) h1
  have w1 : a1.size ≤ 140737488351232 := by
    have z := sized_string hsz (j := 1) (t := 9) rfl rfl
    rw [Array.length_toList] at z
    exact z
  clear hA0 hval0 hsz0 hsz
  refine (lexJoins_walk a0 a1 W w0 w1 hT).mono fun e W' ⟨he, bel⟩ => ?_
  subst he
  exact ⟨_, rfl, _, _, _, [], _, [], hW', trodAll_mk1 (shut_bool Tryd.underlying4 _), (trodAll_cons_mk (shut_string Tryd.underlying9 y0) (trodAll_cons_mk (shut_string Tryd.underlying9 y1) trodAll_mk0)), rfl, bel.frame _, fun h => by cases h⟩
theorem over : Rows.lexJoinsRow.holds Tryd.pinned (OpenSpec.ofChange Rows.lexJoinsSpec) :=
  OpenClaim.holds_of_wide 8 Tryd.f8 rfl rfl rfl rfl rfl rfl rfl ⟨rfl, rfl, rfl, rfl, rfl⟩ rfl rfl rfl rfl rfl (by kernel_rfl) Tryd.func8 (by kernel_rfl)
    (of_decide_eq_true (by kernel_rfl)) (by unfold Func.isWrapper; first | (rw [if_pos (by decide +kernel)]; kernel_rfl) | (rw [if_neg (by decide +kernel)]; exact ⟨rfl, rfl⟩))
    (fun os started H enc _ => lifted os started H enc)
theorem card_holds : Claim7.holds Tryd.pinned (.plain (OpenSpec.ofChange Rows.lexJoinsSpec)) Rows.lexJoinsCard :=
  Claim7.holds_tied_plain_at .later [] [.data, .data, .data, .data, .pinned] true (true, "2df379d0a8e382ae56a4a25da8425f329115bfa31b6102406861f16ecf271d0c") false over (fun _ h => by cases h) (by kernel_rfl) (fun _ h => by cases h) lexJoins_row_tie rfl ⟨rfl, rfl⟩ (by kernel_rfl) rfl
    (fun f fn hf hfn => by
      obtain rfl : f = 8 := Option.some.inj ((show Tryd.prog.funcNamed "malthouse/malthouselaw01.LexJoins" = some 8 by kernel_rfl).symm.trans hf) |>.symm
      obtain rfl : fn = Tryd.f8 := (Option.some.inj (Tryd.func8.symm.trans hfn)).symm
      exact ⟨by kernel_rfl, fun j t ht => by
        rw [Tryd.params8] at ht
        have hm : t ∈ [9, 9] := by simpa using Array.mem_of_getElem? ht
        have hall : ([9, 9].all fun u => !Tryd.prog.wantsStandIn u) = true := by kernel_rfl
        exact (show Tryd.prog.wantsStandIn t = false by simpa using List.all_eq_true.1 hall t hm)⟩)
    (by kernel_rfl)
theorem proved : Rows.LexJoinsCardSaid := card_holds
#print axioms proved
end Go.Proofs.YtlikjknakplamaaDoor.lexJoins
namespace Go.Proofs.YtlikjknakplamaaDoor
/-- The card, under a short name, for the claim. -/
theorem lexJoins_holds : Rows.LexJoinsCardSaid := lexJoins.proved
end Go.Proofs.YtlikjknakplamaaDoor
