/-
  What data sectors are to have, as the document says: in memory; is a log like that?
-/
import Derived.Test.YtlngfelpmebemaaWalRv
namespace Go.Proofs.Ytlngfelpmebemaa
open Go Go.RowKit
set_option linter.unusedSimpArgs false
set_option linter.unusedVariables false
/-- A sector as a text. -/
def txt (b : List UInt8) : Value := .string ⟨b.toArray⟩
def txts (L : List (List UInt8)) : List Value := L.map txt
theorem txts_get (L : List (List UInt8)) (i : Nat) : (txts L)[i]? = L[i]?.map txt := by simp [txts]
theorem txts_length (L : List (List UInt8)) : (txts L).length = L.length := by simp [txts]
theorem txts_one (L : List (List UInt8)) : ∀ v ∈ txts L, v.oneCell' = true := by
  intro v hv
  obtain ⟨b, _, rfl⟩ := List.mem_map.1 hv
  rfl
/-- The document's model in memory: its own block m, its texts' block a. -/
structure IsMd (w : World) (m a c : Nat) (r : List Value) (M : List (List UInt8)) : Prop where
  hd : w.heap[m]? = some (.cells #[.slice (some ⟨a, 0, none⟩) M.length c] 58 (0, 0))
  sec : w.heap[a]? = some (.cells (txts M ++ r).toArray 9 (0, 0))
theorem IsMd.only {S : List Nat} {w w' : World} {m a c : Nat} {r : List Value} {M : List (List UInt8)} (h : IsMd w m a c r M) (ho : Only S w w') (hm : m ∉ S) (ha : a ∉ S) : IsMd w' m a c r M := ⟨ho.heap h.hd hm, ho.heap h.sec ha⟩
theorem IsMd.c0 {w : World} {m a c : Nat} {r : List Value} {M : List (List UInt8)} (h : IsMd w m a c r M) : w.cell? ⟨m, 0, none⟩ = some (.slice (some ⟨a, 0, none⟩) M.length c) := (cell_of_row w m 0 _ _ _ h.hd).trans rfl
theorem IsMd.at {w : World} {m a c : Nat} {r : List Value} {M : List (List UInt8)} (h : IsMd w m a c r M) (i : Nat) (hi : i < M.length) : w.cell? ⟨a, i, none⟩ = some (.string ⟨(M.getD i []).toArray⟩) := by
  rw [cell_of_row w a i _ _ _ h.sec, List.getElem?_toArray, List.getElem?_append_left (by rw [txts_length]; exact hi), txts_get, List.getD_eq_getElem?_getD, List.getElem?_eq_getElem hi]
  rfl
theorem noughts_text (w : World) (b : Nat) (h : Hid (w.heap[b]? = some (.cells (madeCells (Value.cells (.int .u8 0)) (256 * 1)) 5 (0, 0)))) :
    (convert 43 9 (.slice (some ⟨b, 0, none⟩) 256 256)).run Try.prog w = .ok (.string ⟨(sec 0).toArray⟩) w := by
  have hz : madeCells (Value.cells (.int .u8 0)) (256 * 1) = (bcells (sec 0)).toArray := by
    show madeCells #[_] (256 * 1) = _
    rw [madeCells_one]
    unfold sec bcells
    rw [List.map_replicate]
    rfl
  exact run_string_row w 43 9 5 Try.underlying43 Try.underlying5 Try.underlying9 b 256 256 (sec 0) _ _ (sec_length _) (by rw [← hz]; exact h.out)
theorem nought_any (w : World) :
    Calls Try.prog 31 #[] w fun e w' => e = .returned (txt (sec 0)) ∧ Only [] w w' := by
  show Calls Try.prog 31 #[] w fun e w' => e = .returned (.string ⟨(sec 0).toArray⟩) ∧ Only [] w w'
  go_enter Try.func31, Try.ntmps31
  go_wp2_with (at_make; refine wpList_make_new rfl _ _ 43 rfl 5 (.int .u8 0) 1 1 Try.underlying43 infoU8 _ _ _ _ 256 rfl rfl (by rfl) (by rfl) (by omega) (by omega) ?_; intro w1 hh hs ho; have hcp := noughts_text w1 _ hh; clear hh hs; generalize w.heap.size = b at *)
  go_ret
  exact ⟨rfl, ho⟩
/-- What the data sectors of a disk have. -/
def dataOf (nm p : Nat) (L : List (List UInt8)) : List (List UInt8) := (List.range p).map fun i => L.getD (1 + nm + p + i) []
theorem dataOf_st0 {nm p : Nat} {L M : List (List UInt8)} (h : St0 nm p L M) : dataOf nm p L = M := by
  refine List.ext_getElem? (fun i => ?_)
  unfold dataOf
  rw [List.getElem?_map]
  by_cases hi : i < p
  · rw [List.getElem?_range hi, Option.map_some, h.data i hi, List.getD_eq_getElem?_getD, List.getElem?_eq_getElem (by rw [h.len]; exact hi)]
    rfl
  · rw [List.getElem?_eq_none (by simpa using hi), List.getElem?_eq_none (by rw [h.len]; omega)]
    rfl
theorem dataOf_of {nm p : Nat} {L M : List (List UInt8)} (hM : M.length = p) (h : ∀ i, i < p → L.getD (1 + nm + p + i) [] = M.getD i []) : dataOf nm p L = M := by
  refine List.ext_getElem? (fun i => ?_)
  unfold dataOf
  rw [List.getElem?_map]
  by_cases hi : i < p
  · rw [List.getElem?_range hi, Option.map_some, h i hi, List.getD_eq_getElem?_getD, List.getElem?_eq_getElem (by omega)]
    rfl
  · rw [List.getElem?_eq_none (by simpa using hi), List.getElem?_eq_none (by omega)]
    rfl
theorem dataOf_get {nm p : Nat} {L M : List (List UInt8)} (h : dataOf nm p L = M) (i : Nat) (hi : i < p) : L.getD (1 + nm + p + i) [] = M.getD i [] := by
  rw [← h]
  unfold dataOf
  rw [List.getD_eq_getElem?_getD (l := List.map _ _), List.getElem?_map, List.getElem?_range hi]
  rfl
theorem text_inj {a b : List UInt8} (h : (⟨a.toArray⟩ : ByteArray) = ⟨b.toArray⟩) : a = b := by
  have := congrArg (fun x : ByteArray => x.data.toList) h
  simpa using this
set_option maxHeartbeats 8000000 in
set_option maxRecDepth 100000 in
theorem alike_any (q g s cp nm p n m a c : Nat) (r mr : List Value) (D : Dk) (M : List (List UInt8)) (w : World) (geo : Geo nm p n) (hD : D.Ok) (hoff : D.off = false) (hn : D.L.length = n) (hd : IsDk w g s cp r D) (hlg : IsLg w q g nm p false) (hm : IsMd w m a c mr M) (hM : M.length = p) :
    Calls Try.prog 22 #[.pointer (some ⟨q, 0, none⟩), .pointer (some ⟨m, 0, none⟩)] w fun e w' => e = .returned (.bool (decide (dataOf nm p D.L = M))) ∧ Only [] w w' := by
  obtain ⟨V, hV⟩ : ∃ V, V = decide (dataOf nm p D.L = M) := ⟨_, rfl⟩
  rw [← hV]
  have HV := Lib.hid hV
  have HDK := Lib.hid hd
  have HLG := Lib.hid hlg
  have HMD := Lib.hid hm
  have HD := Lib.hid hD
  have HOFF := Lib.hid hoff
  have HN := Lib.hid hn
  have HML := Lib.hid hM
  have HGEO := Lib.hid geo
  have hps := geo.small
  have HFIT := Lib.hid geo.fit
  have HNM := Lib.hid (show nm ≤ 1000000 from by have := geo.fit; have := hD.len; omega)
  clear hV hd hlg hm hD hoff hn hM geo
  go_enter Try.func22, Try.ntmps22
  go_wp2
  refine L.grow_start [] 8 ((0, true, false) :: (2, true, false) :: (3, true, false) :: (4, true, false) :: (5, true, false) :: (6, true, false) :: (1, false, true) :: (7, true, true) :: []) (by kernel_rfl) (([], [0], some 8) :: ([0], [8], some 9) :: ([], [1], some 10) :: ([2], [10], some 11) :: ([3], [11], some 12) :: ([4], [12], some 13) :: ([5], [13], some 14) :: ([1, 6], [9, 14], some 15) :: []) (by kernel_rfl) (by kernel_rfl) (n := 8) rfl (by kernel_rfl) (fun _ _ _ _ _ h => h) (fun wg hog => ?_)
  refine L.growe_start (N := 45) (by rfl) ?_
  have HOG := Lib.hid hog
  clear hog
  have e0 : ∀ w', Only [] wg w' → w'.cell? ⟨m, 0, none⟩ = some (.slice (some ⟨a, 0, none⟩) M.length c) := fun w' h => (HMD.out.only (HOG.out.trans h) (by simp) (by simp)).c0
  have hne : ((p : Int) != M.length) = false := by rw [bne_eq_false_iff_eq, HML.out]
  iterate 6 (first | (refine L.ge_off rfl rfl rfl (by rfl) ?_) | (refine L.ge_move rfl rfl rfl (by rfl) rfl (by simp [L.evE, L.lk, Act.eval]; rfl) ?_) | (refine L.ge_pick rfl rfl rfl (by rfl) rfl (by simp [L.evE, L.lk, Act.eval]; rfl) (by simp [L.evE, L.lk, Act.eval]; rfl) ?_) | (refine L.ge_val rfl rfl rfl (by rfl) (by intro w' hw'; simp [execOp, L.evE, L.lk, Act.eval]; go_simp; rfl) ?_))
  clear e0
  refine L.ge_call rfl rfl rfl (by rfl) rfl (by simp [L.evE, L.lk, Act.eval]; rfl) (by go_simp) ?_
  refine (lsectors_any q g nm p false wg (HLG.out.only HOG.out (by simp))).mono ?_
  rintro e w1 ⟨rfl, rfl⟩
  refine ⟨_, rfl, Only.refl _ _, ?_⟩
  iterate 1 (first | (refine L.ge_off rfl rfl rfl (by rfl) ?_) | (refine L.ge_move rfl rfl rfl (by rfl) rfl (by simp [L.evE, L.lk, Act.eval]; rfl) ?_) | (refine L.ge_pick rfl rfl rfl (by rfl) rfl (by simp [L.evE, L.lk, Act.eval]; rfl) (by simp [L.evE, L.lk, Act.eval]; rfl) ?_) | (refine L.ge_val rfl rfl rfl (by rfl) (by intro w' hw'; simp [execOp, L.evE, L.lk, Act.eval]; go_simp; rfl) ?_))
  refine L.ge_done ?_
  simp only [L.puts, Act.put, goInt, List.setIfInBounds_toArray, List.set_cons_zero, List.set_cons_succ]
  clear hne
  go_wp2
  go_loopw [5] (fun i wr => ∃ (k : Nat), k ≤ p ∧ i = .int .i64 k ∧ Hid (∀ j, j < k → D.L.getD (1 + nm + p + j) [] = M.getD j []) ∧ Hid (Only [] w wr)) (fun i _ => p - (Go.RowKit.intOf i).toNat)
  case atStart => exact ⟨0, by omega, rfl, Lib.hid (fun j hj => by omega), HOG⟩
  case round =>
    obtain ⟨k, hk, rfl, HSO, HO⟩ := hrel
    have c0 := (HMD.out.only HO.out (by simp) (by simp)).c0
    have hml : (M.length : Int) = p := by rw [HML.out]
    by_cases hlt : k < p
    · have hlt' : (k : Int) < M.length := by omega
      have hk0 : (0 : Int) ≤ k := by omega
      obtain ⟨b, hb⟩ : ∃ b, D.L[1 + nm + p + k]? = some b := ⟨_, List.getElem?_eq_getElem (by have := HFIT.out; have := HN.out; omega)⟩
      have HB := Lib.hid hb
      have HBL := Lib.hid (HD.out.secs b (List.mem_of_getElem? hb))
      clear hb hml
      go_wp2_with (go_at_call 19; refine (lread_yes q g s cp nm p r D k b wr HD.out (HDK.out.only HO.out (by simp) (by simp)) (HLG.out.only HO.out (by simp)) HOFF.out hlt (by omega) HNM.out HB.out).mono ?_; rintro e w2 ⟨pb, rfl, hpb, _, ho⟩; have HPB := Lib.hid hpb; have HO2 := Lib.hid (HO.out.trans ho); clear hpb ho; refine (fun (h : Hid _) => h.out) ?_)
      refine Lib.hid ?_
      obtain ⟨tm, htm⟩ : ∃ tm : ByteArray, tm = ⟨(M.getD k []).toArray⟩ := ⟨_, rfl⟩
      have HTM := Lib.hid htm
      have ha := (HMD.out.only HO2.out (by simp) (by simp)).at k (by have := HML.out; omega)
      rw [← htm] at ha
      have HA := Lib.hid ha
      clear htm ha c0
      go_wp2
      refine L.grow_start [] 14 ((0, true, true) :: (1, true, true) :: (2, true, true) :: (3, true, false) :: (4, true, false) :: (5, true, false) :: (6, true, false) :: (7, true, false) :: (8, true, false) :: (9, true, true) :: (10, true, true) :: (11, true, true) :: (12, true, true) :: (13, true, true) :: []) (by kernel_rfl) (([], [7], some 31) :: ([0], [31], some 32) :: ([1], [32], some 33) :: ([2], [6, 33], some 34) :: ([3, 2], [34, 33], some 35) :: ([2], [1, 33], some 36) :: ([5, 2], [36, 33], some 37) :: ([6, 2], [37, 33], some 38) :: ([7, 2], [38, 33], some 39) :: ([2], [5, 33], some 40) :: ([8, 9, 2], [39, 40, 33], some 41) :: ([10, 2], [41, 33], some 42) :: ([4, 11, 2], [35, 42, 33], some 43) :: ([2, 12], [33, 43], some 44) :: []) (by kernel_rfl) (by kernel_rfl) (n := 14) rfl (by kernel_rfl) (fun _ _ _ _ _ h => h) (fun wg hog => ?_)
      refine L.growe_start (N := 45) (by rfl) ?_
      have HOG3 := Lib.hid (HO2.out.trans hog)
      have HPG := Lib.hid (hog.heap HPB.out (by simp))
      have e0 : ∀ w', Only [] wg w' → w'.cell? ⟨m, 0, none⟩ = some (.slice (some ⟨a, 0, none⟩) M.length c) := fun w' h => (HMD.out.only (HOG3.out.trans h) (by simp) (by simp)).c0
      have e1 : ∀ w', Only [] wg w' → w'.cell? ⟨a, k, none⟩ = some (.string tm) := fun w' h => (hog.trans h).cell HA.out (by simp)
      clear hog
      iterate 4 (first | (refine L.ge_off rfl rfl rfl (by rfl) ?_) | (refine L.ge_move rfl rfl rfl (by rfl) rfl (by simp [L.evE, L.lk, Act.eval]; rfl) ?_) | (refine L.ge_pick rfl rfl rfl (by rfl) rfl (by simp [L.evE, L.lk, Act.eval]; rfl) (by simp [L.evE, L.lk, Act.eval]; rfl) ?_) | (refine L.ge_val rfl rfl rfl (by rfl) (by intro w' hw'; simp [execOp, L.evE, L.lk, Act.eval]; go_simp; rfl) ?_))
      refine ge_bytes_string rfl rfl rfl (by rfl) _ _ _ rfl 5 Try.underlying43 Try.underlying5 Try.underlying9 (some ⟨pb, 0, none⟩) 256 256 b HBL.out (by simp [L.evE, L.lk, Act.eval]) (fun w' h _ => ⟨_, rfl, cellsAt_row (h.heap HPG.out (by simp))⟩) ?_
      obtain ⟨tb, htb⟩ : ∃ tb : ByteArray, tb = ⟨b.toArray⟩ := ⟨_, rfl⟩
      have HTB := Lib.hid htb
      rw [← htb]
      clear htb
      by_cases heq : tb = tm
      · subst heq
        iterate 9 (first | (refine L.ge_off rfl rfl rfl (by rfl) ?_) | (refine L.ge_move rfl rfl rfl (by rfl) rfl (by simp [L.evE, L.lk, Act.eval]; rfl) ?_) | (refine L.ge_pick rfl rfl rfl (by rfl) rfl (by simp [L.evE, L.lk, Act.eval]; rfl) (by simp [L.evE, L.lk, Act.eval]; rfl) ?_) | (refine L.ge_val rfl rfl rfl (by rfl) (by intro w' hw'; simp [execOp, L.evE, L.lk, Act.eval]; go_simp; rfl) ?_))
        refine L.ge_done ?_
        simp only [L.puts, Act.put, goInt, List.setIfInBounds_toArray, List.set_cons_zero, List.set_cons_succ]
        clear e0 e1
        go_wp2
        go_roundw
        case rel =>
          refine ⟨k + 1, by omega, by go_num, Lib.hid fun j hj => ?_, HOG3⟩
          by_cases hjk : j = k
          · subst hjk
            have h1 := HB.out
            rw [List.getD_eq_getElem?_getD, h1]
            exact text_inj (HTB.out.symm.trans HTM.out)
          · exact HSO.out j (by omega)
        case measure => simp [Go.RowKit.intOf]; omega
      · have hneq : (tb.toList == tm.toList) = false := by
          rw [beq_eq_false_iff_ne]
          intro h
          rw [ByteArray.toList_eq, ByteArray.toList_eq] at h
          exact heq (ByteArray.ext (Array.toList_inj.1 h))
        have HEQ := Lib.hid heq
        clear heq
        iterate 9 (first | (refine L.ge_off rfl rfl rfl (by rfl) ?_) | (refine L.ge_move rfl rfl rfl (by rfl) rfl (by simp [L.evE, L.lk, Act.eval]; rfl) ?_) | (refine L.ge_pick rfl rfl rfl (by rfl) rfl (by simp [L.evE, L.lk, Act.eval]; rfl) (by simp [L.evE, L.lk, Act.eval]; rfl) ?_) | (refine L.ge_val rfl rfl rfl (by rfl) (by intro w' hw'; simp [execOp, L.evE, L.lk, Act.eval]; go_simp; rfl) ?_))
        refine L.ge_done ?_
        simp only [L.puts, Act.put, goInt, List.setIfInBounds_toArray, List.set_cons_zero, List.set_cons_succ]
        clear e0 e1
        go_wp2
        go_ret
        refine ⟨?_, HOG3.out⟩
        have hv : V = false := by
          rw [HV.out, decide_eq_false_iff_not]
          intro h
          have := dataOf_get h k hlt
          rw [List.getD_eq_getElem?_getD, HB.out] at this
          have h2 : b = M.getD k [] := this
          exact HEQ.out (by rw [HTB.out, HTM.out, h2])
        rw [hv]
        rfl
    · have hlt' : (M.length : Int) ≤ k := by omega
      go_wp2
      go_ret
      refine ⟨?_, HO.out⟩
      have hv : V = true := by
        rw [HV.out, decide_eq_true_eq]
        exact dataOf_of HML.out (fun i hi => HSO.out i (by omega))
      rw [hv]
      rfl
end Go.Proofs.Ytlngfelpmebemaa
