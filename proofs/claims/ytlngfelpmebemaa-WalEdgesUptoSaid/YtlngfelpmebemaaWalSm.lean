/-
  Are there not too many groups; what a Commit leaves of a disk, and of its log.
-/
import Derived.Test.YtlngfelpmebemaaWalIn
namespace Go.Proofs.Ytlngfelpmebemaa
open Go Go.RowKit
set_option linter.unusedSimpArgs false
set_option linter.unusedVariables false
def Gp.fair (G : Gp) : Bool := decide (G.at_.length ≤ 40) && decide (G.odd.length ≤ 5)
def smallG (Gs : List Gp) (most : Nat) : Bool := decide (Gs.length ≤ most) && Gs.all Gp.fair
theorem smallG_ok {Gs : List Gp} {most : Nat} (h : smallG Gs most = true) : Gs.length ≤ most ∧ ∀ (i : Nat) (G : Gp), Gs[i]? = some G → G.at_.length ≤ 40 ∧ G.odd.length ≤ 5 := by
  unfold smallG at h
  rw [Bool.and_eq_true, decide_eq_true_eq] at h
  refine ⟨h.1, fun i G hG => ?_⟩
  have := List.all_eq_true.1 h.2 G (List.mem_of_getElem? hG)
  unfold Gp.fair at this
  simpa using this
/-- Groups that came in, in a row. -/
def GpsIn (w : World) (A : Option Addr) (Gs : List Gp) : Prop := ∀ (i : Nat) (G : Gp), Gs[i]? = some G → ∃ ad cs, A = some ad ∧ CellsAt w (ad.add (i * 3)) cs ∧ GpIn w cs G
set_option maxHeartbeats 8000000 in
set_option maxRecDepth 100000 in
theorem small_any (A : Option Addr) (ca : Nat) (Gs : List Gp) (most : Nat) (w : World) (hmost : most ≤ 1000000) (hl : Gs.length ≤ 140737488351232) (hA : GpsIn w A Gs) :
    Calls Try.prog 11 #[.slice A Gs.length ca, .int .i64 most] w fun e w' => e = .returned (.bool (smallG Gs most)) ∧ Only [] w w' := by
  obtain ⟨V, hV⟩ : ∃ V, V = smallG Gs most := ⟨_, rfl⟩
  rw [← hV]
  unfold smallG at hV
  have HV := Lib.hid hV
  have HA := Lib.hid hA
  have hu := Try.underlying37
  clear hV hA
  go_enter Try.func11, Try.ntmps11
  by_cases hbig : most < Gs.length
  · have hbig' : (most : Int) < Gs.length := by omega
    have hv : V = false := by rw [HV.out, decide_eq_false (by omega), Bool.false_and]
    have HVF := Lib.hid hv
    clear hv hbig
    go_wp2
    go_ret
    exact ⟨by rw [HVF.out]; rfl, Only.refl _ _⟩
  · have hbig' : (Gs.length : Int) ≤ most := by omega
    have hv := HV.out
    rw [decide_eq_true (by omega), Bool.true_and] at hv
    have HV1 := Lib.hid hv
    clear hv HV
    go_wp2
    clear hbig
    go_loopw [5] (fun i wr => ∃ (k : Nat), k ≤ Gs.length ∧ i = .int .i64 k ∧ Hid (V = (Gs.drop k).all Gp.fair) ∧ Hid (Only [] w wr)) (fun i _ => Gs.length - (Go.RowKit.intOf i).toNat)
    case atStart => exact ⟨0, by omega, rfl, HV1, Lib.hid (Only.refl _ _)⟩
    case round =>
      obtain ⟨k, hk, rfl, HK, HO⟩ := hrel
      by_cases hlt : k < Gs.length
      · have hlt' : (k : Int) < Gs.length := by omega
        have hk0 : (0 : Int) ≤ k := by omega
        obtain ⟨ad, cs, rfl, hcs, AA, ca2, AO, co2, rfl, _⟩ := HA.out k _ (List.getElem?_eq_getElem hlt)
        have hv := HK.out
        rw [List.drop_eq_getElem_cons hlt, List.all_cons] at hv
        generalize Gs[k] = G at *
        have hf : G.fair = (decide (G.at_.length ≤ 40) && decide (G.odd.length ≤ 5)) := rfl
        rw [hf] at hv
        clear hf
        obtain ⟨n1, hn1⟩ : ∃ n, n = G.at_.length := ⟨_, rfl⟩
        obtain ⟨n2, hn2⟩ : ∃ n, n = G.odd.length := ⟨_, rfl⟩
        rw [← hn1, ← hn2] at hv hcs
        have HVK := Lib.hid hv
        have HCS := Lib.hid (hcs.only HO.out (by simp))
        clear hv hcs hn1 hn2 HK
        have c0 : wr.cell? (ad.add (k * 3)) = some (.slice AA n1 ca2) := cellsAt_head HCS.out rfl
        have c2 : wr.cell? ⟨(ad.add (k * 3)).block, (ad.add (k * 3)).off + 2, none⟩ = some (.slice AO n2 co2) := cellsAt_field HCS.out 2 (by omega) rfl
        by_cases h1 : 40 < n1
        · have h1' : (40 : Int) < n1 := by omega
          have hv := HVK.out
          rw [decide_eq_false (by omega), Bool.false_and, Bool.false_and] at hv
          have HVF := Lib.hid hv
          clear hv h1
          go_wp2
          go_ret
          exact ⟨by rw [HVF.out]; rfl, HO.out⟩
        · have h1' : (n1 : Int) ≤ 40 := by omega
          by_cases h2 : 5 < n2
          · have h2' : (5 : Int) < n2 := by omega
            have hv := HVK.out
            rw [decide_eq_false (show ¬ n2 ≤ 5 by omega), Bool.and_false, Bool.false_and] at hv
            have HVF := Lib.hid hv
            clear hv h1 h2
            go_wp2
            go_ret
            exact ⟨by rw [HVF.out]; rfl, HO.out⟩
          · have h2' : (n2 : Int) ≤ 5 := by omega
            have hv := HVK.out
            rw [decide_eq_true (show n1 ≤ 40 by omega), decide_eq_true (show n2 ≤ 5 by omega), Bool.true_and, Bool.true_and] at hv
            have HVF := Lib.hid hv
            clear hv h1 h2
            go_wp2
            go_roundw
            case rel => exact ⟨k + 1, by omega, by go_num, HVF, HO⟩
            case measure => simp [Go.RowKit.intOf]; omega
      · obtain rfl : k = Gs.length := by omega
        have hv := HK.out
        rw [List.drop_length] at hv
        have HVF := Lib.hid hv
        clear hv
        go_wp2
        go_ret
        exact ⟨by rw [HVF.out]; rfl, HO.out⟩
/-- What a log is over: a disk between two groups; or one whose power went, in the middle of a group perhaps. -/
inductive Log (nm p : Nat) (D : Dk) (dead : Bool) (M : List (List UInt8)) (xs : List Wr) : Prop
  | on (h1 : D.off = false) (h2 : dead = false) (h3 : St0 nm p D.L M)
  | off (h1 : D.off = true) (h3 : Lies nm p D.L M xs)
theorem Log.lies {nm p : Nat} {D : Dk} {dead : Bool} {M : List (List UInt8)} {xs : List Wr} (h : Log nm p D dead M xs) : Lies nm p D.L M xs := by
  cases h with
  | on _ _ h => exact .inl h
  | off _ h => exact h
theorem behind_nil (M : List (List UInt8)) : behind M [] = M := rfl
/-- A Commit over a disk between two groups. -/
theorem commit_on {nm p n : Nat} (g : Geo nm p n) {xs : List Wr} {D : Dk} {M : List (List UInt8)} (hs : St0 nm p D.L M) (hn : D.L.length = n) (ho : D.off = false) (hl : -1 ≤ D.left) (hD : D.Ok) :
    (¬ RightP p xs ∧ commitP nm p false xs D = (1, D, false)) ∨
    (RightP p xs ∧ ∃ D', commitP nm p false xs D = (0, D', false) ∧ St0 nm p D'.L (behind M xs) ∧ D'.L.length = n ∧ D'.off = false ∧ D'.Ok ∧ D'.writes = D.writes + mostN xs.length ∧ ((D.left = -1 ∧ D'.left = -1) ∨ ((mostN xs.length : Int) ≤ D.left ∧ D'.left = D.left - mostN xs.length))) ∨
    (RightP p xs ∧ ∃ D' k, commitP nm p false xs D = (6, D', true) ∧ k < mostN xs.length ∧ D.left = (k : Int) ∧ (k < xs.length + listsN xs.length + 1 → St0 nm p D'.L M) ∧ (xs.length + listsN xs.length + 1 ≤ k → St1 nm p D'.L M xs) ∧ D'.L.length = n ∧ D'.off = true ∧ D'.Ok ∧ D'.writes = D.writes + k ∧ D'.left = 0) := by
  by_cases hr : RightP p xs
  · by_cases h0 : xs.length = 0
    · have hx : xs = [] := List.eq_nil_of_length_eq_zero h0
      subst hx
      refine .inr (.inl ⟨hr, D, ?_, by rw [behind_nil]; exact hs, hn, ho, hD, by simp [mostN], ?_⟩)
      · unfold commitP
        rw [if_neg (by rw [ho]; simp), if_neg (by simpa using hr), if_pos h0]
      · simp [mostN]
        omega
    · have hm : mostN xs.length = 2 * xs.length + listsN xs.length + 2 := by unfold mostN; rw [if_neg h0]
      have hc : commitP nm p false xs D = ((layP nm p xs D).1, (layP nm p xs D).2, decide ((layP nm p xs D).1 ≠ 0)) := by
        unfold commitP
        rw [if_neg (by rw [ho]; simp), if_neg (by simpa using hr), if_neg h0]
      have hok : (layP nm p xs D).2.Ok := by
        rw [lay_is]
        have hrun : ∀ (ws : Ws) (D : Dk), D.Ok → (runW ws D).2.Ok := by
          intro ws
          induction ws with
          | nil => intro D h; exact h
          | cons x ws ih =>
            intro D h
            rw [runW]
            split
            · exact Dk.write_ok h _ _
            · exact ih _ (Dk.write_ok h _ _)
        unfold andP
        split
        · exact hrun _ _ hD
        · exact apply_ok2 _ _ _ _ _ (hrun _ _ hD)
      rw [hc, hm]
      rcases lay_spec g hr hs hn ho hl with ⟨D', e1, e2, e3, e4, e5, e6⟩ | ⟨D', k, e1, e2, e3, e4, e5, e6, e7, e8, e9⟩
      · rw [e1] at hok ⊢
        exact .inr (.inl ⟨hr, D', by simp, e2, e3, e4, hok, e5, e6⟩)
      · rw [e1] at hok ⊢
        exact .inr (.inr ⟨hr, D', k, by simp, e2, e3, e4, e5, e6, e7, hok, e8, e9⟩)
  · refine .inl ⟨hr, ?_⟩
    unfold commitP
    rw [if_neg (by rw [ho]; simp), if_pos hr]
theorem commit_off {nm p : Nat} {xs : List Wr} {D : Dk} {dead : Bool} (h : dead = true ∨ D.off = true) : commitP nm p dead xs D = (6, D, dead) := by unfold commitP; rw [if_pos h]
end Go.Proofs.Ytlngfelpmebemaa
