/-
  The calls that a law is handed, read as plain data; first.
-/
import Derived.Test.YtcodnhknlhfalaaAwake
import Derived.Test.YtcodnhknlhfalaaRd
namespace Go.Proofs.Ytcodnhknlhfalaa
open Go.RowKit
set_option linter.unusedSimpArgs false
set_option linter.unusedVariables false
/-- An Op: what kind, where, which bytes. -/
abbrev OpD := Int × Int × List Int × Unit
def rdOp : Rd OpD := rdPair 1 (rdInt .i64) (rdPair 1 (rdInt .i64) (rdPair 1 (rdSl 1 1 (rdInt .u8)) rdUnit))
theorem rdOp_stable : Stable rdOp := rdPair_stable (rdInt_stable _) (rdPair_stable (rdInt_stable _) (rdPair_stable (rdSl_stable (rdInt_stable _)) rdUnit_stable))
/-- What is read of the i-th Op. -/
theorem op_at {w : World} {A : Option Addr} {xs : List OpD} (h : rdRow 3 rdOp w A xs) (i : Nat) (hi : i < xs.length) :
    ∃ (ad : Addr) (B : Option Addr) (cap : Nat), A = some ad ∧ w.cell? (ad.add (i * 3)) = some (.int .i64 xs[i].1) ∧ w.cell? ⟨(ad.add (i * 3)).block, (ad.add (i * 3)).off + 1, none⟩ = some (.int .i64 xs[i].2.1) ∧
      w.cell? ⟨(ad.add (i * 3)).block, (ad.add (i * 3)).off + 2, none⟩ = some (.slice B xs[i].2.2.1.length cap) ∧ (Lit.int .i64 xs[i].1).wf = true ∧ (Lit.int .i64 xs[i].2.1).wf = true ∧
      xs[i].2.2.1.length ≤ cap ∧ cap ≤ 140737488351232 ∧ rdRow 1 (rdInt .u8) w B xs[i].2.2.1 := by
  obtain ⟨ad, es, h1, h2, h3, h4⟩ := h i _ (List.getElem?_eq_getElem hi)
  match es, h2 with
  | [a, b, c], _ =>
    obtain ⟨⟨ha, wa⟩, ⟨hb, wb⟩, ⟨B, cap, hc, hl, hcap, _, hrow⟩, _⟩ := h4
    simp at ha hb hc
    subst ha hb hc
    exact ⟨ad, B, cap, h1, cellsAt_head h3 rfl, cellsAt_field h3 1 (by omega) rfl, cellsAt_field h3 2 (by omega) rfl, wa, wb, hl, by omega, hrow⟩
/-- The first byte. -/
def fst8 (l : List Int) : Int := l.headD 0
theorem fst8_range (l : List Int) (w : World) (B : Option Addr) (h : rdRow 1 (rdInt .u8) w B l) : 0 ≤ fst8 l ∧ fst8 l < 256 := by
  cases l with
  | nil => exact ⟨by simp [fst8], by simp [fst8]⟩
  | cons x l =>
    obtain ⟨ad, v, _, _, _, hw⟩ := rdRow_one h 0 (by simp)
    exact wf_u8 hw
theorem first_any (A : Option Addr) (cap : Nat) (xs : List Int) (w : World) (h : rdRow 1 (rdInt .u8) w A xs) :
    Calls Try.prog 15 #[.slice A xs.length cap] w fun e w' => e = .returned (.int .u8 (fst8 xs)) ∧ w = w' := by
  cases xs with
  | nil =>
    clear h
    go_enter Try.func15, Try.ntmps15
    go_wp2
    go_ret
    exact ⟨rfl, rfl⟩
  | cons x xs =>
    obtain ⟨ad, v, rfl, hc, hv, _⟩ := rdRow_one h 0 (by simp)
    obtain rfl : v = .int .u8 x := by simpa using hv
    clear h hv
    have hl : (0 : Int) < ((x :: xs).length : Int) := by rw [List.length_cons]; omega
    have hl2 : (((x :: xs).length : Int) == 0) = false := by rw [List.length_cons]; rw [beq_eq_false_iff_ne]; omega
    generalize (x :: xs).length = n at *
    have e0 : ad.add 0 = ad := by simp [Addr.add]
    rw [e0] at hc
    go_enter Try.func15, Try.ntmps15
    go_wp2
    go_ret
    exact ⟨rfl, rfl⟩
/-- Whatever Op comes in has this reading. -/
theorem op_opens {H : Type} (enc : TypeId × Value → H) (w : World) : Opens enc Try.prog w 37 rdOp :=
  opens_struct Try.underlying37 (opens_cons rfl (by kernel_rfl) (opens_int Try.underlying3) (opens_cons rfl (by kernel_rfl) (opens_int Try.underlying3)
    (opens_cons rfl (by kernel_rfl) (opens_sl Try.underlying30 (by kernel_rfl) (by kernel_rfl) (opens_int Try.underlying5)) opens_nil)))
theorem ops_opens {H : Type} (enc : TypeId × Value → H) (w : World) : Opens enc Try.prog w 34 (rdSl 3 40 rdOp) :=
  opens_sl Try.underlying34 (by kernel_rfl) (by kernel_rfl) (op_opens enc w)
end Go.Proofs.Ytcodnhknlhfalaa
