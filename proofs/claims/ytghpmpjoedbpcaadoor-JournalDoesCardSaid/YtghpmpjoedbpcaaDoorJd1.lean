import Derived.Test.YtghpmpjoedbpcaaDoorJd0
import Derived.ArgAppend
import Derived.Below
import Derived.BigQuiet
import Derived.ChangeArms
import Derived.Deep.AppendLies
import Derived.Deep.CutBlock
import Derived.Deep.DeepCutAuto
import Derived.Deep.Draws
import Derived.Deep.LoopGhost
import Derived.Deep.OwnRows
import Derived.Deep.QuietTactic
import Derived.Deep.RegionHeld3
import Derived.Deep.Slices
import Derived.Great.BuildSlice
import Derived.Ground.NamesProg
import Derived.KernelRfl
import Derived.Laws.BitsLemmas
import Derived.Laws.BytesArg
import Derived.Laws.CopyOwn
import Derived.Laws.CopyRow
import Derived.Laws.IdiomCopy
import Derived.Laws.MakeOwn
import Derived.Laws.OwnMore
import Derived.Laws.ResultCell
import Derived.Laws.Rows
import Derived.Laws.Slices
import Derived.Lib.AppendStr
import Derived.Lib.AppendZerosOnto
import Derived.Lib.ConvBytes
import Derived.Lib.CutLaws
import Derived.Lib.Hide
import Derived.Lib.IndexLaws
import Derived.Lib.LaidU8T
import Derived.Lib.OthersKept
import Derived.Lib.Overlaps
import Derived.Lib.SliceRun
import Derived.Maps.AppendAt
import Derived.OrdersHeld
import Derived.OwnWalk
import Derived.RegionTactic
import Derived.RowKit
import Derived.RowKit3
import Derived.Shelf.Unicode.ValidAny
import Derived.Shelf.Utf8.RuneCount
import Derived.SizedLaws
import Derived.Tactics
import Derived.Test.YtghpmpjoedbpcaaDoorProg
import Derived.WalkKit
import Derived.WideLaws
set_option linter.unusedVariables false
set_option linter.unusedSimpArgs false
namespace Go.Proofs.YtghpmpjoedbpcaaDoorW.PrintWords
end Go.Proofs.YtghpmpjoedbpcaaDoorW.PrintWords
namespace Go.Proofs.YtghpmpjoedbpcaaDoorW.PrintLast
end Go.Proofs.YtghpmpjoedbpcaaDoorW.PrintLast
namespace Go.Proofs.YtghpmpjoedbpcaaDoorW.PrintMore
end Go.Proofs.YtghpmpjoedbpcaaDoorW.PrintMore
/-! ### Shelf -/
namespace Go.Proofs
open Go.Shelf
def Tryd.lays195_ren : Go.Shelf.Ren := ⟨fun | 195 => 59 | n => n, fun | 9 => 9 | 3 => 3 | 0 => 0 | 4 => 4 | n => n, fun | n => n⟩
theorem Tryd.lays195 : Go.Proofs.Lays.n195 Tryd.prog Tryd.lays195_ren := {
  mixed := by kernel_rfl
  f195 := Tryd.func59.trans (congrArg some (by kernel_rfl))
  t0 := Tryd.underlying0
  a0 := Tryd.isAgg0
  z0 := Tryd.sizeOf0
  v0 := Tryd.zeroValue0
  t3 := Tryd.underlying3
  a3 := Tryd.isAgg3
  z3 := Tryd.sizeOf3
  v3 := Tryd.zeroValue3
  t4 := Tryd.underlying4
  a4 := Tryd.isAgg4
  z4 := Tryd.sizeOf4
  v4 := Tryd.zeroValue4
  t9 := Tryd.underlying9
  a9 := Tryd.isAgg9
  z9 := Tryd.sizeOf9
  v9 := Tryd.zeroValue9 }
open Go.RowKit in
/-- unicode/utf8.RuneCountInString: "RuneCountInString is like RuneCount but its input is a string." ("RuneCount returns the number of runes in p. Erroneous and short encodings are treated as single runes of width 1 byte."): EVERY STRING, valid UTF-8 or not: 'Lib.runeCount s' (plain Lean over the model's own 'Utf8.decode'; 'Lib.runeCount_le': at most len(s); 'Lib.runeCount_ascii': on ASCII: len(s)). THE ONE CONDITION: len(s) below 2^63 - 1 (the counter does not wrap): the form's reach pays it. THE WORLD BEHIND THE CALL: ONE BLOCK MORE: the model's iterator over s, at its end: all else as it was. (LAID: no walk: one application.) -/
theorem Tryd.utf8_RuneCountInString (s : ByteArray) (w : World) (hs : s.size < 9223372036854775807) :
    Calls Tryd.prog 59 #[.string s] w fun e w' => e = .returned (.int .i64 (Lib.runeCount s)) ∧ ∃ pos, w' = w.iter s pos := Any.utf8_RuneCountInString Tryd.lays195 s w hs
def Tryd.laysValid_ren : Go.Shelf.Ren := ⟨fun | 196 => 58 | 259 => 62 | n => n, fun | 9 => 9 | 4 => 4 | 3 => 3 | 5 => 5 | 12 => 12 | 119 => 87 | 0 => 0 | 46 => 80 | 139 => 90 | 138 => 89 | 53 => 94 | n => n, fun | 3 => 0 | 4 => 1 | n => n⟩
theorem Tryd.laysValid : Go.Proofs.Lays.n196 Tryd.prog Tryd.laysValid_ren := {
  mixed := by kernel_rfl
  f196 := Tryd.func58.trans (congrArg some (by kernel_rfl))
  f259 := Tryd.func62.trans (congrArg some (by kernel_rfl))
  t0 := Tryd.underlying0
  a0 := Tryd.isAgg0
  z0 := Tryd.sizeOf0
  v0 := Tryd.zeroValue0
  t3 := Tryd.underlying3
  a3 := Tryd.isAgg3
  z3 := Tryd.sizeOf3
  v3 := Tryd.zeroValue3
  t4 := Tryd.underlying4
  a4 := Tryd.isAgg4
  z4 := Tryd.sizeOf4
  v4 := Tryd.zeroValue4
  t5 := Tryd.underlying5
  a5 := Tryd.isAgg5
  z5 := Tryd.sizeOf5
  v5 := Tryd.zeroValue5
  t9 := Tryd.underlying9
  a9 := Tryd.isAgg9
  z9 := Tryd.sizeOf9
  v9 := Tryd.zeroValue9
  t12 := Tryd.underlying12
  a12 := Tryd.isAgg12
  z12 := Tryd.sizeOf12
  v12 := Tryd.zeroValue12
  t46 := Tryd.underlying80
  a46 := Tryd.isAgg80
  z46 := Tryd.sizeOf80
  v46 := Tryd.zeroValue80
  t53 := Tryd.underlying94
  a53 := Tryd.isAgg94
  z53 := Tryd.sizeOf94
  v53 := Tryd.zeroValue94
  t119 := Tryd.underlying87
  a119 := Tryd.isAgg87
  z119 := Tryd.sizeOf87
  t138 := Tryd.underlying89
  a138 := Tryd.isAgg89
  z138 := Tryd.sizeOf89
  v138 := Tryd.zeroValue89
  t139 := Tryd.underlying90
  a139 := Tryd.isAgg90
  z139 := Tryd.sizeOf90
  v139 := Tryd.zeroValue90
  g3 := by kernel_rfl
  g4 := by kernel_rfl }
open Go.RowKit in
theorem Tryd.utf8_ValidString (s : ByteArray) (w : World) (hs : s.size ≤ 9223372036854775807) (hT : Lib.Utf8Tabs (Tryd.laysValid_ren.g 3) (Tryd.laysValid_ren.g 4) w) :
    Calls Tryd.prog 58 #[.string s] w fun e w' => e = .returned (.bool (Lib.validD s.data.toList)) ∧ Below w.heap.size w w' := Any.utf8_ValidString Tryd.laysValid s w hs hT
end Go.Proofs
/-! ### Tabs -/
namespace Go.Proofs.YtghpmpjoedbpcaaDoor
open Go.RowKit Go.Shelf
/-- The two tables lie in the world as Go's text lays them. -/
def Tabs (w : World) : Prop := Lib.Utf8Tabs (Tryd.laysValid_ren.g 3) (Tryd.laysValid_ren.g 4) w
theorem Tabs.u8 {w : World} (h : Tabs w) : Lib.Utf8Tabs (Tryd.laysValid_ren.g 3) (Tryd.laysValid_ren.g 4) w := h
theorem Tabs.below {w w' : World} (h : Tabs w) (hb : Below w.heap.size w w') : Tabs w' := by
  refine ⟨fun c hc => ?_, fun i hi => ?_⟩
  · have := h.1 c hc
    exact (hb.cell (World.block_lt_of_cell? w _ this)).trans this
  · have := h.2 i hi
    exact ⟨(hb.cell (World.block_lt_of_cell? w _ this.1)).trans this.1, (hb.cell (World.block_lt_of_cell? w _ this.2)).trans this.2⟩
end Go.Proofs.YtghpmpjoedbpcaaDoor
/-! ### Print0 -/
namespace Go.Proofs.YtghpmpjoedbpcaaDoor.Print
open Go.RowKit Go.Proofs.YtghpmpjoedbpcaaDoorW.PrintWords Go.Proofs.YtghpmpjoedbpcaaDoorW.PrintLast Go.Proofs.YtghpmpjoedbpcaaDoorW.PrintMore
attribute [local go_sem] min2_int min_two
set_option linter.unusedVariables false
set_option linter.unusedSimpArgs false
def errW : Option Int → Value
  | none => .nilIface
  | some c => .iface 0 (.int .i64 c)
theorem errW_none : errW none = .nilIface := rfl
theorem errW_some (c : Int) : errW (some c) = .iface 0 (.int .i64 c) := rfl
theorem info3 : (Tryd.prog.info? 3).map (fun i => (i.zero, i.size, i.bytes)) = some (some (.int .i64 0), 1, 8) := by kernel_rfl
theorem info27 : (Tryd.prog.info? 27).map (fun i => (i.zero, i.size, i.bytes)) = some (some (.agg #[(.int .i64 0), (.int .i64 0), (.int .i64 0), (.string ⟨#[]⟩), (.int .i64 0), (.int .i64 0)]), 6, 56) := by kernel_rfl
theorem info35 : (Tryd.prog.info? 35).map (fun i => (i.zero, i.size, i.bytes)) = some (some (.agg #[(.int .i64 0), (.int .i64 0), (.int .i64 0)]), 3, 24) := by kernel_rfl
structure S27 where
  f0 : Int
  f1 : Int
  f2 : Int
  f3 : ByteArray
  f4 : Int
  f5 : Int
def z27 : S27 := ⟨(0 : Int), (0 : Int), (0 : Int), (⟨#[]⟩ : ByteArray), (0 : Int), (0 : Int)⟩
def k27 : Kd S27 := Kd.iso (Kd.pair (Kd.int .i64) (Kd.pair (Kd.int .i64) (Kd.pair (Kd.int .i64) (Kd.pair Kd.string (Kd.pair (Kd.int .i64) (Kd.int .i64)))))) (fun x : S27 => (x.f0, x.f1, x.f2, x.f3, x.f4, x.f5))
theorem k27_open {w : World} {x : S27} {cs : List Value} (h : k27.K w x cs) : cs = [.int .i64 x.f0, .int .i64 x.f1, .int .i64 x.f2, .string x.f3, .int .i64 x.f4, .int .i64 x.f5] := by
  obtain ⟨_, _, rfl, rfl, ⟨_, _, rfl, rfl, ⟨_, _, rfl, rfl, ⟨_, _, rfl, rfl, ⟨_, _, rfl, rfl, rfl⟩⟩⟩⟩⟩ := h
  exact rfl
theorem k27_mk (w : World) (x : S27)  : k27.K w x [.int .i64 x.f0, .int .i64 x.f1, .int .i64 x.f2, .string x.f3, .int .i64 x.f4, .int .i64 x.f5] := ⟨[.int .i64 x.f0], [.int .i64 x.f1, .int .i64 x.f2, .string x.f3, .int .i64 x.f4, .int .i64 x.f5], rfl, rfl, ⟨[.int .i64 x.f1], [.int .i64 x.f2, .string x.f3, .int .i64 x.f4, .int .i64 x.f5], rfl, rfl, ⟨[.int .i64 x.f2], [.string x.f3, .int .i64 x.f4, .int .i64 x.f5], rfl, rfl, ⟨[.string x.f3], [.int .i64 x.f4, .int .i64 x.f5], rfl, rfl, ⟨[.int .i64 x.f4], [.int .i64 x.f5], rfl, rfl, rfl⟩⟩⟩⟩⟩
theorem k27_mkM (w : World) (base : Nat) (ok : Nat → Prop) (x : S27)  : k27.M w base ok x [.int .i64 x.f0, .int .i64 x.f1, .int .i64 x.f2, .string x.f3, .int .i64 x.f4, .int .i64 x.f5] := ⟨[.int .i64 x.f0], [.int .i64 x.f1, .int .i64 x.f2, .string x.f3, .int .i64 x.f4, .int .i64 x.f5], rfl, rfl, ⟨[.int .i64 x.f1], [.int .i64 x.f2, .string x.f3, .int .i64 x.f4, .int .i64 x.f5], rfl, rfl, ⟨[.int .i64 x.f2], [.string x.f3, .int .i64 x.f4, .int .i64 x.f5], rfl, rfl, ⟨[.string x.f3], [.int .i64 x.f4, .int .i64 x.f5], rfl, rfl, ⟨[.int .i64 x.f4], [.int .i64 x.f5], rfl, rfl, rfl⟩⟩⟩⟩⟩
def rd_T27 (xs : List S27) (i : Int) : S27 := xs.getD i.toNat z27
theorem at_T27 {w : World} {A : Option Addr} {n : Nat} {xs : List S27} (h : Kd.C k27 w A n xs) (i : Int) (h0 : 0 ≤ i) (h1 : i < n) : ∃ ad , A = some ad ∧ w.cell? (ad.add (i.toNat * 6)) = some (.int .i64 (rd_T27 xs i).f0) ∧ w.cell? ⟨(ad.add (i.toNat * 6)).block, (ad.add (i.toNat * 6)).off + 1, none⟩ = some (.int .i64 (rd_T27 xs i).f1) ∧ w.cell? ⟨(ad.add (i.toNat * 6)).block, (ad.add (i.toNat * 6)).off + 2, none⟩ = some (.int .i64 (rd_T27 xs i).f2) ∧ w.cell? ⟨(ad.add (i.toNat * 6)).block, (ad.add (i.toNat * 6)).off + 3, none⟩ = some (.string (rd_T27 xs i).f3) ∧ w.cell? ⟨(ad.add (i.toNat * 6)).block, (ad.add (i.toNat * 6)).off + 4, none⟩ = some (.int .i64 (rd_T27 xs i).f4) ∧ w.cell? ⟨(ad.add (i.toNat * 6)).block, (ad.add (i.toNat * 6)).off + 5, none⟩ = some (.int .i64 (rd_T27 xs i).f5) := by
  obtain ⟨ad, c, e, _, hK, hc0⟩ := Kd.C_get h z27 i h0 h1
  have hc : ∀ j u, c[j]? = some u → w.cell? (ad.add (i.toNat * 6 + j)) = some u := hc0
  obtain rfl := k27_open hK
  exact ⟨ad, e, hc 0 _ rfl, by rw [← add_field _ _ 1 (by omega)]; exact hc 1 _ rfl, by rw [← add_field _ _ 2 (by omega)]; exact hc 2 _ rfl, by rw [← add_field _ _ 3 (by omega)]; exact hc 3 _ rfl, by rw [← add_field _ _ 4 (by omega)]; exact hc 4 _ rfl, by rw [← add_field _ _ 5 (by omega)]; exact hc 5 _ rfl⟩
structure S35 where
  f0 : Int
  f1 : Int
  f2 : Int
def z35 : S35 := ⟨(0 : Int), (0 : Int), (0 : Int)⟩
def k35 : Kd S35 := Kd.iso (Kd.pair (Kd.int .i64) (Kd.pair (Kd.int .i64) (Kd.int .i64))) (fun x : S35 => (x.f0, x.f1, x.f2))
theorem k35_open {w : World} {x : S35} {cs : List Value} (h : k35.K w x cs) : cs = [.int .i64 x.f0, .int .i64 x.f1, .int .i64 x.f2] := by
  obtain ⟨_, _, rfl, rfl, ⟨_, _, rfl, rfl, rfl⟩⟩ := h
  exact rfl
theorem k35_mk (w : World) (x : S35)  : k35.K w x [.int .i64 x.f0, .int .i64 x.f1, .int .i64 x.f2] := ⟨[.int .i64 x.f0], [.int .i64 x.f1, .int .i64 x.f2], rfl, rfl, ⟨[.int .i64 x.f1], [.int .i64 x.f2], rfl, rfl, rfl⟩⟩
theorem k35_mkM (w : World) (base : Nat) (ok : Nat → Prop) (x : S35)  : k35.M w base ok x [.int .i64 x.f0, .int .i64 x.f1, .int .i64 x.f2] := ⟨[.int .i64 x.f0], [.int .i64 x.f1, .int .i64 x.f2], rfl, rfl, ⟨[.int .i64 x.f1], [.int .i64 x.f2], rfl, rfl, rfl⟩⟩
def rd_T35 (xs : List S35) (i : Int) : S35 := xs.getD i.toNat z35
theorem at_T35 {w : World} {A : Option Addr} {n : Nat} {xs : List S35} (h : Kd.C k35 w A n xs) (i : Int) (h0 : 0 ≤ i) (h1 : i < n) : ∃ ad , A = some ad ∧ w.cell? (ad.add (i.toNat * 3)) = some (.int .i64 (rd_T35 xs i).f0) ∧ w.cell? ⟨(ad.add (i.toNat * 3)).block, (ad.add (i.toNat * 3)).off + 1, none⟩ = some (.int .i64 (rd_T35 xs i).f1) ∧ w.cell? ⟨(ad.add (i.toNat * 3)).block, (ad.add (i.toNat * 3)).off + 2, none⟩ = some (.int .i64 (rd_T35 xs i).f2) := by
  obtain ⟨ad, c, e, _, hK, hc0⟩ := Kd.C_get h z35 i h0 h1
  have hc : ∀ j u, c[j]? = some u → w.cell? (ad.add (i.toNat * 3 + j)) = some u := hc0
  obtain rfl := k35_open hK
  exact ⟨ad, e, hc 0 _ rfl, by rw [← add_field _ _ 1 (by omega)]; exact hc 1 _ rfl, by rw [← add_field _ _ 2 (by omega)]; exact hc 2 _ rfl⟩
structure S43 where
  f0 : Int
  f1 : Int
  f2 : S27
end Go.Proofs.YtghpmpjoedbpcaaDoor.Print
/-! ### ELib -/
namespace Go.Proofs.YtghpmpjoedbpcaaDoor.Print
open Go.RowKit Go.Proofs.YtghpmpjoedbpcaaDoorW.PrintWords Go.Proofs.YtghpmpjoedbpcaaDoorW.PrintLast Go.Proofs.YtghpmpjoedbpcaaDoorW.PrintMore
def utf8_ValidString.f (a0 : ByteArray) : Option Bool := if a0.size ≤ 9223372036854775807 then some (Lib.validD a0.data.toList) else none
theorem utf8_ValidString.calls (a0 : ByteArray) (r : Bool) (w : World) (hT : Tabs w) (h : utf8_ValidString.f a0 = some r) :
    Calls Tryd.prog 58 #[.string a0] w fun e w' => e = .returned (.bool r) ∧ Below w.heap.size w w' := by
  unfold utf8_ValidString.f at h
  split at h
  · obtain rfl := Option.some.inj h
    exact Tryd.utf8_ValidString a0 w ‹_› hT.u8
  · cases h
def utf8_RuneCountInString.f (a0 : ByteArray) : Option Int := if a0.size < 9223372036854775807 then some (Lib.runeCount a0) else none
theorem utf8_RuneCountInString.calls (a0 : ByteArray) (r : Int) (w : World) (h : utf8_RuneCountInString.f a0 = some r) :
    Calls Tryd.prog 59 #[.string a0] w fun e w' => e = .returned (.int .i64 r) ∧ Below w.heap.size w w' := by
  unfold utf8_RuneCountInString.f at h
  split at h
  · obtain rfl := Option.some.inj h
    exact (Tryd.utf8_RuneCountInString a0 w ‹_›).mono fun _ _ ⟨he, pos, hw⟩ => ⟨he, hw ▸ (Below.refl _ _).alloc (Nat.le_refl _) _⟩
  · cases h
end Go.Proofs.YtghpmpjoedbpcaaDoor.Print
/-! ### LxPure -/
namespace Go.Proofs.YtghpmpjoedbpcaaDoor
set_option linter.unusedSimpArgs false
set_option linter.unusedVariables false
/-- What is told of a number. -/
def told (o : Option Nat) : Int × Bool := match o with
  | some n => if 9223372036854775807 < n then (0, false) else ((n : Int), true)
  | none => (0, false)
end Go.Proofs.YtghpmpjoedbpcaaDoor
/-! ### K -/
namespace Go.Proofs.YtghpmpjoedbpcaaDoor
open Go.RowKit
/-- Of the blocks that were there only those of S may have changed. -/
structure Only (S : List Nat) (w w' : World) : Prop where
  os : w'.os = w.os
  tape : w'.tape = w.tape
  output : w'.output = w.output
  size : w.heap.size ≤ w'.heap.size
  block : ∀ k, k < w.heap.size → k ∉ S → w'.heap[k]? = w.heap[k]?
theorem Only.refl (S : List Nat) (w : World) : Only S w w := ⟨rfl, rfl, rfl, Nat.le_refl _, fun _ _ _ => rfl⟩
theorem Only.trans {S : List Nat} {a b c : World} (h : Only S a b) (k : Only S b c) : Only S a c :=
  ⟨k.os.trans h.os, k.tape.trans h.tape, k.output.trans h.output, Nat.le_trans h.size k.size,
   fun i hi hn => (k.block i (Nat.lt_of_lt_of_le hi h.size) hn).trans (h.block i hi hn)⟩
/-- What is written newly in between does not count. -/
theorem Only.then {S T : List Nat} {a b c : World} (h : Only S a b) (k : Only T b c) (hT : ∀ i, i ∈ T → i ∈ S ∨ a.heap.size ≤ i) : Only S a c :=
  ⟨k.os.trans h.os, k.tape.trans h.tape, k.output.trans h.output, Nat.le_trans h.size k.size,
   fun i hi hn => (k.block i (Nat.lt_of_lt_of_le hi h.size) (fun ht => (hT i ht).elim hn (by omega))).trans (h.block i hi hn)⟩
theorem Only.mono {S T : List Nat} {a b : World} (h : Only S a b) (hT : ∀ i, i ∈ S → i ∈ T) : Only T a b :=
  ⟨h.os, h.tape, h.output, h.size, fun i hi hn => h.block i hi (fun hs => hn (hT i hs))⟩
theorem Only.drew {S : List Nat} {a w : World} (h : Only S a w) : Only S a w.drew := ⟨h.os, h.tape, h.output, h.size, h.block⟩
theorem Only.alloc {S : List Nat} {a w : World} (h : Only S a w) (o : Obj) : Only S a (w.alloc o) :=
  h.trans ⟨rfl, rfl, rfl, by simp, fun k hk _ => Below.heap_alloc _ _ _ hk⟩
theorem Only.setRow {S : List Nat} {a w : World} (h : Only S a w) {g : Nat} (hp : g ∈ S ∨ a.heap.size ≤ g) (cs : Array Value) : Only S a (w.setRow g cs) :=
  h.then (T := [g]) ⟨rfl, rfl, rfl, by simp [World.setRow], fun k _ hn => setRow_other w g k cs (by simpa using hn)⟩ (by simpa using hp)
theorem Only.grown {S : List Nat} {a w w' : World} {row : Option Nat} (h : Only S a w) (hg : w.grownBy w' row) (hr : ∀ k, row = some k → k ∈ S ∨ a.heap.size ≤ k) : Only S a w' :=
  h.then (T := row.toList) ⟨hg.os, hg.tape, hg.output, hg.size, fun k hk hn => hg.block k hk (fun e => hn (by rw [← e]; simp))⟩ (fun i hi => hr i (by simpa using hi))
theorem Only.below {S : List Nat} {a w : World} (h : Only S a w) {B : Nat} (hB : B ≤ a.heap.size) (hS : ∀ i, i ∈ S → B ≤ i) : Below B a w :=
  ⟨h.os, h.tape, h.output, h.size, fun k hk => h.block k (by omega) (fun hs => by have := hS k hs; omega)⟩
theorem Only.nil_below {a w : World} (h : Only [] a w) : Below a.heap.size a w := h.below (Nat.le_refl _) (by simp)
theorem Only.of_below {a w : World} (h : Below a.heap.size a w) : Only [] a w := ⟨h.os, h.tape, h.output, h.size, fun k hk _ => h.block k hk⟩
theorem Only.heap {S : List Nat} {a w : World} (h : Only S a w) {k : Nat} {o : Obj} (ho : a.heap[k]? = some o) (hk : k ∉ S) : w.heap[k]? = some o :=
  (h.block k (Array.getElem?_eq_some_iff.1 ho).1 hk).trans ho
theorem Only.cell {S : List Nat} {a w : World} (h : Only S a w) {p : Addr} {v : Value} (hc : a.cell? p = some v) (hp : p.block ∉ S) : w.cell? p = some v :=
  (World.cell?_of_block (w := a) (h.block p.block (block_lt_of_cell hc) hp)).trans hc
theorem Only.pop {S : List Nat} {g : Nat} {a w : World} (h : Only (g :: S) a w) (hg : a.heap.size ≤ g) : Only S a w :=
  ⟨h.os, h.tape, h.output, h.size, fun i hi hn => h.block i hi (by simp; exact ⟨by omega, hn⟩)⟩
theorem heap_lt {w : World} {g : Nat} {o : Obj} (h : w.heap[g]? = some o) : g < w.heap.size := (Array.getElem?_eq_some_iff.1 h).1
/-- The cells from an address on hold these values. -/
def CellsAt (w : World) (ad : Addr) (cs : List Value) : Prop := ∀ j v, cs[j]? = some v → w.cell? (ad.add j) = some v
theorem add_block (ad : Addr) (j : Nat) : (ad.add j).block = ad.block := by unfold Addr.add; split <;> rfl
theorem CellsAt.only {S : List Nat} {a w : World} {ad : Addr} {cs : List Value} (h : CellsAt a ad cs) (ho : Only S a w) (hp : ad.block ∉ S) : CellsAt w ad cs :=
  fun j v hj => ho.cell (h j v hj) (by rw [add_block]; exact hp)
section laws
variable {P : Program}
theorem run_loadVar_at (w : World) (ty : TypeId) (ad : Addr) (cs : List Value) (d : TypeDesc) (hc : CellsAt w ad cs)
    (hu : P.underlying ty = some d) (hd : (match d with | .struct _ | .array _ _ => true | _ => false) = true) (hi : (P.info? ty).map (·.size) = some cs.length) :
    (loadVar ty ad).run P w = .ok (.agg cs.toArray) w := by
  have hl : (loadCells ad cs.length).run P w = .ok cs.toArray w := run_loadCells_list (P := P) w ad cs hc
  cases hq : P.info? ty with
  | none => simp [hq] at hi
  | some i =>
    have hs : i.size = cs.length := by simpa [hq] using hi
    have hagg : (isAgg ty).run P w = .ok true w := by
      unfold isAgg
      rw [Sem.run_bind, run_underlying hu w]
      cases d <;> simp_all
    simp [loadVar, Sem.run_bind, hagg, sizeOf, typeInfo, hq, hs, hl]
/-- A struct or an array is loaded from wherever it lies. -/
theorem wpList_load_at {ops : Array Oper} {rest : List Oper} {o : Oper} {a : Act} {w : World} {Q : Exit → Act → World → Prop} (hgd : o.guard = none) (ty : TypeId) (x : Operand) (ho : o.op = .load ty x)
    (ad : Addr) (hx : a.eval x = .pointer (some ad)) (cs : List Value) (d : TypeDesc) (hc : CellsAt w ad cs)
    (hu : P.underlying ty = some d) (hd : (match d with | .struct _ | .array _ _ => true | _ => false) = true) (hi : (P.info? ty).map (·.size) = some cs.length)
    (h : wpList P ops Q rest (a.put o.dst (.agg cs.toArray)) w) : wpList P ops Q (o :: rest) a w := by
  refine wpList_plain hgd fun K hK => ?_
  unfold Oper.wp execOp
  simp only [ho, hx, Instr.loadAt, Instr.sureAddr, Sem.run_bind, Sem.run_pure, Result.andThen_ok, run_loadVar_at w ty ad cs d hc hu hd hi]
  exact hK _ _ h
/-- var x [n]T, or any variable in memory: a new block of its zero value; the world behind it by a name. -/
theorem wpList_alloc_new {ops : Array Oper} {rest : List Oper} {o : Oper} {a : Act} {w : World} {Q : Exit → Act → World → Prop} (hgd : o.guard = none) (t : TypeId) (ho : o.op = .alloc t)
    (z : Value) (size bytes : Nat) (hinfo : (P.info? t).map (fun i => (i.zero, i.size, i.bytes)) = some (some z, size, bytes))
    (h : ∀ w', Hid (w'.heap[w.heap.size]? = some (.cells z.cells t (0, 0))) → Hid (w'.heap.size = w.heap.size + 1) → Only [] w w' → wpList P ops Q rest (a.put o.dst (.pointer (some ⟨w.heap.size, 0, none⟩))) w') :
    wpList P ops Q (o :: rest) a w := by
  obtain ⟨i, h2, h3, h4, h5⟩ := info_parts hinfo
  refine wpList_plain hgd fun K hK => ?_
  have hrun : (Instr.alloc t true (.tuple #[])).run P w = .ok (.pointer (some ⟨w.heap.size, 0, none⟩)) (w.alloc (.cells z.cells t)) := by
    simp [Instr.alloc, zeroValue, typeInfo, h2, h3, newVar, newRow]
  unfold Oper.wp
  simp only [execOp, ho, Sem.run_bind, hrun, Result.andThen]
  exact hK _ _ (h _ (heap_alloc_new w _) (show _ = _ by simp) ((Only.refl _ _).alloc _))
/-- A struct or an array is stored over a whole block; the world behind it by a name. -/
theorem wpList_store_new {ops : Array Oper} {rest : List Oper} {o : Oper} {a : Act} {w : World} {Q : Exit → Act → World → Prop} (hgd : o.guard = none) (ty : TypeId) (x y : Operand) (ho : o.op = .store ty x y)
    (g : Nat) (cells : Array Value) (hx : a.eval x = .pointer (some ⟨g, 0, none⟩)) (hy : a.eval y = .agg cells)
    (t : TypeId) (old : Array Value) (hg : w.heap[g]? = some (.cells old t (0, 0))) (hi : (P.info? ty).map (·.size) = some cells.size)
    (hold : old.size = cells.size) (h1 : ∀ v ∈ cells.toList, v.oneCell' = true)
    (h : ∀ w', Hid (w'.heap[g]? = some (.cells cells t (0, 0))) → Only [g] w w' → wpList P ops Q rest (a.put o.dst undef) w') : wpList P ops Q (o :: rest) a w :=
  wpList_store_row hgd ty x y ho g cells hx hy t old hg hi hold (Array.all_eq_true_iff_forall_mem.2 (fun v hv => h1 v (by simpa using hv)))
    (h _ (setRow_heap w g old cells t _ hg) ((Only.refl _ _).setRow (by simp) _))
theorem cellsAt_row {w : World} {g : Nat} {cs : List Value} {t : TypeId} {fr : Nat × Nat} (h : w.heap[g]? = some (.cells cs.toArray t fr)) : CellsAt w ⟨g, 0, none⟩ cs := by
  intro j v hj
  have e : (⟨g, 0, none⟩ : Addr).add j = ⟨g, j, none⟩ := by unfold Addr.add; split <;> simp_all
  rw [e, cell_of_row w g j _ _ _ h, List.getElem?_toArray, hj]
end laws
end Go.Proofs.YtghpmpjoedbpcaaDoor
/-! ### Rd -/
namespace Go.Proofs.YtghpmpjoedbpcaaDoor
open Go.RowKit Go.Deep
/-- A reading: these cells, in this world, are this datum. -/
abbrev Rd (α : Type) := World → List Value → α → Prop
def rdInt (k : IntKind) : Rd Int := fun _ cs x => cs = [.int k x] ∧ (Lit.int k x).wf = true
def rdStr : Rd ByteArray := fun _ cs x => cs = [.string x] ∧ x.size ≤ 140737488351232
def rdUnit : Rd Unit := fun _ _ _ => True
def rdPair {α β : Type} (n : Nat) (R : Rd α) (T : Rd β) : Rd (α × β) := fun w cs x => R w (cs.take n) x.1 ∧ T w (cs.drop n) x.2
/-- The elements from an address on. -/
def rdRow {α : Type} (n : Nat) (R : Rd α) (w : World) (A : Option Addr) (xs : List α) : Prop :=
  ∀ i x, xs[i]? = some x → ∃ ad es, A = some ad ∧ es.length = n ∧ CellsAt w (ad.add (i * n)) es ∧ R w es x
def rdSl {α : Type} (n bytes : Nat) (R : Rd α) : Rd (List α) := fun w cs xs =>
  ∃ A cap, cs = [.slice A xs.length cap] ∧ xs.length ≤ cap ∧ cap * bytes ≤ 140737488351232 ∧ cap ≤ 9223372036854775807 ∧ rdRow n R w A xs
theorem CellsAt.below {w w' : World} {ad : Addr} {cs : List Value} (h : CellsAt w ad cs) (hb : Below w.heap.size w w') : CellsAt w' ad cs :=
  fun j v hj => by have := h j v hj; exact (hb.cell (by exact block_lt_of_cell this)).trans this
section opens
variable {H : Type} {enc : TypeId × Value → H} {P : Program} {w : World}
/-- Whatever cells read as a datum of this type have this reading. -/
def Opens {α : Type} (enc : TypeId × Value → H) (P : Program) (w : World) (t : TypeId) (R : Rd α) : Prop :=
  ∀ fuel cs x, DataW.trod enc P w 0 (fun _ => true) true fuel t cs = some x → (x.1.weights P t).all (· ≤ reachBytes) = true → ∃ y, R w cs y
theorem opens_int {t : TypeId} {k : IntKind} (ht : P.underlying t = some (.int k)) : Opens enc P w t (rdInt k) := by
  intro fuel cs x h _
  obtain ⟨n, rfl, _, hw⟩ := DataW.trod_int ht h
  exact ⟨n, rfl, hw⟩
theorem opens_str {t : TypeId} (ht : P.underlying t = some .string) : Opens enc P w t rdStr := by
  intro fuel cs x h hs
  obtain ⟨s, rfl, rfl, _⟩ := DataW.trod_string ht h
  refine ⟨s, rfl, ?_⟩
  simp only [DataW.weights, List.all_cons, List.all_nil, Bool.and_true, decide_eq_true_eq, Array.length_toList] at hs
  exact hs
theorem weightsAll_mem {e : TypeId} {d : DataW H} : ∀ {l : List (DataW H)}, d ∈ l → ∀ m, m ∈ d.weights P e → m ∈ DataW.weightsAll P e l
  | x :: l, hd, m, hm => by
    rw [DataW.weightsAll, List.mem_append]
    rcases List.mem_cons.1 hd with rfl | hd
    · exact .inl hm
    · exact .inr (weightsAll_mem hd m hm)
theorem opens_sl {α : Type} [Inhabited α] {t e : TypeId} {R : Rd α} {n bytes : Nat} (ht : P.underlying t = some (.slice e)) (hn : P.cellsOf e = n) (hb : P.bytesOf e = bytes) (hR : Opens enc P w e R) : Opens enc P w t (rdSl n bytes R) := by
  subst hn
  subst hb
  intro fuel cs x h hs
  rcases open_slice ht h with ⟨rfl, rfl⟩ | ⟨a, len, cap, m, k, D, Pl, rfl, _, hl, hm, hmm, rfl, hi⟩
  · exact ⟨[], none, 0, rfl, by simp, by simp, by simp, fun i x hx => by simp at hx⟩
  · simp only [if_true] at hmm
    subst hmm
    have hw : ∀ i, i < m → ((D i).weights P e).all (· ≤ reachBytes) = true := by
      intro i him
      rw [List.all_eq_true] at hs ⊢
      intro z hz
      refine hs z ?_
      simp only [DataW.weights, ht]
      refine List.mem_cons_of_mem _ ?_
      rw [List.mem_append]
      by_cases hil : i < len
      · exact .inl (weightsAll_mem (List.mem_map.2 ⟨i, List.mem_range.2 hil, rfl⟩) z hz)
      · exact .inr (weightsAll_mem (List.mem_map.2 ⟨i - len, List.mem_range.2 (by omega), by rw [show len + (i - len) = i by omega]⟩) z hz)
    have hcap : m * P.bytesOf e ≤ 140737488351232 := by
      rw [List.all_eq_true] at hs
      have := hs ((((List.range len).map D).length + ((List.range (m - len)).map fun j => D (len + j)).length) * P.bytesOf e) (by simp [DataW.weights, ht])
      simp only [List.length_map, List.length_range, decide_eq_true_eq] at this
      rw [show len + (m - len) = m by omega] at this
      exact this
    obtain ⟨f, hf⟩ := choose_lt (α := α) (n := len) (p := fun i y => ∃ es, es.length = P.cellsOf e ∧ CellsAt w (a.add (i * P.cellsOf e)) es ∧ R w es y) (fun i hil => by
      obtain ⟨es, hc, htr⟩ := hi i (by omega)
      obtain ⟨y, hy⟩ := hR k es _ htr (hw i (by omega))
      obtain ⟨_, hlen, hat⟩ := World.cells?_some hc
      refine ⟨y, es, hlen, fun j v hj => ?_, hy⟩
      have hjl := (List.getElem?_eq_some_iff.1 hj).1
      exact (hat j (by omega)).trans hj)
    refine ⟨(List.range len).map f, some a, m, by simp, by simpa using hl, hcap, by unfold maxLen at hm; omega, ?_⟩
    intro i y hy
    have hil : i < len := by have := (List.getElem?_eq_some_iff.1 hy).1; simpa using this
    rw [List.getElem?_map, List.getElem?_range hil] at hy
    cases hy
    obtain ⟨es, h1, h2, h3⟩ := hf i hil
    exact ⟨a, es, rfl, h1, h2, h3⟩
/-- The fields from one on. -/
def OpensFs {α : Type} (enc : TypeId × Value → H) (P : Program) (w : World) (off : Nat) (fs : List Field) (R : Rd α) : Prop :=
  ∀ (fuel : Nat) (cs : List Value) (ys : List (DataW H × List MemPlace)), ys.length = fs.length → (∀ (i : Nat) (f : Field), fs[i]? = some f → DataW.trod enc P w 0 (fun _ => true) true fuel f.type ((cs.drop f.offset).take (P.cellsOf f.type)) = ys[i]?) →
    (DataW.weightsEach P (fs.map (·.type)) (ys.map (·.1))).all (· ≤ reachBytes) = true → ∃ y, R w (cs.drop off) y
theorem opens_nil {off : Nat} : OpensFs enc P w off [] rdUnit := fun _ _ _ _ _ _ => ⟨(), trivial⟩
theorem opens_cons {α β : Type} {off n : Nat} {f : Field} {fs : List Field} {R : Rd α} {T : Rd β} (hoff : f.offset = off) (hn : P.cellsOf f.type = n) (hR : Opens enc P w f.type R) (hT : OpensFs enc P w (off + n) fs T) : OpensFs enc P w off (f :: fs) (rdPair n R T) := by
  subst hoff
  subst hn
  intro fuel cs ys hl hf hs
  match ys, hl with
  | y :: ys, hl =>
    have h0 := hf 0 f rfl
    simp only [List.getElem?_cons_zero] at h0
    have hs' : ((y.1.weights P f.type).all (· ≤ reachBytes) = true) ∧ (DataW.weightsEach P (fs.map (·.type)) (ys.map (·.1))).all (· ≤ reachBytes) = true := by
      simpa [DataW.weightsEach, List.all_append, Bool.and_eq_true] using hs
    obtain ⟨a, ha⟩ := hR fuel _ y h0 hs'.1
    obtain ⟨b, hb⟩ := hT fuel cs ys (by simpa using hl) (fun i g hg => by simpa using hf (i + 1) g (by simpa using hg)) hs'.2
    exact ⟨(a, b), ha, by rw [List.drop_drop]; exact hb⟩
theorem opens_struct {α : Type} {t : TypeId} {fs : Array Field} {R : Rd α} (ht : P.underlying t = some (.struct fs)) (hR : OpensFs enc P w 0 fs.toList R) : Opens enc P w t R := by
  intro fuel cs x h hs
  obtain ⟨ys, n, rfl, rfl, hlen, hyl, hf⟩ := DataW.trod_struct ht h
  have := hR n cs ys (by simpa using hyl) (fun i f hi => hf i f (by simpa using hi)) (by simpa [DataW.weights, ht] using hs)
  simpa using this
/-- An argument's reading. -/
theorem opens_arg {α : Type} {t : TypeId} {R : Rd α} {v : Value} {d : DataW H} {p : List MemPlace} (hR : Opens enc P w t R) (h : DataW.Trod enc P w 0 (fun _ => true) true t v d p) (hs : (d.weights P t).all (· ≤ reachBytes) = true) : ∃ y, R w v.cells.toList y := by
  obtain ⟨fuel, hf⟩ := h
  exact hR fuel _ _ hf hs
theorem weights_each {ts : List TypeId} {ds : List (DataW H)} (h : (DataW.weightsEach P ts ds).all (· ≤ reachBytes) = true) {j : Nat} {t : TypeId} {d : DataW H} (ht : ts[j]? = some t) (hd : ds[j]? = some d) : (d.weights P t).all (· ≤ reachBytes) = true := by
  rw [List.all_eq_true] at h ⊢
  exact fun z hz => h z (DataW.weights_mem_each ht hd z hz)
end opens
end Go.Proofs.YtghpmpjoedbpcaaDoor
/-! ### L -/
namespace Go.Proofs.YtghpmpjoedbpcaaDoor
namespace L
open Go.RowKit
section
variable {P : Program} {ops : Array Oper} {Q : Exit → Act → World → Prop} {md : Region.Mode}
/-- Whatever order is picked from here on, each operation that is carried out leaves what was there. -/
def wpGrow (P : Program) (md : Region.Mode) (ops : Array Oper) (Q : Exit → Act → World → Prop) (S : List Nat) (z : Nat) : Nat → Array Bool → Act → World → Prop
  | 0, listed, a, w => Region.ready md ops listed = [] ∧ Q .normal a w
  | fuel + 1, listed, a, w =>
    (Region.ready md ops listed = [] → Q .normal a w) ∧
    ∀ i ∈ Region.ready md ops listed, wpOp P ops Q i (fun a' w' => (i = z ∨ Only S w w') ∧ wpGrow P md ops Q S z fuel (listed.setIfInBounds i true) a' w') a w
theorem wpAny_of_grow {S : List Nat} {z : Nat} : ∀ (fuel : Nat) (listed : Array Bool) (a : Act) (w : World), wpGrow P md ops Q S z fuel listed a w → wpAny P md ops Q fuel listed a w
  | 0, _, _, _, h => h
  | fuel + 1, _, _, _, h => ⟨h.1, fun i hi => wpOp_mono (fun a' w' h' => wpAny_of_grow fuel _ a' w' h'.2) (h.2 i hi)⟩
theorem yields_weaker {S T : World → Prop} {o : Oper} {v : Value} {a : Act} (h : YieldsIf P ops S o v a) (hT : ∀ w, T w → S w) : YieldsIf P ops T o v a :=
  h.imp (fun ⟨hw, hv⟩ => ⟨hw, fun w hw' => hv w (hT w hw')⟩) id
/-- What looks at no memory. -/
def plainOp : Op → Bool
  | .move _ | .assign _ | .extract _ _ => true
  | _ => false
theorem exec_move {ρ : Operand → Value} {o : Oper} {x : Operand} (ho : o.op = .move x) : execOp ρ o = pure (.value (ρ x)) := by unfold execOp; rw [ho]
theorem exec_assign {ρ : Operand → Value} {o : Oper} {x : Operand} (ho : o.op = .assign x) : execOp ρ o = pure (.value (ρ x)) := by unfold execOp; rw [ho]
theorem exec_extract {ρ : Operand → Value} {o : Oper} {x : Operand} {i : Nat} (ho : o.op = .extract x i) : execOp ρ o = (Instr.extract (ρ x) i >>= fun a => pure (.value a)) := by unfold execOp; rw [ho]
theorem plain_run {P : Program} {ρ : Operand → Value} {o : Oper} {v : Value} {w : World} (hp : plainOp o.op = true) (h : (execOp ρ o).run P w = .ok (.value v) w) (w' : World) : (execOp ρ o).run P w' = .ok (.value v) w' := by
  cases ho : o.op with
  | move x => rw [exec_move ho] at h ⊢; simp only [Sem.run_pure] at h ⊢; injection h with h1 h2; rw [h1]
  | assign x => rw [exec_assign ho] at h ⊢; simp only [Sem.run_pure] at h ⊢; injection h with h1 h2; rw [h1]
  | extract x i =>
    rw [exec_extract ho] at h ⊢
    generalize ρ x = u at *
    unfold Instr.extract at h ⊢
    cases u with
    | tuple vs =>
      simp only at h ⊢
      cases hv : vs[i]? with
      | none =>
        rw [hv] at h
        simp [stuck, Sem.run] at h
      | some y =>
        rw [hv] at h
        simp only [Sem.run_bind, Sem.run_pure, Result.andThen] at h ⊢
        injection h with h1 h2
        rw [h1]
    | _ => simp [stuck, Sem.run] at h
  | _ => rw [ho] at hp; cases hp
/-- z waits for all others, at most over one in between. -/
inductive Waits (md : Region.Mode) (ops : Array Oper) : Oper → Nat → Prop
  | one {o : Oper} (e : Edge) (he : e ∈ o.after) (hb : Region.binds md e = true) : Waits md ops o e.on
  | more {o om : Oper} {k : Nat} (e : Edge) (he : e ∈ o.after) (hb : Region.binds md e = true) (ho : ops[e.on]? = some om) (h : Waits md ops om k) : Waits md ops o k
def LastOp (md : Region.Mode) (ops : Array Oper) (z : Nat) : Prop := ∀ oz, ops[z]? = some oz → ∀ k, k < ops.size → k ≠ z → Waits md ops oz k ∨ ∃ ok, ops[k]? = some ok ∧ (Waits md ops ok z ∨ plainOp ok.op = true)
/-- What was carried out waited for what was carried out. -/
def Closed (md : Region.Mode) (ops : Array Oper) (listed : Array Bool) : Prop := ∀ j oj, ops[j]? = some oj → listed.getD j false = true → ∀ e ∈ oj.after, Region.binds md e = true → listed.getD e.on false = true
theorem Waits.listed {md : Region.Mode} {ops : Array Oper} {listed : Array Bool} (hcl : Closed md ops listed) {o : Oper} {k : Nat} (h : Waits md ops o k) : (∀ e ∈ o.after, Region.binds md e = true → listed.getD e.on false = true) → listed.getD k false = true := by
  induction h with
  | one e he hb => exact fun hall => hall e he hb
  | more e he hb ho h ih => exact fun hall => ih (hcl _ _ ho (hall e he hb))
theorem getD_set_mono {l : Array Bool} {j k : Nat} (h : l.getD k false = true) : (l.setIfInBounds j true).getD k false = true := by
  rw [Array.getD_eq_getD_getElem?] at h ⊢
  rw [Array.getElem?_setIfInBounds]
  split
  · split <;> simp_all
  · exact h
theorem Closed.add {listed : Array Bool} {j : Nat} (h : Closed md ops listed) (hj : j ∈ Region.ready md ops listed) : Closed md ops (listed.setIfInBounds j true) := by
  intro k ok hk hl e he hb
  by_cases hkj : j = k
  · subst hkj
    obtain ⟨_, o, ho, hall⟩ := mem_ready.1 hj
    obtain rfl := Option.some.inj (ho.symm.trans hk)
    exact getD_set_mono (hall e he hb)
  · refine getD_set_mono (h k ok hk ?_ e he hb)
    rw [Array.getD_eq_getD_getElem?, Array.getElem?_setIfInBounds, if_neg hkj] at hl
    rw [Array.getD_eq_getD_getElem?]
    exact hl
theorem wpGrow_first {S : List Nat} {z : Nat} {i : Nat} {oi : Oper} {v : Value} (hz : LastOp md ops z) (hiz : i ≠ z) (hi : ops[i]? = some oi) (hsel : ∀ (j : Nat) (o : Oper) cs b, ops[j]? = some o → o.op ≠ .select cs b)
    (hQ : ∀ c a w, Q (.panic c) (a.put oi.dst v) w → Q (.panic c) a w) :
    ∀ (fuel : Nat) (listed : Array Bool) (a : Act) (w : World), Closed md ops listed →
      (∀ j oj, ops[j]? = some oj → j ≠ i → listed.getD j true = false → (∀ e ∈ oj.after, Region.binds md e = true → e.on ≠ i) → oi.apart ops oj = true) →
      i ∈ Region.ready md ops listed → YieldsIf P ops (fun w' => Only S w w') oi v a →
      wpGrow P md ops Q S z fuel (listed.setIfInBounds i true) (a.put oi.dst v) w → wpGrow P md ops Q S z (fuel + 1) listed a w := by
  intro fuel
  induction fuel with
  | zero =>
    intro listed a w _ _ hr hy H
    refine ⟨fun h => (by rw [h] at hr; cases hr), fun j hj => ?_⟩
    by_cases hji : j = i
    · subst hji; exact hy.wpOp hi (Only.refl S w) ⟨.inr (Only.refl S w), H⟩
    · have h1 := ready_mono hj hji
      rw [H.1] at h1
      cases h1
  | succ fuel ih =>
    intro listed a w hcl hfree hr hy H
    refine ⟨fun h => (by rw [h] at hr; cases hr), fun j hj => ?_⟩
    by_cases hji : j = i
    · subst hji; exact hy.wpOp hi (Only.refl S w) ⟨.inr (Only.refl S w), H⟩
    · have h1 := H.2 j (ready_mono hj hji)
      obtain ⟨hjun, oj, hoj, hall⟩ := mem_ready.1 hj
      have hnot : ∀ e ∈ oj.after, Region.binds md e = true → e.on ≠ i := fun e he hb heq => by
        have h1 := hall e he hb
        have h0 := (mem_ready.1 hr).1
        rw [heq] at h1
        rcases Nat.lt_or_ge i listed.size with h' | h'
        · simp [h'] at h0 h1; rw [h0] at h1; cases h1
        · simp [Array.getElem?_eq_none h'] at h1
      have h2 := wpOp_putIf hoj (hfree j oj hoj hji hjun hnot) (fun cs b => hsel i oi cs b hi) (fun cs b => hsel j oj cs b hoj) hQ hy h1
      have hfree' : ∀ k ok, ops[k]? = some ok → k ≠ i → (listed.setIfInBounds j true).getD k true = false →
          (∀ e ∈ ok.after, Region.binds md e = true → e.on ≠ i) → oi.apart ops ok = true := fun k ok hk hki hun hno => by
        refine hfree k ok hk hki ?_ hno
        by_cases hjk : j = k
        · subst hjk; exact hjun
        · rw [getD_set_ne true hjk] at hun; exact hun
      have hjz : j ≠ z ∨ plainOp oi.op = true := by
        by_cases hjz : j = z
        · right
          subst hjz
          rcases hz oj hoj i (Array.getElem?_eq_some_iff.1 hi).1 hiz with hz1 | ⟨ok, hok, hz1 | hz1⟩
          · exfalso
            have h1 := hz1.listed hcl (fun e he hb => hall e he hb)
            have h0 := (mem_ready.1 hr).1
            rcases Nat.lt_or_ge i listed.size with h' | h'
            · simp [h'] at h0 h1; rw [h0] at h1; cases h1
            · simp [Array.getElem?_eq_none h'] at h1
          · exfalso
            obtain ⟨hiun, oi', hoi', hall'⟩ := mem_ready.1 hr
            obtain rfl := Option.some.inj (hok.symm.trans hoi')
            have h1 := hz1.listed hcl (fun e he hb => hall' e he hb)
            rcases Nat.lt_or_ge j listed.size with h' | h'
            · simp [h'] at hjun h1; rw [hjun] at h1; cases h1
            · simp [Array.getElem?_eq_none h'] at h1
          · obtain rfl := Option.some.inj (hok.symm.trans hi)
            exact hz1
        · exact .inl hjz
      have weak : ∀ a' w', YieldsIf P ops (fun w' => Only S w w') oi v a' → (j = z ∨ Only S w w') → YieldsIf P ops (fun w'' => Only S w' w'') oi v a' := by
        intro a' w' hy' hjo
        rcases hjz with hjz | hpl
        · exact yields_weaker hy' fun w'' h => (hjo.resolve_left hjz).trans h
        · rcases hy' with ⟨hw1, hw2⟩ | hw
          · exact .inl ⟨hw1, fun w'' _ => plain_run hpl (hw2 w (Only.refl S w)) w''⟩
          · exact .inr hw
      refine wpOp_mono (fun a' w' h3 => ⟨h3.2.1, ih (listed.setIfInBounds j true) a' w' (hcl.add hj) hfree' (ready_mono hr (Ne.symm hji)) (weak a' w' h3.1 h3.2.1) ?_⟩) h2
      rw [Array.setIfInBounds_comm _ _ hji]
      exact h3.2.2
/-- What matters of an operation for its place: what it waits for, which temporaries it looks at, which it fills. -/
abbrev Row := List Nat × List Nat × Option Nat
def rowOf (md : Region.Mode) (ops : Array Oper) (o : Oper) : Row := ((o.after.toList.filter (Region.binds md)).map (·.on), o.looksAt ops, o.dst)
def tabOf (md : Region.Mode) (ops : Array Oper) : List Row := ops.toList.map (rowOf md ops)
def apartT (x y : Row) : Bool :=
  (match x.2.2 with
   | some d => !y.2.1.contains d && y.2.2 != some d
   | none => true) &&
  (match y.2.2 with
   | some d => !x.2.1.contains d
   | none => true)
theorem apartT_spec {x y : Oper} (h : apartT (rowOf md ops x) (rowOf md ops y) = true) : x.apart ops y = true := h
def readyT (tab : List Row) (l : List Bool) (i : Nat) : Bool :=
  !l.getD i true && (match tab[i]? with
   | some r => r.1.all fun k => l.getD k false
   | none => false)
theorem readyT_spec (l : List Bool) (i : Nat) : readyT (tabOf md ops) l i = true ↔ i ∈ Region.ready md ops l.toArray := by
  rw [mem_ready]
  unfold readyT tabOf
  have e1 : l.toArray.getD i true = l.getD i true := by simp [List.getD_eq_getElem?_getD]
  have e2 : ∀ k, l.toArray.getD k false = l.getD k false := fun k => by simp [List.getD_eq_getElem?_getD]
  rw [e1, List.getElem?_map, Array.getElem?_toList]
  cases ho : ops[i]? with
  | none => simp
  | some o =>
    simp only [Option.map_some, Bool.and_eq_true, Bool.not_eq_true', List.all_eq_true, rowOf, List.mem_map, List.mem_filter]
    constructor
    · rintro ⟨h1, h2⟩
      exact ⟨h1, o, rfl, fun e he hb => by rw [e2]; exact h2 _ ⟨e, ⟨by simpa using he, hb⟩, rfl⟩⟩
    · rintro ⟨h1, o', ho', h2⟩
      cases ho'
      refine ⟨h1, ?_⟩
      rintro k ⟨e, ⟨he, hb⟩, rfl⟩
      have := h2 e (by simpa using he) hb
      rwa [e2] at this
def freeT (tab : List Row) (l : List Bool) (i : Nat) (x : Row) : List Row → Nat → Bool
  | [], _ => true
  | y :: r, j => (j == i || l.getD j true || y.1.contains i || apartT x y) && freeT tab l i x r (j + 1)
theorem freeT_spec (tab : List Row) (l : List Bool) (i : Nat) (x : Row) : ∀ (r : List Row) (j : Nat), freeT tab l i x r j = true → ∀ k y, r[k]? = some y → j + k = i ∨ l.getD (j + k) true = true ∨ y.1.contains i = true ∨ apartT x y = true
  | [], _, _, k, y, hk => by simp at hk
  | z :: r, j, h, k, y, hk => by
    simp only [freeT, Bool.and_eq_true, Bool.or_eq_true, beq_iff_eq] at h
    cases k with
    | zero =>
      simp at hk
      subst hk
      rcases h.1 with ((h1 | h1) | h1) | h1
      · exact .inl (by omega)
      · exact .inr (.inl (by simpa using h1))
      · exact .inr (.inr (.inl h1))
      · exact .inr (.inr (.inr h1))
    | succ k =>
      have := freeT_spec tab l i x r (j + 1) h.2 k y (by simpa using hk)
      rwa [show j + 1 + k = j + (k + 1) by omega] at this
def aloneT (tab : List Row) (l : List Bool) (i n : Nat) : Bool := (List.range n).all fun j => j == i || !readyT tab l j
/-- The numbers in the order in which they are taken; beside each: may it be taken first? does it come up alone? -/
def reachT (tab : List Row) (k : Nat) : Nat → List Nat → Bool
  | 0, l => l.contains k
  | d + 1, l => l.contains k || l.any fun m => match tab[m]? with | some q => reachT tab k d q.1 | none => false
def plains (ops : Array Oper) : List Bool := ops.toList.map fun o => plainOp o.op
def lastT (pl : List Bool) (tab : List Row) (n z : Nat) : Bool := match tab[z]? with
  | some r => (List.range n).all fun k => k == z || reachT tab k 1 r.1 || reachT tab k 4 r.1 || (match tab[k]? with | some q => reachT tab z 4 q.1 | none => false) || pl.getD k false
  | none => true
theorem tab_get {z : Nat} {oz : Oper} (hoz : ops[z]? = some oz) : (tabOf md ops)[z]? = some (rowOf md ops oz) := by unfold tabOf; rw [List.getElem?_map, Array.getElem?_toList, hoz]; rfl
theorem row_has {oz : Oper} {k : Nat} (h : k ∈ (rowOf md ops oz).1) : ∃ e ∈ oz.after, Region.binds md e = true ∧ e.on = k := by
  simp only [rowOf, List.mem_map, List.mem_filter] at h
  obtain ⟨e, ⟨he, hb⟩, heq⟩ := h
  exact ⟨e, by simpa using he, hb, heq⟩
theorem reachT_spec (k : Nat) : ∀ (d : Nat) (o : Oper), reachT (tabOf md ops) k d (rowOf md ops o).1 = true → Waits md ops o k
  | 0, o, h => by
    obtain ⟨e, he, hb, h3⟩ := row_has (List.contains_iff_mem.1 h)
    subst h3
    exact .one e he hb
  | d + 1, o, h => by
    simp only [reachT, Bool.or_eq_true, List.any_eq_true] at h
    rcases h with h | ⟨m, hm, h2⟩
    · obtain ⟨e, he, hb, h3⟩ := row_has (List.contains_iff_mem.1 h)
      subst h3
      exact .one e he hb
    · obtain ⟨e, he, hb, rfl⟩ := row_has hm
      cases ho : ops[e.on]? with
      | none =>
        have : (tabOf md ops)[e.on]? = none := by unfold tabOf; rw [List.getElem?_map, Array.getElem?_toList, ho]; rfl
        rw [this] at h2
        cases h2
      | some om =>
        rw [tab_get ho] at h2
        exact .more e he hb ho (reachT_spec k d om h2)
theorem lastT_spec {z : Nat} (h : lastT (plains ops) (tabOf md ops) ops.size z = true) : LastOp md ops z := by
  intro oz hoz k hk hkz
  unfold lastT at h
  rw [tab_get hoz] at h
  simp only [List.all_eq_true, List.mem_range, Bool.or_eq_true, beq_iff_eq] at h
  rcases h k hk with (((h1 | h1) | h1) | h1) | h1
  · exact absurd h1 hkz
  · exact .inl (reachT_spec k _ oz h1)
  · exact .inl (reachT_spec k _ oz h1)
  · obtain ⟨ok, hok⟩ : ∃ ok, ops[k]? = some ok := ⟨_, Array.getElem?_eq_getElem hk⟩
    rw [tab_get hok] at h1
    exact .inr ⟨ok, hok, .inl (reachT_spec z _ ok h1)⟩
  · obtain ⟨ok, hok⟩ : ∃ ok, ops[k]? = some ok := ⟨_, Array.getElem?_eq_getElem hk⟩
    refine .inr ⟨ok, hok, .inr ?_⟩
    unfold plains at h1
    rw [List.getD_eq_getElem?_getD, List.getElem?_map, Array.getElem?_toList, hok] at h1
    exact h1
def rowsT (tab : List Row) (n z : Nat) : List (Nat × Bool × Bool) → List Bool → Bool
  | [], l => (List.range n).all fun j => !readyT tab l j
  | (i, f, c) :: r, l =>
    readyT tab l i && (!f || (i != z && (match tab[i]? with | some x => freeT tab l i x tab 0 | none => false))) && (!c || aloneT tab l i n) && rowsT tab n z r (l.set i true)
/-- The walk through a region in one order. -/
def GrowL (P : Program) (ops : Array Oper) (Q : Exit → Act → World → Prop) (S : List Nat) (z : Nat) : List (Nat × Bool × Bool) → Act → World → Prop
  | [], a, w => Q .normal a w
  | (i, f, c) :: r, a, w => ∃ oi, ops[i]? = some oi ∧
      ((f = true ∧ ∃ v, YieldsIf P ops (fun w' => Only S w w') oi v a ∧ GrowL P ops Q S z r (a.put oi.dst v) w) ∨
       (c = true ∧ Region.wanted oi (yielded ops a.tmps) = true ∧ oi.wp P a w (fun a' w' => (i = z ∨ Only S w w') ∧ GrowL P ops Q S z r a' w') Q))
theorem ready_lt {l : Array Bool} {j : Nat} (h : j ∈ Region.ready md ops l) : j < ops.size := by
  obtain ⟨_, o, ho, _⟩ := mem_ready.1 h
  exact (Array.getElem?_eq_some_iff.1 ho).1
theorem grow_of_rows {S : List Nat} {z : Nat} (hz : LastOp md ops z) (hsel : Region.noSelect ops = true) (hQ : ∀ c (a : Act) d v w, Q (.panic c) (a.put d v) w → Q (.panic c) a w) :
    ∀ (T : List (Nat × Bool × Bool)) (l : List Bool), rowsT (tabOf md ops) ops.size z T l = true → Closed md ops l.toArray → ∀ a w, GrowL P ops Q S z T a w → wpGrow P md ops Q S z T.length l.toArray a w
  | [], l, hT, _, a, w, h => by
    refine ⟨?_, h⟩
    rw [List.eq_nil_iff_forall_not_mem]
    intro j hj
    simp only [rowsT, List.all_eq_true, List.mem_range, Bool.not_eq_true'] at hT
    have := hT j (ready_lt hj)
    rw [(readyT_spec l j).2 hj] at this
    cases this
  | (i, f, c) :: r, l, hT, hcl, a, w, h => by
    simp only [rowsT, Bool.and_eq_true, Bool.or_eq_true, Bool.not_eq_true'] at hT
    obtain ⟨⟨⟨hrd, hf⟩, hc⟩, hr⟩ := hT
    obtain ⟨oi, hi, h⟩ := h
    have hcl' : Closed md ops (l.set i true).toArray := by
      have := hcl.add ((readyT_spec l i).1 hrd)
      simpa using this
    have hset : l.toArray.setIfInBounds i true = (l.set i true).toArray := by simp
    rcases h with ⟨hft, v, hy, hg⟩ | ⟨hct, hw, hwp⟩
    · have hfr := hf.resolve_left (by rw [hft]; simp)
      have htab : (tabOf md ops)[i]? = some (rowOf md ops oi) := by unfold tabOf; rw [List.getElem?_map, Array.getElem?_toList, hi]; rfl
      rw [htab] at hfr
      simp only [bne_iff_ne, ne_eq] at hfr
      refine wpGrow_first hz hfr.1 hi (Region.noSelect_spec hsel) (fun c a w => hQ c a _ _ w) r.length _ a w hcl (fun j oj hj hne hun hno => ?_) ((readyT_spec l i).1 hrd) hy ?_
      · have htj : (tabOf md ops)[j]? = some (rowOf md ops oj) := by unfold tabOf; rw [List.getElem?_map, Array.getElem?_toList, hj]; rfl
        have hl : l.getD j true = false := by simpa [List.getD_eq_getElem?_getD] using hun
        rcases freeT_spec _ l i _ _ 0 hfr.2 j _ htj with h1 | h1 | h1 | h1
        · exact absurd (by omega) hne
        · rw [Nat.zero_add, hl] at h1; cases h1
        · exfalso
          simp only [rowOf, List.contains_iff_mem, List.mem_map, List.mem_filter] at h1
          obtain ⟨e, ⟨he, hb⟩, heq⟩ := h1
          exact hno e (by simpa using he) hb heq
        · exact apartT_spec h1
      · rw [hset]
        exact grow_of_rows hz hsel hQ r _ hr hcl' _ _ hg
    · have hal := hc.resolve_left (by rw [hct]; simp)
      refine ⟨fun h0 => ?_, fun j hj => ?_⟩
      · have := (readyT_spec l i).1 hrd
        rw [h0] at this
        cases this
      · have hji : j = i := by
          simp only [aloneT, List.all_eq_true, List.mem_range, Bool.or_eq_true, beq_iff_eq, Bool.not_eq_true'] at hal
          rcases hal j (ready_lt hj) with h1 | h1
          · exact h1
          · rw [(readyT_spec l j).2 hj] at h1; cases h1
        subst hji
        rw [hset]
        unfold wpOp
        simp only [hi, hw, if_true]
        exact .inl (Oper.wp_mono (fun a' w' h => ⟨h.1, grow_of_rows hz hsel hQ r _ hr hcl' _ _ h.2⟩) hwp)
/-- The beginning. -/
theorem grow_start (S : List Nat) (z : Nat) (T : List (Nat × Bool × Bool)) {id : Nat} {a : Act} {w : World} (hm : P.follows .mixedOrders = true)
    (tab : List Row) (htab : tabOf .any ops = tab) (hs : Region.noSelect ops = true) {n : Nat} (hn : ops.size = n) (hT : (lastT (plains ops) tab n z && rowsT tab n z T (List.replicate n false) && T.length == n) = true)
    (hQ : ∀ c (a : Act) t v w, Q (.panic c) (a.put (some t) v) w → Q (.panic c) a w)
    (h : ∀ w1, Only [] w w1 → GrowL P ops Q S z T a w1) : (Code.region id ops true).wp P Q a w := by
  subst htab
  subst hn
  simp only [Bool.and_eq_true, beq_iff_eq] at hT
  obtain ⟨⟨h2, h1⟩, h3⟩ := hT
  have ho : Only [] w { w with drawn := w.drawn + 1 } := ⟨rfl, rfl, rfl, Nat.le_refl _, fun _ _ _ => rfl⟩
  refine wp_region_any hm (wpAny_of_grow (S := S) (z := z) _ _ _ _ ?_)
  have := grow_of_rows (S := S) (z := z) (lastT_spec h2) hs (fun c a d v w h => by cases d with | none => exact h | some t => exact hQ c a t v w h) T _ h1 (fun j oj _ hl => by exfalso; rw [Array.getD_eq_getD_getElem?, List.getElem?_toArray, List.getElem?_replicate] at hl; split at hl <;> simp at hl) a _ (h _ ho)
  rw [h3, List.toArray_replicate] at this
  exact this
section
variable {S : List Nat} {z : Nat} {i : Nat} {f c : Bool} {oi : Oper} {r : List (Nat × Bool × Bool)} {a : Act} {w : World}
theorem growl_off (hi : ops[i]? = some oi) (hw : Region.wanted oi (yielded ops a.tmps) = false) (h : GrowL P ops Q S z r (a.put oi.dst undef) w) : GrowL P ops Q S z ((i, true, c) :: r) a w :=
  ⟨oi, hi, .inl ⟨rfl, _, .inr ⟨hw, rfl⟩, h⟩⟩
theorem growl_on {v : Value} (hi : ops[i]? = some oi) (hw : Region.wanted oi (yielded ops a.tmps) = true) (hy : ∀ w', Only S w w' → (execOp a.eval oi).run P w' = .ok (.value v) w')
    (h : GrowL P ops Q S z r (a.put oi.dst v) w) : GrowL P ops Q S z ((i, true, c) :: r) a w :=
  ⟨oi, hi, .inl ⟨rfl, _, .inl ⟨hw, hy⟩, h⟩⟩
theorem growl_alone (hi : ops[i]? = some oi) (hw : Region.wanted oi (yielded ops a.tmps) = true) (h : oi.wp P a w (fun a' w' => (i = z ∨ Only S w w') ∧ GrowL P ops Q S z r a' w') Q) : GrowL P ops Q S z ((i, f, true) :: r) a w :=
  ⟨oi, hi, .inr ⟨rfl, hw, h⟩⟩
end
def lk : List (Nat × Value) → Nat → Option Value
  | [], _ => none
  | (t, v) :: r, k => if k = t then some v else lk r k
def puts (a : Act) : List (Nat × Value) → Act
  | [] => a
  | (t, v) :: r => (puts a r).put (some t) v
def evE (a : Act) (env : List (Nat × Value)) : Operand → Value
  | .tmp t => match lk env t with
    | some v => v
    | none => a.eval (.tmp t)
  | x => a.eval x
theorem puts_size (a : Act) : ∀ env, (puts a env).tmps.size = a.tmps.size
  | [] => rfl
  | (t, v) :: r => by simp [puts, Act.put, puts_size a r]
theorem puts_get (a : Act) (k : Nat) : ∀ env : List (Nat × Value), (∀ p ∈ env, p.1 < a.tmps.size) → (puts a env).tmps[k]? = (lk env k).or a.tmps[k]?
  | [], _ => by simp [puts, lk]
  | (t, v) :: r, h => by
    have ht : t < a.tmps.size := h (t, v) (by simp)
    have ih := puts_get a k r (fun p hp => h p (by simp [hp]))
    show ((puts a r).tmps.setIfInBounds t v)[k]? = _
    rw [Array.getElem?_setIfInBounds]
    by_cases hk : t = k
    · subst hk
      rw [if_pos rfl, if_pos (by rw [puts_size]; exact ht)]
      simp [lk]
    · rw [if_neg hk, ih]
      simp [lk, Ne.symm hk]
theorem puts_eval (a : Act) (env : List (Nat × Value)) (h : ∀ p ∈ env, p.1 < a.tmps.size) : (puts a env).eval = evE a env := by
  funext x
  cases x with
  | tmp t =>
    show (puts a env).tmps.getD t undef = evE a env (.tmp t)
    rw [Array.getD_eq_getD_getElem?, puts_get a t env h]
    simp only [evE]
    cases hl : lk env t with
    | none => simp [Act.eval]
    | some v => simp
  | _ => rfl
/-- Is the operation carried out? -/
def wantE (ops : Array Oper) (env : List (Nat × Value)) (o : Oper) : Option Bool :=
  match o.guard with
  | none => some true
  | some (j, want) => match (ops[j]?).bind (·.dst) with
    | none => none
    | some d => match lk env d with
      | some (.bool b) => some (b == want)
      | some .nilIface => none
      | some (.tuple _) => some false
      | _ => none
theorem wantE_spec {env : List (Nat × Value)} {o : Oper} {b : Bool} (a : Act) (h : ∀ p ∈ env, p.1 < a.tmps.size) (hw : wantE ops env o = some b) : Region.wanted o (yielded ops (puts a env).tmps) = b := by
  unfold wantE at hw
  unfold Region.wanted
  cases hg : o.guard with
  | none => rw [hg] at hw; simpa using hw
  | some p =>
    obtain ⟨j, want⟩ := p
    rw [hg] at hw
    simp only at hw ⊢
    unfold yielded
    cases hd : (ops[j]?).bind (·.dst) with
    | none => rw [hd] at hw; cases hw
    | some d =>
      rw [hd] at hw
      simp only [Option.bind_some] at hw ⊢
      rw [puts_get a d env h]
      cases hl : lk env d with
      | none => rw [hl] at hw; simp at hw
      | some v =>
        rw [hl] at hw
        cases v <;> simp at hw ⊢ <;> simp [hw]
/-- The walk at a frame of which these temporaries were filled in the region. -/
def GrowE (P : Program) (ops : Array Oper) (Q : Exit → Act → World → Prop) (S : List Nat) (z : Nat) (T : List (Nat × Bool × Bool)) (a : Act) (N : Nat) (env : List (Nat × Value)) (w : World) : Prop :=
  a.tmps.size = N → (∀ p ∈ env, p.1 < N) → GrowL P ops Q S z T (puts a env) w
theorem growe_start {S : List Nat} {z : Nat} {T : List (Nat × Bool × Bool)} {a : Act} {w : World} {N : Nat} (hN : a.tmps.size = N) (h : GrowE P ops Q S z T a N [] w) : GrowL P ops Q S z T a w :=
  h hN (by simp)
theorem more_lt {d N : Nat} {v : Value} {env : List (Nat × Value)} (hd : d < N) (he : ∀ p ∈ env, p.1 < N) : ∀ p ∈ (d, v) :: env, p.1 < N := by
  intro p hp
  rcases List.mem_cons.1 hp with rfl | hp
  · exact hd
  · exact he p hp
section
variable {S : List Nat} {z : Nat} {i : Nat} {f c : Bool} {oi : Oper} {d : Nat} {T : List (Nat × Bool × Bool)} {a : Act} {w : World} {N : Nat} {env : List (Nat × Value)}
theorem ge_off (hi : ops[i]? = some oi) (hdst : oi.dst = some d) (hd : decide (d < N) = true) (hw : wantE ops env oi = some false) (h : GrowE P ops Q S z T a N ((d, undef) :: env) w) : GrowE P ops Q S z ((i, true, c) :: T) a N env w := by
  intro hN he
  subst hN
  refine growl_off hi (wantE_spec a he hw) ?_
  rw [hdst]
  exact h rfl (more_lt (of_decide_eq_true hd) he)
theorem ge_val {v : Value} (hi : ops[i]? = some oi) (hdst : oi.dst = some d) (hd : decide (d < N) = true) (hw : wantE ops env oi = some true) (hy : ∀ w', Only S w w' → (execOp (evE a env) oi).run P w' = .ok (.value v) w')
    (h : GrowE P ops Q S z T a N ((d, v) :: env) w) : GrowE P ops Q S z ((i, true, c) :: T) a N env w := by
  intro hN he
  subst hN
  refine growl_on hi (wantE_spec a he hw) (by rw [puts_eval a env he]; exact hy) ?_
  rw [hdst]
  exact h rfl (more_lt (of_decide_eq_true hd) he)
/-- What an operation copies. -/
def copies : Op → Option Operand
  | .move x | .assign x => some x
  | _ => none
theorem ge_move {v : Value} {x : Operand} (hi : ops[i]? = some oi) (hdst : oi.dst = some d) (hd : decide (d < N) = true) (hw : wantE ops env oi = some true) (hx : copies oi.op = some x) (hv : evE a env x = v)
    (h : GrowE P ops Q S z T a N ((d, v) :: env) w) : GrowE P ops Q S z ((i, true, c) :: T) a N env w := by
  refine ge_val hi hdst hd hw (fun w' _ => ?_) h
  subst hv
  unfold copies at hx
  unfold execOp
  split at hx
  · cases hx; rename_i heq; rw [heq]; rfl
  · cases hx; rename_i heq; rw [heq]; rfl
  · cases hx
theorem ge_pick {b : Bool} {v : Value} {x y y2 : Operand} (hi : ops[i]? = some oi) (hdst : oi.dst = some d) (hd : decide (d < N) = true) (hw : wantE ops env oi = some true) (hx : oi.op = .pick x y y2) (hb : evE a env x = .bool b)
    (hv : (if b = true then evE a env y else evE a env y2) = v) (h : GrowE P ops Q S z T a N ((d, v) :: env) w) : GrowE P ops Q S z ((i, true, c) :: T) a N env w := by
  refine ge_val hi hdst hd hw (fun w' _ => ?_) h
  subst hv
  unfold execOp
  rw [hx]
  simp only [hb, asBool]
  cases b <;> rfl
/-- A call of a Go function, that comes up alone. -/
theorem ge_call {g : FuncId} {xs : Array Operand} {tys : Array TypeId} {vs : Array Value} (hi : ops[i]? = some oi) (hdst : oi.dst = some d) (hd : decide (d < N) = true) (hw : wantE ops env oi = some true)
    (hx : oi.op = .call { callee := .value (.func g), args := xs, argTypes := tys }) (hvs : xs.map (evE a env) = vs) (hcf : (callFunc g vs).run P w = .ok (.enter g vs) w)
    (h : Calls P g vs w fun e w' => ∃ v, e = .returned v ∧ Only S w w' ∧ GrowE P ops Q S z T a N ((d, v) :: env) w') : GrowE P ops Q S z ((i, f, true) :: T) a N env w := by
  intro hN he
  subst hN
  refine growl_alone hi (wantE_spec a he hw) ?_
  unfold Oper.wp execOp
  rw [puts_eval a env he, hx]
  have hr : (do let d ← resolve (evE a env) { callee := .value (.func g), args := xs, argTypes := tys } oi.type; invoke d.target d.args).run P w = .ok (.enter g vs) w := by
    simp only [resolve, Sem.run_bind, hvs]
    have e1 : (evE a env (.func g)) = .func (.func g) #[] #[] := rfl
    rw [e1]
    simp only [Deferred.ofValue]
    simp [invoke, hcf]
  rw [hr]
  simp only [Oper.upon]
  refine Calls.mono h fun e w' ⟨v, he', ho, hg⟩ => ?_
  subst he'
  refine ⟨.inr ho, ?_⟩
  rw [hdst]
  exact hg rfl (more_lt (of_decide_eq_true hd) he)
/-- An operation that makes memory and comes up alone. -/
theorem ge_mem {v : Value} {w' : World} (hi : ops[i]? = some oi) (hdst : oi.dst = some d) (hd : decide (d < N) = true) (hw : wantE ops env oi = some true) (hy : (execOp (evE a env) oi).run P w = .ok (.value v) w')
    (ho : Only S w w') (h : GrowE P ops Q S z T a N ((d, v) :: env) w') : GrowE P ops Q S z ((i, f, true) :: T) a N env w := by
  intro hN he
  subst hN
  refine growl_alone hi (wantE_spec a he hw) ?_
  unfold Oper.wp
  rw [puts_eval a env he, hy]
  simp only [Oper.upon]
  refine ⟨.inr ho, ?_⟩
  rw [hdst]
  exact h rfl (more_lt (of_decide_eq_true hd) he)
/-- The operation that waits for all others. -/
theorem ge_last {w' : World} (hi : ops[z]? = some oi) (hdst : oi.dst = none) (hw : wantE ops env oi = some true) (hy : (execOp (evE a env) oi).run P w = .ok .skip w')
    (h : Q .normal (puts a env) w') : GrowE P ops Q S z ((z, f, true) :: []) a N env w := by
  intro hN he
  subst hN
  refine growl_alone hi (wantE_spec a he hw) ?_
  unfold Oper.wp
  rw [puts_eval a env he, hy]
  simp only [Oper.upon]
  refine ⟨.inl trivial, ?_⟩
  rw [hdst]
  exact h
theorem ge_done (h : Q .normal (puts a env) w) : GrowE P ops Q S z [] a N env w := fun _ _ => h
end
end
end L
/-- A slice of the call's own stays what it is. -/
theorem ownsRow_only {w w' : World} {base : Nat} {e : TypeId} {size : Nat} {v : Value} {n : Nat} {xs : List Value} {S : List Nat} (h : w.ownsRow base e size v n xs) (ho : Only S w w') (hS : ∀ k, v.ownBlock = some k → k ∉ S) : w'.ownsRow base e size v n xs := by
  refine ⟨h.1, ?_⟩
  rcases h.2 with hn | ⟨g, cap, cur, hv, hb, hg, rest⟩
  · exact .inl hn
  · exact .inr ⟨g, cap, cur, hv, hb, ho.heap hg (hS g (by rw [hv]; rfl)), rest⟩
end Go.Proofs.YtghpmpjoedbpcaaDoor
/-! ### A -/
namespace Go.Proofs.YtghpmpjoedbpcaaDoor
open Go.RowKit
section
variable {P : Program}
theorem run_append_row (w : World) (t ty : TypeId) (base : Nat) (e : TypeId) (size bytes : Nat) (z : Value) (ht : P.underlying t = some (.slice e)) (hinfo : (P.info? e).map (fun i => (i.zero, i.size, i.bytes)) = some (some z, size, bytes))
    (hzs : z.cells.size = size) (hsz : 0 < size) (v : Value) (n : Nat) (xs : List Value) (hown : w.ownsRow base e size v n xs)
    (A : Option Addr) (m c : Nat) (news : List Value) (hl : news.length = m * size) (hA : 0 < m → ∃ ad, A = some ad ∧ CellsAt w ad news) (h1 : ∀ u ∈ news, u.oneCell' = true)
    (h63 : n + m ≤ maxLen) (hbytes : (n + m) * bytes ≤ 140737488355328) (hbase : base ≤ w.heap.size) :
    ∃ A' c' w', (Builtin.append_ #[t, t] ty #[v, .slice A m c]).run P w = .ok (.slice A' (n + m) c') w' ∧ w'.ownsRow base e size (.slice A' (n + m) c') (n + m) (xs ++ news) ∧ Only v.ownBlock.toList w w' ∧
      (∀ k, (Value.slice A' (n + m) c').ownBlock = some k → v.ownBlock = some k ∨ w.heap.size ≤ k) := by
  obtain ⟨i, h2, h3, h4, h5⟩ := info_parts hinfo
  rcases Nat.eq_zero_or_pos m with hm | hm
  · subst hm
    obtain rfl : news = [] := List.eq_nil_of_length_eq_zero (by omega)
    rw [List.append_nil, Nat.add_zero]
    rcases hown.2 with ⟨rfl, rfl⟩ | ⟨g, cap, cur, rfl, hb, hg, hnc, _⟩
    · refine ⟨none, 0, w, ?_, hown, Only.refl _ _, fun k hk => .inl hk⟩
      cases A <;> simp [Builtin.append_, run_underlying ht, sizeOf, typeInfo, h2, Builtin.lenOf, Builtin.firstCells, loadCells, loadCellsFrom]
    · refine ⟨_, _, w, ?_, hown, Only.refl _ _, fun k hk => .inl hk⟩
      cases A <;> simp [Builtin.append_, run_underlying ht, sizeOf, typeInfo, h2, Builtin.lenOf, Builtin.firstCells, loadCells, loadCellsFrom, storeCells, hnc]
  · obtain ⟨ad, rfl, hc⟩ := hA hm
    obtain ⟨g, cap, w', hr, h6, h7, h8, h9⟩ := run_append_lies (P := P) w t ty base e i z size bytes ht h2 h3 h4 h5 hzs hsz v n xs hown ad m c news hl hc h1 hm h63 hbytes hbase _ rfl
    refine ⟨_, _, w', hr, h6, (Only.refl _ _).grown h7 (fun k hk => .inl (by rw [hk]; simp)), fun k hk => ?_⟩
    obtain rfl : g = k := by simpa [Value.ownBlock] using hk
    exact h8.imp id (fun h => by omega)
theorem wpList_append_row {ops : Array Oper} {rest : List Oper} {o : Oper} {a : Act} {w : World} {Q : Exit → Act → World → Prop} (hgd : o.guard = none) (s x : Operand) (t : TypeId)
    (ho : o.op = .call { callee := .builtin .append, args := #[s, x], argTypes := #[t, t] })
    (base : Nat) (e : TypeId) (size bytes : Nat) (z : Value) (ht : P.underlying t = some (.slice e)) (hinfo : (P.info? e).map (fun i => (i.zero, i.size, i.bytes)) = some (some z, size, bytes))
    (hzs : z.cells.size = size) (hsz : 0 < size) (v : Value) (n : Nat) (xs : List Value) (hs : a.eval s = v) (hown : w.ownsRow base e size v n xs)
    (A : Option Addr) (m c : Nat) (news : List Value) (hx : a.eval x = .slice A m c) (hl : news.length = m * size) (hA : 0 < m → ∃ ad, A = some ad ∧ CellsAt w ad news) (h1 : ∀ u ∈ news, u.oneCell' = true)
    (h63 : n + m ≤ maxLen) (hbytes : (n + m) * bytes ≤ 140737488355328) (hbase : base ≤ w.heap.size)
    (h : ∀ A' c' w', w'.ownsRow base e size (.slice A' (n + m) c') (n + m) (xs ++ news) → Only v.ownBlock.toList w w' → (∀ k, (Value.slice A' (n + m) c').ownBlock = some k → v.ownBlock = some k ∨ w.heap.size ≤ k) →
      wpList P ops Q rest (a.put o.dst (.slice A' (n + m) c')) w') : wpList P ops Q (o :: rest) a w := by
  refine wpList_plain hgd fun K hK => ?_
  obtain ⟨A', c', w', hr, h2, h3, h4⟩ := run_append_row (P := P) w t o.type base e size bytes z ht hinfo hzs hsz v n xs hown A m c news hl hA h1 h63 hbytes hbase
  unfold Oper.wp execOp
  simp only [ho, resolve, invoke, builtin, Sem.run_bind, Sem.run_pure, Result.andThen_ok, List.map_toArray, List.map_cons, List.map_nil, hs, hx, hr]
  exact hK _ _ (h A' c' w' h2 h3 h4)
/-- The same in a region that draws its order. -/
theorem ge_append_row {ops : Array Oper} {Q : Exit → Act → World → Prop} {S : List Nat} {z9 : Nat} {i : Nat} {f : Bool} {oi : Oper} {d : Nat} {T : List (Nat × Bool × Bool)} {a : Act} {w : World} {N : Nat} {env : List (Nat × Value)}
    (hi : ops[i]? = some oi) (hdst : oi.dst = some d) (hd : decide (d < N) = true) (hw : L.wantE ops env oi = some true) (s x : Operand) (t : TypeId)
    (ho : oi.op = .call { callee := .builtin .append, args := #[s, x], argTypes := #[t, t] })
    (base : Nat) (e : TypeId) (size bytes : Nat) (z : Value) (ht : P.underlying t = some (.slice e)) (hinfo : (P.info? e).map (fun i => (i.zero, i.size, i.bytes)) = some (some z, size, bytes))
    (hzs : z.cells.size = size) (hsz : 0 < size) (v : Value) (n : Nat) (xs : List Value) (hs : L.evE a env s = v) (hown : w.ownsRow base e size v n xs)
    (A : Option Addr) (m c : Nat) (news : List Value) (hx : L.evE a env x = .slice A m c) (hl : news.length = m * size) (hA : 0 < m → ∃ ad, A = some ad ∧ CellsAt w ad news) (h1 : ∀ u ∈ news, u.oneCell' = true)
    (h63 : n + m ≤ maxLen) (hbytes : (n + m) * bytes ≤ 140737488355328) (hbase : base ≤ w.heap.size)
    (h : ∀ A' c' w', w'.ownsRow base e size (.slice A' (n + m) c') (n + m) (xs ++ news) → Only v.ownBlock.toList w w' → (∀ k, (Value.slice A' (n + m) c').ownBlock = some k → v.ownBlock = some k ∨ w.heap.size ≤ k) →
      Only S w w' ∧ L.GrowE P ops Q S z9 T a N ((d, .slice A' (n + m) c') :: env) w') : L.GrowE P ops Q S z9 ((i, f, true) :: T) a N env w := by
  obtain ⟨A', c', w', hr, h2, h3, h4⟩ := run_append_row (P := P) w t oi.type base e size bytes z ht hinfo hzs hsz v n xs hown A m c news hl hA h1 h63 hbytes hbase
  obtain ⟨h5, h6⟩ := h A' c' w' h2 h3 h4
  refine L.ge_mem hi hdst hd hw (w' := w') ?_ h5 h6
  unfold execOp
  simp only [ho, resolve, invoke, builtin, Sem.run_bind, Sem.run_pure, Result.andThen_ok, List.map_toArray, List.map_cons, List.map_nil, hs, hx, hr]
end
end Go.Proofs.YtghpmpjoedbpcaaDoor
/-! ### Own -/
namespace Go.Proofs.YtghpmpjoedbpcaaDoor
open Go.RowKit
set_option linter.unusedSimpArgs false
set_option linter.unusedVariables false
theorem ownsRow_lt {w : World} {base : Nat} {e : TypeId} {size : Nat} {v : Value} {n : Nat} {xs : List Value} (h : w.ownsRow base e size v n xs) {k : Nat} (hk : v.ownBlock = some k) : base ≤ k ∧ k < w.heap.size := by
  rcases h.2 with ⟨rfl, _⟩ | ⟨g, cap, cur, rfl, hb, hg, _⟩
  · cases hk
  · obtain rfl : g = k := by simpa [Value.ownBlock] using hk
    exact ⟨hb, heap_lt hg⟩
theorem ownsRow_slice {w : World} {base : Nat} {e : TypeId} {size : Nat} {v : Value} {n : Nat} {xs : List Value} (h : w.ownsRow base e size v n xs) : ∃ A c, v = .slice A n c ∧ n ≤ c ∧ (0 < n → ∃ ad, A = some ad ∧ CellsAt w ad xs) := by
  rcases h.2 with ⟨rfl, rfl⟩ | ⟨g, cap, cur, rfl, hb, hg, hn, hm, hcs, ht⟩
  · exact ⟨none, 0, rfl, Nat.le_refl _, fun h => by omega⟩
  · refine ⟨_, cap, rfl, hn, fun _ => ⟨_, rfl, ?_⟩⟩
    intro j v hj
    have := cellsAt_row (cs := cur.toList) (by simpa using hg)
    refine this j v ?_
    rw [← ht, List.getElem?_take] at hj
    split at hj
    · exact hj
    · cases hj
theorem ownsRow_mono {w : World} {base base' : Nat} {e : TypeId} {size : Nat} {v : Value} {n : Nat} {xs : List Value} (h : w.ownsRow base e size v n xs) (hb : base' ≤ base) : w.ownsRow base' e size v n xs := by
  refine ⟨h.1, h.2.imp id ?_⟩
  rintro ⟨g, cap, cur, hv, h1, rest⟩
  exact ⟨g, cap, cur, hv, by omega, rest⟩
theorem ownsRow_nil (w : World) (base : Nat) (e : TypeId) (size : Nat) : w.ownsRow base e size (.slice none 0 0) 0 [] := ⟨by simp, .inl ⟨rfl, rfl⟩⟩
section
variable {P : Program}
theorem bounds_l (w : World) (n c : Nat) (k : IntKind) (li : Int) (l : Nat) (e : li = l) (hl : l ≤ n) : (Instr.sliceBounds true n c (some (.int k li)) none none).run P w = .ok (l, n, c) w := by
  subst e
  simp [Instr.sliceBounds, run_sliceBound, hl]
theorem bounds_h (w : World) (n c : Nat) (k : IntKind) (hi : Int) (h : Nat) (e : hi = h) (hl : h ≤ c) : (Instr.sliceBounds true n c none (some (.int k hi)) none).run P w = .ok (0, h, c) w := by
  subst e
  simp [Instr.sliceBounds, run_sliceBound, hl]
theorem bounds_lh (w : World) (n c : Nat) (k k' : IntKind) (li hi : Int) (l h : Nat) (e : li = l) (e' : hi = h) (hl : l ≤ h) (hh : h ≤ c) : (Instr.sliceBounds true n c (some (.int k li)) (some (.int k' hi)) none).run P w = .ok (l, h, c) w := by
  subst e e'
  simp [Instr.sliceBounds, run_sliceBound, hl, hh]
theorem bounds_lhm (w : World) (n c : Nat) (k k' k9 : IntKind) (li hi mi : Int) (l h m : Nat) (e : li = l) (e' : hi = h) (e9 : mi = m) (hl : l ≤ h) (hh : h ≤ m) (hm : m ≤ c) : (Instr.sliceBounds true n c (some (.int k li)) (some (.int k' hi)) (some (.int k9 mi))).run P w = .ok (l, h, m) w := by
  subst e e' e9
  simp [Instr.sliceBounds, run_sliceBound, hl, hh, hm]
section region
variable {ops : Array Oper} {Q : Exit → Act → World → Prop} {S : List Nat} {z9 : Nat} {i : Nat} {f : Bool} {oi : Oper} {d : Nat} {T : List (Nat × Bool × Bool)} {a : Act} {w : World} {N : Nat} {env : List (Nat × Value)}
/-- []T{x} -/
theorem ge_one (hi : ops[i]? = some oi) (hdst : oi.dst = some d) (hd : decide (d < N) = true) (hw : L.wantE ops env oi = some true) (t : TypeId) (x : Operand) (hop : oi.op = .buildSlice t 1 #[(0, x)]) (e : TypeId) (ht : P.underlying t = some (.slice e))
    (z : Value) (size bytes : Nat) (hinfo : (P.info? e).map (fun i => (i.zero, i.size, i.bytes)) = some (some z, size, bytes)) (hs0 : 0 < size) (hs1 : size ≤ 1000) (cells : Array Value)
    (hfill : Instr.fill (fun i => some (i * size, size)) ((Array.range (1 * size)).map (z.cells[· % z.cells.size]!)) [(0, L.evE a env x)] = some cells)
    (h : L.GrowE P ops Q S z9 T a N ((d, .slice (some ⟨w.heap.size, 0, none⟩) 1 1) :: env) (w.alloc (.cells cells e))) : L.GrowE P ops Q S z9 ((i, f, true) :: T) a N env w := by
  obtain ⟨ie, h2, h3, h4, h5⟩ := info_parts hinfo
  subst h4
  refine L.ge_mem hi hdst hd hw (w' := w.alloc (.cells cells e)) ?_ ((Only.refl _ _).alloc _) h
  have := run_buildSlice (P := P) w t e 1 #[(0, L.evE a env x)] cells ie z ht h2 h3 (by omega) (by omega) hfill
  unfold execOp
  simp [hop, this]
end region
end
end Go.Proofs.YtghpmpjoedbpcaaDoor
/-! ### Kd -/
namespace Go.Proofs.YtghpmpjoedbpcaaDoor
open Go.RowKit Go.Proofs.YtghpmpjoedbpcaaDoorW.PrintWords
theorem Kd.C_cells {α : Type} {d : Kd α} {w : World} {A : Option Addr} {n : Nat} {xs : List α} (h : Kd.C d w A n xs) (k : Nat) (hk : k < xs.length) :
    ∃ ad cs, A = some ad ∧ cs.length = d.sz ∧ d.K w xs[k] cs ∧ CellsAt w (ad.add (k * d.sz)) cs := by
  have hn := h.1
  obtain ⟨ad, he, hc⟩ := h.2.2 (by omega)
  obtain ⟨c, h1, h2, h3⟩ := hc k _ (List.getElem?_eq_getElem hk)
  refine ⟨ad, c, he, h1, h2, fun j v hj => ?_⟩
  rw [Go.Deep.add_add]
  exact h3 j v hj
theorem getD_at {α : Type} (xs : List α) (z : α) (k : Nat) (hk : k < xs.length) : xs.getD ((k : Int)).toNat z = xs[k] := by
  rw [Int.toNat_natCast, List.getD_eq_getElem?_getD, List.getElem?_eq_getElem hk]
  rfl
/-- A row that is read has its cells one behind the other. -/
theorem Kd.C_flat {α : Type} {d : Kd α} {w : World} {A : Option Addr} {xs : List α} (h : Kd.C d w A xs.length xs) :
    ∃ news, Reps (d.K w) d.sz xs news ∧ (0 < xs.length → ∃ ad, A = some ad ∧ CellsAt w ad news) ∧ ∀ u ∈ news, u.oneCell' = true := by
  by_cases h0 : 0 < xs.length
  · obtain ⟨ad, he, _⟩ := h.2.2 h0
    subst he
    obtain ⟨inner, hr, hc⟩ := ReadsRow.inner_ h
    refine ⟨inner, hr, fun _ => ⟨ad, rfl, hc⟩, fun u hu => ?_⟩
    obtain ⟨i, hi, rfl⟩ := List.getElem_of_mem hu
    have hl := hr.1
    have hsz : 0 < d.sz := by
      rcases Nat.eq_zero_or_pos d.sz with e | e
      · rw [e, Nat.mul_zero] at hl; omega
      · exact e
    have hi2 : i / d.sz < xs.length := by rw [Nat.div_lt_iff_lt_mul hsz]; omega
    have hK := hr.2 (i / d.sz) _ (List.getElem?_eq_getElem hi2)
    refine d.K_one hK _ ?_
    refine List.mem_of_getElem? (i := i % d.sz) ?_
    rw [List.getElem?_take, if_pos (Nat.mod_lt _ hsz), List.getElem?_drop, Nat.mul_comm, Nat.div_add_mod, List.getElem?_eq_getElem hi]
  · obtain rfl : xs = [] := List.eq_nil_of_length_eq_zero (by omega)
    exact ⟨[], Reps.none _ _, fun h => absurd h (by simp), fun u hu => by simp at hu⟩
end Go.Proofs.YtghpmpjoedbpcaaDoor
/-! ### EQuote -/
namespace Go.Proofs.YtghpmpjoedbpcaaDoor.Print
open Go.RowKit Go.Proofs.YtghpmpjoedbpcaaDoorW.PrintWords Go.Proofs.YtghpmpjoedbpcaaDoorW.PrintLast Go.Proofs.YtghpmpjoedbpcaaDoorW.PrintMore
set_option linter.unusedSimpArgs false
set_option linter.unusedVariables false
theorem decode_le (s : ByteArray) (p : Nat) : (Utf8.decode s p).1 ≤ 2147483647 := by
  simp only [Utf8.decode, Utf8.runeError]
  repeat' split
  all_goals simp only
  all_goals (try omega)
  all_goals (have h1 := (s.get! (p + 1)).toNat_lt; have h0 := (s.get! (p + 0)).toNat_lt; omega)
theorem iterAt_heap (w : World) (k : Nat) (s : ByteArray) (q : Nat) (o : Obj) (h : w.heap[k]? = some o) : (w.iterAt k s q).heap[k]? = some (.stringIter s q) := by
  have := (Array.getElem?_eq_some_iff.1 h).1
  show (w.heap.setIfInBounds k _)[k]? = _
  simp [this]
theorem iterAt_below {a w : World} (k : Nat) (s : ByteArray) (q : Nat) (hb : Below a.heap.size a w) (hk : a.heap.size ≤ k) : Below a.heap.size a (w.iterAt k s q) := by
  refine ⟨hb.os, hb.tape, hb.output, ?_, fun i hi => ?_⟩
  · show a.heap.size ≤ (w.heap.setIfInBounds k _).size
    simp
    exact hb.size
  · show (w.heap.setIfInBounds k _)[i]? = _
    rw [Array.getElem?_setIfInBounds_ne (by omega)]
    exact hb.block i hi
/-- Is there a rune below a blank, or a quote? -/
def oddFrom (s : ByteArray) : Nat → Nat → Bool
  | 0, _ => false
  | f + 1, p => if p < s.size then decide ((Utf8.decode s p).1 < 32) || decide ((Utf8.decode s p).1 = 34) || oddFrom s f (p + (Utf8.decode s p).2) else false
theorem oddFrom_end (s : ByteArray) (f p : Nat) (h : ¬ p < s.size) : oddFrom s f p = false := by
  cases f with
  | zero => rfl
  | succ f => unfold oddFrom; rw [if_neg h]
def quoteZ (s : ByteArray) : ByteArray × Bool :=
  if Lib.validD s.data.toList = false then (⟨#[]⟩, false) else if 20 < Lib.runeCount s then (⟨#[]⟩, false) else if oddFrom s s.size 0 = true then (⟨#[]⟩, false)
  else ((⟨#[34]⟩ : ByteArray) ++ s ++ (⟨#[34]⟩ : ByteArray), true)
set_option maxHeartbeats 2000000 in
set_option maxRecDepth 100000 in
theorem quote_any (a0 : ByteArray) (w : World) (hs : a0.size ≤ 1000000000) (hT : Tabs w) :
    Calls Tryd.prog 50 #[.string a0] w fun e w' => e = .returned (.tuple #[.string (quoteZ a0).1, .bool (quoteZ a0).2]) ∧ Below w.heap.size w w' := by
  obtain ⟨V, hV⟩ : ∃ V, V = quoteZ a0 := ⟨_, rfl⟩
  rw [← hV]
  unfold quoteZ at hV
  have HV := Lib.hid hV
  have hc1 := Lib.hid (utf8_ValidString.calls a0 _ w hT (if_pos (by omega)))
  have hc2 := Lib.hid (fun W => utf8_RuneCountInString.calls a0 _ W (if_pos (by omega)))
  clear hV hT
  generalize Lib.validD a0.data.toList = bv at *
  generalize Lib.runeCount a0 = rc at *
  go_enter Tryd.func50, Tryd.ntmps50
  cases bv with
  | false =>
    have hv := HV.out
    rw [if_pos rfl] at hv
    have HV2 := Lib.hid hv
    clear hv HV
    go_wp2_with (go_at_call 58; refine hc1.out.mono ?_; rintro e w1 ⟨rfl, hb⟩; have HB := Lib.hid hb; clear hb)
    go_ret2
    exact ⟨by rw [HV2.out]; rfl, HB.out⟩
  | true =>
    have hv := HV.out
    rw [if_neg (by simp)] at hv
    have HV2 := Lib.hid hv
    clear hv HV
    by_cases hr : 20 < rc
    · have hr' : (20 : Int) < rc := by omega
      have hv := HV2.out
      rw [if_pos hr] at hv
      have HV3 := Lib.hid hv
      clear hv HV2
      go_wp2_with (first
        | (go_at_call 58; refine hc1.out.mono ?_; rintro e w1 ⟨rfl, hb⟩; have HB := Lib.hid hb; clear hb)
        | (go_at_call 59; refine (hc2.out _).mono ?_; rintro e w2 ⟨rfl, hb⟩; have HB2 := Lib.hid (below_then HB.out HB.out.size hb); clear hb))
      go_ret2
      exact ⟨by rw [HV3.out]; rfl, HB2.out⟩
    · have hr' : (rc : Int) ≤ 20 := by omega
      have hv := HV2.out
      rw [if_neg hr] at hv
      have HV3 := Lib.hid hv
      clear hv HV2
      go_wp2_with (first
        | (go_at_call 58; refine hc1.out.mono ?_; rintro e w1 ⟨rfl, hb⟩; have HB := Lib.hid hb; clear hb)
        | (go_at_call 59; refine (hc2.out _).mono ?_; rintro e w2 ⟨rfl, hb⟩; have HB2 := Lib.hid (below_then HB.out HB.out.size hb); clear hb))
      obtain ⟨g, hg⟩ : ∃ g, g = w2.heap.size := ⟨_, rfl⟩
      have HI := Lib.hid (show (w2.iter a0 0).heap[g]? = some (.stringIter a0 0) by rw [hg]; exact World.iter_heap w2 a0 0)
      have HB3 := Lib.hid (show Below w.heap.size w (w2.iter a0 0) from HB2.out.alloc HB2.out.size _)
      rw [← hg]
      have HG := Lib.hid (show w.heap.size ≤ g by have := HB2.out.size; omega)
      clear hg HB HB2
      have HL := Lib.hid (rfl : oddFrom a0 a0.size 0 = oddFrom a0 a0.size 0)
      generalize w2.iter a0 0 = w3 at *
      go_loopw [5] (fun r wr => ∃ (pos b : Nat), Hid (wr.heap[g]? = some (.stringIter a0 pos)) ∧ Hid (Below w.heap.size w wr) ∧ Hid (oddFrom a0 a0.size 0 = oddFrom a0 b pos) ∧ a0.size ≤ pos + b) (fun _ wr => a0.size - wr.iterPos g)
      case atStart => exact ⟨0, a0.size, HI, HB3, HL, by omega⟩
      case round =>
        obtain ⟨pos, b, hi, hb, hw, hle⟩ := hrel
        clear HI HB3 HL
        by_cases hp : pos < a0.size
        · have hnx : ∀ ty, (Instr.next (.pointer (some ⟨g, 0, none⟩)) true ty).run Tryd.prog wr = _ := fun ty => Lib.run_next_any_at wr g a0 pos ty hi.out hp
          have hwd := Lib.decode_width_pos a0 pos hp
          have hdl := decode_le a0 pos
          obtain ⟨b', rfl⟩ : ∃ b', b = b' + 1 := ⟨b - 1, by omega⟩
          have hw' := hw.out
          rw [show oddFrom a0 (b' + 1) pos = (decide ((Utf8.decode a0 pos).1 < 32) || decide ((Utf8.decode a0 pos).1 = 34) || oddFrom a0 b' (pos + (Utf8.decode a0 pos).2)) by rw [oddFrom, if_pos hp]] at hw'
          have HW := Lib.hid hw'
          have HI2 := Lib.hid (iterAt_heap wr g a0 (pos + (Utf8.decode a0 pos).2) _ hi.out)
          have HB2 := Lib.hid (iterAt_below g a0 (pos + (Utf8.decode a0 pos).2) hb.out HG.out)
          have HP := Lib.hid (show wr.iterPos g = pos by unfold World.iterPos; rw [hi.out])
          clear hw hw' hi hb
          generalize wr.iterAt g a0 (pos + (Utf8.decode a0 pos).2) = w2 at *
          generalize (Utf8.decode a0 pos).2 = d2 at *
          generalize (Utf8.decode a0 pos).1 = d1 at *
          by_cases hd : d1 < 32
          · have hd' : (d1 : Int) < 32 := by omega
            go_wp2
            go_ret2
            refine ⟨?_, HB2.out⟩
            rw [HV3.out, HW.out, if_pos (by simp [hd])]
            rfl
          · have hd' : (32 : Int) ≤ d1 := by omega
            by_cases hq : d1 = 34
            · subst hq
              go_wp2
              go_ret2
              refine ⟨?_, HB2.out⟩
              rw [HV3.out, HW.out, if_pos (by simp)]
              rfl
            · have hq' : ((d1 : Int) == 34) = false := by rw [beq_eq_false_iff_ne]; omega
              go_wp2
              go_roundw
              case rel => exact ⟨pos + d2, b', HI2, HB2, Lib.hid (by rw [HW.out]; simp [hd, hq]), by omega⟩
              case measure =>
                have e1 : w2.iterPos g = pos + d2 := by unfold World.iterPos; rw [HI2.out]
                rw [e1, HP.out]; omega
        · have hnx : ∀ ty, (Instr.next (.pointer (some ⟨g, 0, none⟩)) true ty).run Tryd.prog wr = _ := fun ty => Lib.run_next_end_at wr g a0 pos ty hi.out hp
          have hwe := hw.out
          rw [oddFrom_end a0 b pos hp] at hwe
          have hv := HV3.out
          rw [hwe, if_neg (by simp)] at hv
          have HV4 := Lib.hid hv
          clear hw hwe hv HV3
          go_wp2
          go_ret2
          exact ⟨by rw [HV4.out]; rfl, hb.out⟩
end Go.Proofs.YtghpmpjoedbpcaaDoor.Print
/-! ### RowN -/
namespace Go.Proofs.YtghpmpjoedbpcaaDoor
open Go.RowKit
set_option linter.unusedSimpArgs false
set_option linter.unusedVariables false
def cutN (A : Option Addr) (l m sz : Nat) : Option Addr := if m = l then A else A.map (·.add (l * sz))
theorem cutN_at (g off l m sz : Nat) (h : l < m) : cutN (some ⟨g, off, none⟩) l m sz = some ⟨g, off + l * sz, none⟩ := by
  unfold cutN
  rw [if_neg (by omega)]
  simp [Addr.add]
theorem cutN_zero (g m sz : Nat) : cutN (some ⟨g, 0, none⟩) 0 m sz = some ⟨g, 0, none⟩ := by
  unfold cutN
  split
  · rfl
  · simp [Addr.add]
section
variable {P : Program}
theorem run_cutN (w : World) (t e : TypeId) (sz : Nat) (ht : P.underlying t = some (.slice e)) (hsz : (P.info? e).map (·.size) = some sz) (A : Option Addr) (n c : Nat) (lo hi mx : Option Value) (l h m : Nat)
    (hb : (Instr.sliceBounds true n c lo hi mx).run P w = .ok (l, h, m) w) : (Instr.sliceAt t (.slice A n c) lo hi mx).run P w = .ok (.slice (cutN A l m sz) (h - l) (m - l)) w := by
  obtain ⟨i, hi, hi1⟩ := Option.map_eq_some_iff.1 hsz
  simp [Instr.sliceAt, run_underlying ht, Instr.slice, Sem.run_bind, hb, Result.andThen, sizeOf, typeInfo, hi, hi1, Sem.run_pure, cutN]
/-- append where there is room: in place; the world behind it by a name. -/
theorem run_append_in (w : World) (t ty e : TypeId) (size : Nat) (ht : P.underlying t = some (.slice e)) (hsz : (P.info? e).map (·.size) = some size) (g sLen sCap : Nat) (cur : List Value) (hg : w.heap[g]? = some (.cells cur.toArray e (0, 0)))
    (A : Option Addr) (m c : Nat) (news : List Value) (hl : news.length = m * size) (hA : 0 < m → ∃ ad, A = some ad ∧ CellsAt w ad news) (h1 : ∀ u ∈ news, u.oneCell' = true) (hroom : sLen + m ≤ sCap) (hfit : sLen * size + news.length ≤ cur.length) :
    ∃ w', (Builtin.append_ #[t, t] ty #[.slice (some ⟨g, 0, none⟩) sLen sCap, .slice A m c]).run P w = .ok (.slice (some ⟨g, 0, none⟩) (sLen + m) sCap) w' ∧ w'.heap[g]? = some (.cells (splice cur (sLen * size) news).toArray e (0, 0)) ∧ Only [g] w w' := by
  obtain ⟨i, hi, hi1⟩ := Option.map_eq_some_iff.1 hsz
  subst hi1
  rcases Nat.eq_zero_or_pos m with hm | hm
  · subst hm
    obtain rfl : news = [] := List.eq_nil_of_length_eq_zero (by omega)
    refine ⟨w, ?_, by rw [hg]; simp [splice], Only.refl _ _⟩
    have hr : sLen ≤ sCap := by omega
    cases A <;> simp [Builtin.append_, run_underlying ht, sizeOf, typeInfo, hi, Builtin.lenOf, Builtin.firstCells, loadCells, loadCellsFrom, storeCells, hr]
  · obtain ⟨ad, rfl, hc⟩ := hA hm
    refine ⟨_, run_append_room w t ty e i ht hi g sLen sCap cur.toArray hg ad m c news hl hc h1 hroom (by simpa using hfit), ?_, (Only.refl _ _).setRow (by simp) _⟩
    rw [setRow_heap w g _ _ e _ hg]
    simp [splice]
theorem zeroCells_length (z : Array Value) (n : Nat) : (Builtin.zeroCells z n).toList.length = n * z.size := by simp [Builtin.zeroCells]
theorem zeroCells_one (z : Array Value) (n : Nat) (h : ∀ u ∈ z.toList, u.oneCell' = true) (hd : (default : Value).oneCell' = true) : ∀ u ∈ (Builtin.zeroCells z n).toList, u.oneCell' = true := by
  intro u hu
  simp [Builtin.zeroCells] at hu
  obtain ⟨j, hj, rfl⟩ := hu
  rcases Nat.eq_zero_or_pos z.size with h0 | h0
  · rw [h0] at hj; omega
  · have : j % z.size < z.size := Nat.mod_lt _ h0
    rw [getElem!_pos z _ this]
    exact h _ (by simp)
/-- clear(s): the cells that it shows are others, of a kind that may lie in a row. -/
theorem run_clear_in (w : World) (t ty e : TypeId) (size : Nat) (z : Value) (ht : P.underlying t = some (.slice e)) (hinfo : (P.info? e).map (fun i => (i.zero, i.size)) = some (some z, size)) (hzs : z.cells.size = size) (hz1 : ∀ u ∈ z.cells.toList, u.oneCell' = true)
    (g off n c : Nat) (A : Option Addr) (hA : 0 < n → A = some ⟨g, off, none⟩) (cur : List Value) (hg : w.heap[g]? = some (.cells cur.toArray e (0, 0))) (hfit : off + n * size ≤ cur.length) :
    ∃ w' zs, (Builtin.clear_ #[t] ty #[.slice A n c]).run P w = .ok (.tuple #[]) w' ∧ zs.length = n * size ∧ w'.heap[g]? = some (.cells (splice cur off zs).toArray e (0, 0)) ∧ Only [g] w w' := by
  obtain ⟨i, hi, hi1⟩ := Option.map_eq_some_iff.1 hinfo
  injection hi1 with hiz his
  rcases Nat.eq_zero_or_pos n with hn | hn
  · subst hn
    refine ⟨w, [], ?_, by simp, by rw [hg]; simp [splice], Only.refl _ _⟩
    cases A <;> simp [Builtin.clear_, run_underlying ht]
  · obtain rfl := hA hn
    have hlen := zeroCells_length z.cells n
    have h1 := zeroCells_one z.cells n hz1 rfl
    have hst := run_storeCells_at P g off e (Builtin.zeroCells z.cells n).toList 0 cur.toArray w hg (by rw [hlen, hzs]; simpa using hfit) h1
    obtain ⟨k, rfl⟩ : ∃ k, n = k + 1 := ⟨n - 1, by omega⟩
    have e1 : (List.take (off + 0) cur.toArray.toList ++ (Builtin.zeroCells z.cells (k + 1)).toList ++ List.drop (off + 0 + (Builtin.zeroCells z.cells (k + 1)).toList.length) cur.toArray.toList).toArray = (splice cur off (Builtin.zeroCells z.cells (k + 1)).toList).toArray := by simp [splice]
    rw [e1] at hst
    refine ⟨w.setRow g (splice cur off (Builtin.zeroCells z.cells (k + 1)).toList).toArray, (Builtin.zeroCells z.cells (k + 1)).toList, ?_, by rw [hlen, hzs], setRow_heap w g _ _ e _ hg, (Only.refl _ _).setRow (by simp) _⟩
    simp [Builtin.clear_, run_underlying ht, zeroValue, typeInfo, hi, hiz, hst]
/-- copy(dst, src): dst a piece of a block that is known whole. -/
theorem run_copy_in (w : World) (dT sT ty e : TypeId) (size : Nat) (hu : P.underlying dT = some (.slice e)) (hsz : (P.info? e).map (·.size) = some size)
    (g off dLen dCap : Nat) (sp : Option Addr) (sLen sCap : Nat) (t : TypeId) (cur : List Value) (hg : w.heap[g]? = some (.cells cur.toArray t (0, 0))) (cs : List Value) (hn : cs.length = Nat.min sLen dLen * size)
    (hA : 0 < cs.length → ∃ ad, sp = some ad ∧ CellsAt w ad cs) (hpos : 0 < cs.length) (hfit : off + cs.length ≤ cur.length) (h1 : ∀ v ∈ cs, v.oneCell' = true) :
    ∃ w', (Builtin.copy_ #[dT, sT] ty #[.slice (some ⟨g, off, none⟩) dLen dCap, .slice sp sLen sCap]).run P w = .ok (goInt (Nat.min sLen dLen)) w' ∧ w'.heap[g]? = some (.cells (splice cur off cs).toArray t (0, 0)) ∧ Only [g] w w' := by
  obtain ⟨i, hi, hi1⟩ := Option.map_eq_some_iff.1 hsz
  subst hi1
  obtain ⟨ad, rfl, hc⟩ := hA hpos
  have hf := run_firstCells_some (P := P) w i.size (Nat.min sLen dLen) ad sLen sCap cs hn hc
  have hst := run_storeCells_at P g off t cs 0 cur.toArray w hg (by simpa using hfit) h1
  have e1 : (List.take (off + 0) cur.toArray.toList ++ cs ++ List.drop (off + 0 + cs.length) cur.toArray.toList).toArray = (splice cur off cs).toArray := by simp [splice]
  rw [e1] at hst
  refine ⟨w.setRow g (splice cur off cs).toArray, ?_, setRow_heap w g _ _ t _ hg, (Only.refl _ _).setRow (by simp) _⟩
  simp [Builtin.copy_, run_underlying hu, Builtin.lenOf, sizeOf, typeInfo, hi, hf, hst]
/-- append(s, make([]T, k)...) where there is no room: a new block; what it holds at first. -/
theorem run_append_new (w : World) (t tn ty e : TypeId) (size bytes : Nat) (z : Value) (kq kn : IntKind) (ht : P.underlying t = some (.slice e)) (htn : P.underlying tn = some (.int kn)) (hinfo : (P.info? e).map (fun i => (i.zero, i.size, i.bytes)) = some (some z, size, bytes))
    (hzs : z.cells.size = size) (hs : 0 < size) (A : Option Addr) (n c : Nat) (olds : List Value) (hl : olds.length = n * size) (hA : 0 < n → ∃ ad, A = some ad ∧ CellsAt w ad olds)
    (k : Nat) (h0 : 0 < k) (hg : c < n + k) (hbytes : (n + k) * bytes ≤ 140737488355328) (hb0 : 0 < bytes) :
    ∃ c' cur w', (Builtin.append_ #[t, tn] ty #[.slice A n c, .int kq k]).run P w = .ok (.slice (some ⟨w.heap.size, 0, none⟩) (n + k) c') w' ∧ w'.heap[w.heap.size]? = some (.cells (olds ++ cur).toArray e (0, 0)) ∧ n + k ≤ c' ∧ c' ≤ maxLen ∧ (olds ++ cur).length = c' * size ∧ Only [] w w' := by
  obtain ⟨i, h2, h3, h4, h5⟩ := info_parts hinfo
  subst h4
  subst h5
  have hle : n + k ≤ 140737488355328 := Nat.le_trans (Nat.le_mul_of_pos_right _ hb0) hbytes
  have hkb : k * i.bytes ≤ 140737488355328 := Nat.le_trans (Nat.mul_le_mul_right _ (Nat.le_add_left k n)) hbytes
  have hold : (Builtin.firstCells i.size n (.slice A n c)).run P w.drew = .ok olds.toArray w.drew := by
    rcases Nat.eq_zero_or_pos n with h | h
    · subst h
      obtain rfl : olds = [] := List.eq_nil_of_length_eq_zero (by omega)
      cases A with
      | none => exact run_firstCells_none _ _ _ _ _
      | some ad => exact run_firstCells_some _ _ _ _ _ _ _ (by simp) (fun j v h => by simp at h)
    · obtain ⟨ad, rfl, hc⟩ := hA h
      exact run_firstCells_some _ _ _ _ _ _ _ hl (fun j v hj => hc j v hj)
  have hr := Lib.run_append_grow_zeros (P := P) w t tn ty e i z kq kn ht htn h2 h3 A n c olds hold k h0 (by omega) hg (by omega) (by omega) (growslice_fits hg hbytes)
  refine ⟨_, (Builtin.zeroCells z.cells k).toList ++ (Builtin.zeroCells z.cells (grownCap w (n + k) c e - (n + k))).toList, _, hr, ?_, grownCap_ge w _ _ e, grownCap_le_maxLen w _ _ e (by unfold maxLen; omega), ?_, ((Only.refl _ _).drew).alloc _⟩
  · rw [show w.heap.size = w.drew.heap.size from rfl, heap_alloc_new]
    congr 2
    apply Array.ext'
    simp
  · have := grownCap_ge w (n + k) c e
    rw [List.length_append, List.length_append, zeroCells_length, zeroCells_length, hzs, hl, ← Nat.add_mul, ← Nat.add_mul]
    congr 1
    omega
section walk
variable {ops : Array Oper} {rest : List Oper} {a : Act} {w : World} {Q : Exit → Act → World → Prop} {dst : Option Tmp} {ty : TypeId} {ps : String} {af : Array Edge}
theorem wpList_cutN {t : TypeId} {x : Operand} {lo hi mx : Option Operand} (e : TypeId) (sz : Nat) (ht : P.underlying t = some (.slice e)) (hsz : (P.info? e).map (·.size) = some sz)
    (A : Option Addr) (n c : Nat) (hx : a.eval x = .slice A n c) (l h m : Nat) (hb : (Instr.sliceBounds true n c (lo.map a.eval) (hi.map a.eval) (mx.map a.eval)).run P w = .ok (l, h, m) w)
    (hK : wpList P ops Q rest (a.put dst (.slice (cutN A l m sz) (h - l) (m - l))) w) : wpList P ops Q ({ dst := dst, op := .slice t x lo hi mx, type := ty, pos := ps, after := af, guard := none } :: rest) a w := by
  refine wpList_plain rfl fun K hK' => ?_
  unfold Oper.wp execOp
  simp only [hx, Sem.run_bind, run_cutN w t e sz ht hsz A n c _ _ _ l h m hb, Result.andThen]
  exact hK' _ _ hK
/-- s[:h] of a block from its start, as it stands. -/
theorem wpList_cutH {t : TypeId} {x : Operand} {hg : Option Operand} (e : TypeId) (sz : Nat) (ht : P.underlying t = some (.slice e)) (hsz : (P.info? e).map (·.size) = some sz)
    (g n c : Nat) (hx : a.eval x = .slice (some ⟨g, 0, none⟩) n c) (h : Nat) (hb : (Instr.sliceBounds true n c none (hg.map a.eval) none).run P w = .ok (0, h, c) w)
    (hK : wpList P ops Q rest (a.put dst (.slice (some ⟨g, 0, none⟩) h c)) w) : wpList P ops Q ({ dst := dst, op := .slice t x none hg none, type := ty, pos := ps, after := af, guard := none } :: rest) a w := by
  refine wpList_cutN e sz ht hsz _ n c hx 0 h c hb ?_
  rw [cutN_zero]
  exact hK
/-- s[l:] of a block, behind its start, where something is left. -/
theorem wpList_cutL {t : TypeId} {x : Operand} {lo : Option Operand} (e : TypeId) (sz : Nat) (ht : P.underlying t = some (.slice e)) (hsz : (P.info? e).map (·.size) = some sz)
    (g n c : Nat) (hx : a.eval x = .slice (some ⟨g, 0, none⟩) n c) (l : Nat) (hl : l < c) (hb : (Instr.sliceBounds true n c (lo.map a.eval) none none).run P w = .ok (l, n, c) w)
    (hK : wpList P ops Q rest (a.put dst (.slice (some ⟨g, l * sz, none⟩) (n - l) (c - l))) w) : wpList P ops Q ({ dst := dst, op := .slice t x lo none none, type := ty, pos := ps, after := af, guard := none } :: rest) a w := by
  refine wpList_cutN e sz ht hsz _ n c hx l n c hb ?_
  rw [cutN_at g 0 l c sz hl, Nat.zero_add]
  exact hK
theorem wpList_clear_in {x : Operand} {t : TypeId} (e : TypeId) (size : Nat) (z : Value) (ht : P.underlying t = some (.slice e)) (hinfo : (P.info? e).map (fun i => (i.zero, i.size)) = some (some z, size)) (hzs : z.cells.size = size) (hz1 : ∀ u ∈ z.cells.toList, u.oneCell' = true)
    (g off n c : Nat) (A : Option Addr) (hx : a.eval x = .slice A n c) (hA : 0 < n → A = some ⟨g, off, none⟩) (cur : List Value) (hg : w.heap[g]? = some (.cells cur.toArray e (0, 0))) (hfit : off + n * size ≤ cur.length)
    (h : ∀ w' zs, zs.length = n * size → Hid (w'.heap[g]? = some (.cells (splice cur off zs).toArray e (0, 0))) → Hid (Only [g] w w') → wpList P ops Q rest (a.put dst (.tuple #[])) w') :
    wpList P ops Q ({ dst := dst, op := .call { callee := .builtin .clear, args := #[x], argTypes := #[t] }, type := ty, pos := ps, after := af, guard := none } :: rest) a w := by
  refine wpList_plain rfl fun K hK => ?_
  obtain ⟨w', zs, hr, hl, h2, h3⟩ := run_clear_in (P := P) w t ty e size z ht hinfo hzs hz1 g off n c A hA cur hg hfit
  unfold Oper.wp execOp
  simp only [resolve, invoke, builtin, Sem.run_bind, Sem.run_pure, Result.andThen_ok, List.map_toArray, List.map_cons, List.map_nil, hx, hr]
  exact hK _ _ (h w' zs hl h2 h3)
theorem wpList_copy_in {d s : Operand} {dT sT : TypeId} (e : TypeId) (size : Nat) (hu : P.underlying dT = some (.slice e)) (hsz : (P.info? e).map (·.size) = some size)
    (g off dLen dCap : Nat) (hd : a.eval d = .slice (some ⟨g, off, none⟩) dLen dCap) (sp : Option Addr) (sLen sCap : Nat) (hs : a.eval s = .slice sp sLen sCap) (t : TypeId) (cur : List Value) (hg : w.heap[g]? = some (.cells cur.toArray t (0, 0))) (cs : List Value) (hn : cs.length = Nat.min sLen dLen * size)
    (hA : 0 < cs.length → ∃ ad, sp = some ad ∧ CellsAt w ad cs) (hpos : 0 < cs.length) (hfit : off + cs.length ≤ cur.length) (h1 : ∀ v ∈ cs, v.oneCell' = true)
    (h : ∀ w', Hid (w'.heap[g]? = some (.cells (splice cur off cs).toArray t (0, 0))) → Hid (Only [g] w w') → wpList P ops Q rest (a.put dst (goInt (Nat.min sLen dLen))) w') :
    wpList P ops Q ({ dst := dst, op := .call { callee := .builtin .copy, args := #[d, s], argTypes := #[dT, sT] }, type := ty, pos := ps, after := af, guard := none } :: rest) a w := by
  refine wpList_plain rfl fun K hK => ?_
  obtain ⟨w', hr, h2, h3⟩ := run_copy_in (P := P) w dT sT ty e size hu hsz g off dLen dCap sp sLen sCap t cur hg cs hn hA hpos hfit h1
  unfold Oper.wp execOp
  simp only [resolve, invoke, builtin, Sem.run_bind, Sem.run_pure, Result.andThen_ok, List.map_toArray, List.map_cons, List.map_nil, hd, hs, hr]
  exact hK _ _ (h w' h2 h3)
theorem wpList_append_new {s x : Operand} {t tn : TypeId} (e : TypeId) (size bytes : Nat) (z : Value) (kq kn : IntKind) (ht : P.underlying t = some (.slice e)) (htn : P.underlying tn = some (.int kn)) (hinfo : (P.info? e).map (fun i => (i.zero, i.size, i.bytes)) = some (some z, size, bytes))
    (hzs : z.cells.size = size) (hs : 0 < size) (A : Option Addr) (n c : Nat) (hs' : a.eval s = .slice A n c) (olds : List Value) (hl : olds.length = n * size) (hA : 0 < n → ∃ ad, A = some ad ∧ CellsAt w ad olds)
    (k : Nat) (K9 : Int) (hx : a.eval x = .int kq K9) (hK9 : K9 = (k : Int)) (h0 : 0 < k) (hg : c < n + k) (hbytes : (n + k) * bytes ≤ 140737488355328) (hb0 : 0 < bytes)
    (h : ∀ c' cur w', Hid (w'.heap[w.heap.size]? = some (.cells (olds ++ cur).toArray e (0, 0))) → Hid (n + k ≤ c' ∧ c' ≤ maxLen ∧ (olds ++ cur).length = c' * size) → Hid (Only [] w w') → wpList P ops Q rest (a.put dst (.slice (some ⟨w.heap.size, 0, none⟩) (n + k) c')) w') :
    wpList P ops Q ({ dst := dst, op := .call { callee := .builtin .append, args := #[s, x], argTypes := #[t, tn] }, type := ty, pos := ps, after := af, guard := none } :: rest) a w := by
  subst hK9
  refine wpList_plain rfl fun K hK => ?_
  obtain ⟨c', cur, w', hr, h2, h3, h4, h5, h6⟩ := run_append_new (P := P) w t tn ty e size bytes z kq kn ht htn hinfo hzs hs A n c olds hl hA k h0 hg hbytes hb0
  unfold Oper.wp execOp
  simp only [resolve, invoke, builtin, Sem.run_bind, Sem.run_pure, Result.andThen_ok, List.map_toArray, List.map_cons, List.map_nil, hs', hx, hr]
  exact hK _ _ (h c' cur w' h2 ⟨h3, h4, h5⟩ h6)
end walk
section region
variable {ops : Array Oper} {Q : Exit → Act → World → Prop} {S : List Nat} {z9 : Nat} {i : Nat} {f : Bool} {oi : Oper} {d : Nat} {T : List (Nat × Bool × Bool)} {a : Act} {w : World} {N : Nat} {env : List (Nat × Value)}
theorem ge_cutN (hi : ops[i]? = some oi) (hdst : oi.dst = some d) (hd : decide (d < N) = true) (hw : L.wantE ops env oi = some true) (t : TypeId) (x : Operand) (lo hg mx : Option Operand) (hop : oi.op = .slice t x lo hg mx)
    (e : TypeId) (sz : Nat) (ht : P.underlying t = some (.slice e)) (hsz : (P.info? e).map (·.size) = some sz) (A : Option Addr) (n c : Nat) (hx : L.evE a env x = .slice A n c) (l h m : Nat)
    (hb : ∀ w', (Instr.sliceBounds true n c (lo.map (L.evE a env)) (hg.map (L.evE a env)) (mx.map (L.evE a env))).run P w' = .ok (l, h, m) w')
    (hK : L.GrowE P ops Q S z9 T a N ((d, .slice (cutN A l m sz) (h - l) (m - l)) :: env) w) : L.GrowE P ops Q S z9 ((i, true, f) :: T) a N env w := by
  refine L.ge_val hi hdst hd hw (fun w' _ => ?_) hK
  unfold execOp
  simp only [hop, hx, Sem.run_bind, run_cutN w' t e sz ht hsz A n c _ _ _ l h m (hb w'), Result.andThen, Sem.run_pure]
theorem ge_cutL (hi : ops[i]? = some oi) (hdst : oi.dst = some d) (hd : decide (d < N) = true) (hw : L.wantE ops env oi = some true) (t : TypeId) (x lo : Operand) (hop : oi.op = .slice t x (some lo) none none)
    (e : TypeId) (sz : Nat) (ht : P.underlying t = some (.slice e)) (hsz : (P.info? e).map (·.size) = some sz) (g n c : Nat) (hx : L.evE a env x = .slice (some ⟨g, 0, none⟩) n c) (l : Nat) (hl : l < c) (k : IntKind) (hlo : L.evE a env lo = .int k (l : Int)) (hln : l ≤ n)
    (hK : L.GrowE P ops Q S z9 T a N ((d, .slice (some ⟨g, l * sz, none⟩) (n - l) (c - l)) :: env) w) : L.GrowE P ops Q S z9 ((i, true, f) :: T) a N env w := by
  refine ge_cutN hi hdst hd hw t x (some lo) none none hop e sz ht hsz _ n c hx l n c (fun w' => ?_) ?_
  · simp only [Option.map_some, Option.map_none, hlo]
    exact bounds_l w' n c _ _ l rfl hln
  · rw [cutN_at g 0 l c sz hl, Nat.zero_add]
    exact hK
theorem ge_append_in (hi : ops[i]? = some oi) (hdst : oi.dst = some d) (hd : decide (d < N) = true) (hw : L.wantE ops env oi = some true) (s x : Operand) (t : TypeId) (ho : oi.op = .call { callee := .builtin .append, args := #[s, x], argTypes := #[t, t] })
    (e : TypeId) (size : Nat) (ht : P.underlying t = some (.slice e)) (hsz : (P.info? e).map (·.size) = some size) (g sLen sCap : Nat) (hs : L.evE a env s = .slice (some ⟨g, 0, none⟩) sLen sCap) (cur : List Value) (hg : w.heap[g]? = some (.cells cur.toArray e (0, 0)))
    (A : Option Addr) (m c : Nat) (hx : L.evE a env x = .slice A m c) (news : List Value) (hl : news.length = m * size) (hA : 0 < m → ∃ ad, A = some ad ∧ CellsAt w ad news) (h1 : ∀ u ∈ news, u.oneCell' = true) (hroom : sLen + m ≤ sCap) (hfit : sLen * size + news.length ≤ cur.length) (hS : g ∈ S ∨ w.heap.size ≤ g)
    (h : ∀ w', Hid (w'.heap[g]? = some (.cells (splice cur (sLen * size) news).toArray e (0, 0))) → Hid (Only [g] w w') → L.GrowE P ops Q S z9 T a N ((d, .slice (some ⟨g, 0, none⟩) (sLen + m) sCap) :: env) w') : L.GrowE P ops Q S z9 ((i, f, true) :: T) a N env w := by
  obtain ⟨w', hr, h2, h3⟩ := run_append_in (P := P) w t oi.type e size ht hsz g sLen sCap cur hg A m c news hl hA h1 hroom hfit
  refine L.ge_mem hi hdst hd hw (w' := w') ?_ ((Only.refl S w).then h3 (fun i hi => by simp at hi; subst hi; exact hS)) (h w' h2 h3)
  unfold execOp
  simp only [ho, resolve, invoke, builtin, Sem.run_bind, Sem.run_pure, Result.andThen_ok, List.map_toArray, List.map_cons, List.map_nil, hs, hx, hr]
theorem ge_copy_in (hi : ops[i]? = some oi) (hdst : oi.dst = some d) (hd : decide (d < N) = true) (hw : L.wantE ops env oi = some true) (dd s : Operand) (dT sT : TypeId) (ho : oi.op = .call { callee := .builtin .copy, args := #[dd, s], argTypes := #[dT, sT] })
    (e : TypeId) (size : Nat) (hu : P.underlying dT = some (.slice e)) (hsz : (P.info? e).map (·.size) = some size)
    (g off dLen dCap : Nat) (hdd : L.evE a env dd = .slice (some ⟨g, off, none⟩) dLen dCap) (sp : Option Addr) (sLen sCap : Nat) (hs : L.evE a env s = .slice sp sLen sCap) (t : TypeId) (cur : List Value) (hg : w.heap[g]? = some (.cells cur.toArray t (0, 0))) (cs : List Value) (hn : cs.length = Nat.min sLen dLen * size)
    (hA : 0 < cs.length → ∃ ad, sp = some ad ∧ CellsAt w ad cs) (hpos : 0 < cs.length) (hfit : off + cs.length ≤ cur.length) (h1 : ∀ v ∈ cs, v.oneCell' = true) (hS : g ∈ S ∨ w.heap.size ≤ g)
    (h : ∀ w', Hid (w'.heap[g]? = some (.cells (splice cur off cs).toArray t (0, 0))) → Hid (Only [g] w w') → L.GrowE P ops Q S z9 T a N ((d, goInt (Nat.min sLen dLen)) :: env) w') : L.GrowE P ops Q S z9 ((i, f, true) :: T) a N env w := by
  obtain ⟨w', hr, h2, h3⟩ := run_copy_in (P := P) w dT sT oi.type e size hu hsz g off dLen dCap sp sLen sCap t cur hg cs hn hA hpos hfit h1
  refine L.ge_mem hi hdst hd hw (w' := w') ?_ ((Only.refl S w).then h3 (fun i hi => by simp at hi; subst hi; exact hS)) (h w' h2 h3)
  unfold execOp
  simp only [ho, resolve, invoke, builtin, Sem.run_bind, Sem.run_pure, Result.andThen_ok, List.map_toArray, List.map_cons, List.map_nil, hdd, hs, hr]
end region
end
end Go.Proofs.YtghpmpjoedbpcaaDoor
/-! ### JPure -/
namespace Go.Proofs.YtghpmpjoedbpcaaDoor.Print
open Go.RowKit Go.Proofs.YtghpmpjoedbpcaaDoorW.PrintWords Go.Proofs.YtghpmpjoedbpcaaDoorW.PrintLast Go.Proofs.YtghpmpjoedbpcaaDoorW.PrintMore
set_option linter.unusedSimpArgs false
set_option linter.unusedVariables false
theorem drop_flat {α : Type} (enc : α → List Value) (sz : Nat) (hlen : ∀ x, (enc x).length = sz) : ∀ (l : List α) (i : Nat), (l.flatMap enc).drop (i * sz) = (l.drop i).flatMap enc
  | [], i => by simp
  | x :: l, 0 => by simp
  | x :: l, i + 1 => by
    rw [List.flatMap_cons, Nat.add_mul, Nat.one_mul, Nat.add_comm (i * sz), ← List.drop_drop]
    rw [show (enc x ++ l.flatMap enc).drop sz = l.flatMap enc by rw [← hlen x]; exact List.drop_left]
    rw [drop_flat enc sz hlen l i, List.drop_succ_cons]
theorem take_flat {α : Type} (enc : α → List Value) (sz : Nat) (hlen : ∀ x, (enc x).length = sz) : ∀ (l : List α) (i : Nat), (l.flatMap enc).take (i * sz) = (l.take i).flatMap enc
  | [], i => by simp
  | x :: l, 0 => by simp
  | x :: l, i + 1 => by
    rw [List.flatMap_cons, Nat.add_mul, Nat.one_mul, Nat.add_comm (i * sz), List.take_succ_cons, List.flatMap_cons]
    rw [← hlen x, List.take_append, List.take_of_length_le (by omega), show (enc x).length + i * (enc x).length - (enc x).length = i * (enc x).length by omega]
    congr 1
    have := take_flat enc sz hlen l i
    rwa [← hlen x] at this
theorem flat_length {α : Type} (enc : α → List Value) (sz : Nat) (hlen : ∀ x, (enc x).length = sz) : ∀ (l : List α), (l.flatMap enc).length = l.length * sz
  | [] => by simp
  | x :: l => by rw [List.flatMap_cons, List.length_append, hlen, flat_length enc sz hlen l, List.length_cons, Nat.add_mul, Nat.one_mul, Nat.add_comm]
theorem flat_one {α : Type} (enc : α → List Value) (h1 : ∀ x, ∀ u ∈ enc x, u.oneCell' = true) (l : List α) : ∀ u ∈ l.flatMap enc, u.oneCell' = true := by
  intro u hu
  obtain ⟨x, _, hx⟩ := List.mem_flatMap.1 hu
  exact h1 x u hx
theorem reps_flat {α : Type} (enc : α → List Value) (sz : Nat) (hlen : ∀ x, (enc x).length = sz) {R : α → List Value → Prop} (h : ∀ x cs, R x cs → cs = enc x) : ∀ {xs : List α} {news : List Value}, Reps R sz xs news → news = xs.flatMap enc
  | [], news, hr => by
    have := hr.1
    simp at this
    simpa using this
  | x :: xs, news, hr => by
    have h0 := h x _ (hr.2 0 x rfl)
    rw [Nat.zero_mul, List.drop_zero] at h0
    have hr' : Reps R sz xs (news.drop sz) := by
      refine ⟨?_, fun j p hj => ?_⟩
      · have := hr.1
        rw [List.length_cons, Nat.add_mul, Nat.one_mul] at this
        rw [List.length_drop]
        omega
      · have := hr.2 (j + 1) p hj
        rwa [Nat.add_mul, Nat.one_mul, Nat.add_comm (j * sz), ← List.drop_drop] at this
    have ih := reps_flat enc sz hlen h hr'
    rw [List.flatMap_cons, ← h0, ← ih, List.take_append_drop]
theorem reps_of_flat {α : Type} (enc : α → List Value) (sz : Nat) (hlen : ∀ x, (enc x).length = sz) {R : α → List Value → Prop} (h : ∀ x, R x (enc x)) (xs : List α) : Reps R sz xs (xs.flatMap enc) := by
  refine ⟨flat_length enc sz hlen xs, fun j p hj => ?_⟩
  rw [drop_flat enc sz hlen]
  obtain ⟨hjl, rfl⟩ := List.getElem?_eq_some_iff.1 hj
  rw [List.drop_eq_getElem_cons hjl, List.flatMap_cons, ← hlen xs[j], List.take_left]
  exact h _
def eCells (e : S27) : List Value := [.int .i64 e.f0, .int .i64 e.f1, .int .i64 e.f2, .string e.f3, .int .i64 e.f4, .int .i64 e.f5]
def qCells (q : S35) : List Value := [.int .i64 q.f0, .int .i64 q.f1, .int .i64 q.f2]
def eRow (l : List S27) : List Value := l.flatMap eCells
def qRow (l : List S35) : List Value := l.flatMap qCells
theorem eRow_length (l : List S27) : (eRow l).length = l.length * 6 := flat_length eCells 6 (fun _ => rfl) l
theorem qRow_length (l : List S35) : (qRow l).length = l.length * 3 := flat_length qCells 3 (fun _ => rfl) l
theorem eRow_one (l : List S27) : ∀ u ∈ eRow l, u.oneCell' = true := flat_one eCells (fun x u hu => by simp [eCells] at hu; rcases hu with rfl | rfl | rfl | rfl | rfl | rfl <;> rfl) l
theorem qRow_one (l : List S35) : ∀ u ∈ qRow l, u.oneCell' = true := flat_one qCells (fun x u hu => by simp [qCells] at hu; rcases hu with rfl | rfl | rfl <;> rfl) l
theorem eRow_append (a b : List S27) : eRow (a ++ b) = eRow a ++ eRow b := List.flatMap_append
theorem qRow_append (a b : List S35) : qRow (a ++ b) = qRow a ++ qRow b := List.flatMap_append
theorem eRow_drop (l : List S27) (i : Nat) : (eRow l).drop (i * 6) = eRow (l.drop i) := drop_flat eCells 6 (fun _ => rfl) l i
theorem qRow_drop (l : List S35) (i : Nat) : (qRow l).drop (i * 3) = qRow (l.drop i) := drop_flat qCells 3 (fun _ => rfl) l i
theorem eRow_take (l : List S27) (i : Nat) : (eRow l).take (i * 6) = eRow (l.take i) := take_flat eCells 6 (fun _ => rfl) l i
theorem qRow_take (l : List S35) (i : Nat) : (qRow l).take (i * 3) = qRow (l.take i) := take_flat qCells 3 (fun _ => rfl) l i
theorem R_e {w : World} {base : Nat} {v : Value} {l : List S27} (h : w.ownsRow base 27 6 v l.length (eRow l)) : Kd.R k27 27 w base (fun _ => True) v l :=
  ⟨fun _ _ => trivial, _, h, reps_of_flat eCells 6 (fun _ => rfl) (fun x => k27_mkM _ _ _ x) l⟩
theorem R_q {w : World} {base : Nat} {v : Value} {l : List S35} (h : w.ownsRow base 35 3 v l.length (qRow l)) : Kd.R k35 35 w base (fun _ => True) v l :=
  ⟨fun _ _ => trivial, _, h, reps_of_flat qCells 3 (fun _ => rfl) (fun x => k35_mkM _ _ _ x) l⟩
theorem flat_e {w : World} {A : Option Addr} {l : List S27} (h : Kd.C k27 w A l.length l) : 0 < l.length → ∃ ad, A = some ad ∧ CellsAt w ad (eRow l) := by
  obtain ⟨news, hr, ha, _⟩ := Kd.C_flat h
  have e := reps_flat eCells 6 (fun _ => rfl) (fun x cs h => k27_open h) hr
  rw [e] at ha
  exact ha
theorem flat_q {w : World} {A : Option Addr} {l : List S35} (h : Kd.C k35 w A l.length l) : 0 < l.length → ∃ ad, A = some ad ∧ CellsAt w ad (qRow l) := by
  obtain ⟨news, hr, ha, _⟩ := Kd.C_flat h
  have e := reps_flat qCells 3 (fun _ => rfl) (fun x cs h => k35_open h) hr
  rw [e] at ha
  exact ha
/-- An element's cells. -/
theorem C_e_at {w : World} {A : Option Addr} {l : List S27} (h : Kd.C k27 w A l.length l) (k : Nat) (hk : k < l.length) : ∃ ad, A = some ad ∧ CellsAt w (ad.add (k * 6)) (eCells l[k]) := by
  obtain ⟨ad, cs, rfl, _, hK, hcs⟩ := Kd.C_cells h k hk
  obtain rfl := k27_open hK
  exact ⟨ad, rfl, hcs⟩
theorem C_q_at {w : World} {A : Option Addr} {l : List S35} (h : Kd.C k35 w A l.length l) (k : Nat) (hk : k < l.length) : ∃ ad, A = some ad ∧ CellsAt w (ad.add (k * 3)) (qCells l[k]) := by
  obtain ⟨ad, cs, rfl, _, hK, hcs⟩ := Kd.C_cells h k hk
  obtain rfl := k35_open hK
  exact ⟨ad, rfl, hcs⟩
def wi (n least : Int) : Bool := decide (least ≤ n) && decide (n ≤ 1099511627776)
def strangeB (e : S27) : Bool := !(quoteZ e.f3).2 || !wi e.f0 0 || !wi e.f1 0 || decide (e.f2 < 0) || decide (5 < e.f2)
def oddB (q : S35) : Bool := !wi q.f0 1 || decide (q.f1 < 0) || decide (40 < q.f1) || !wi q.f2 0
def usedFrom : Int → List S35 → Int
  | n, [] => n
  | n, x :: q => usedFrom (mn (n + x.f1) 121) q
def usedZ (l : List S27) (q : List S35) : Int := usedFrom (mn l.length 121) q
def risingB : List S35 → Bool
  | x :: y :: q => decide (x.f0 < y.f0) && risingB (y :: q)
  | _ => true
def rightJ (l : List S27) (q : List S35) (g : Int) : Bool := !l.any strangeB && !q.any oddB && wi g 0 && risingB q && decide (usedZ l q ≤ 120)
/-- Names may be quoted. -/
def namesOk (l : List S27) : Prop := ∀ e ∈ l, e.f3.size ≤ 1000000000
/-- A whole number of Go's int. -/
def i64 (n : Int) : Prop := -9223372036854775808 ≤ n ∧ n ≤ 9223372036854775807
end Go.Proofs.YtghpmpjoedbpcaaDoor.Print
/-! ### EJBase -/
namespace Go.Proofs.YtghpmpjoedbpcaaDoor.Print
open Go.RowKit Go.Proofs.YtghpmpjoedbpcaaDoorW.PrintWords Go.Proofs.YtghpmpjoedbpcaaDoorW.PrintLast Go.Proofs.YtghpmpjoedbpcaaDoorW.PrintMore
attribute [local go_sem] min2_int min_two
set_option linter.unusedSimpArgs false
set_option linter.unusedVariables false
theorem within_any (n least : Int) (w : World) : Calls Tryd.prog 38 #[.int .i64 n, .int .i64 least] w fun e w' => e = .returned (.bool (wi n least)) ∧ Below w.heap.size w w' := by
  obtain ⟨V, hV⟩ : ∃ V, V = wi n least := ⟨_, rfl⟩
  rw [← hV]
  unfold wi at hV
  have HV := Lib.hid hV
  clear hV
  go_enter Tryd.func38, Tryd.ntmps38
  by_cases h1 : least ≤ n
  · by_cases h2 : n ≤ 1099511627776
    · go_wp2
      go_ret
      exact ⟨by rw [HV.out]; simp [h1, h2], Below.refl _ _⟩
    · have h2' : 1099511627776 < n := by omega
      go_wp2
      go_ret
      exact ⟨by rw [HV.out]; simp [h1, h2], Below.refl _ _⟩
  · have h1' : n < least := by omega
    go_wp2
    go_ret
    exact ⟨by rw [HV.out, decide_eq_false (by omega)]; rfl, Below.refl _ _⟩
set_option maxHeartbeats 8000000 in
set_option maxRecDepth 100000 in
theorem strange_any (v : Value) (e : S27) (w : World) (hs : e.f3.size ≤ 1000000000) (hT : Tabs w) :
    Calls Tryd.prog 32 #[v, .agg #[.int .i64 e.f0, .int .i64 e.f1, .int .i64 e.f2, .string e.f3, .int .i64 e.f4, .int .i64 e.f5]] w fun x w' => x = .returned (.bool (strangeB e)) ∧ Below w.heap.size w w' := by
  obtain ⟨V, hV⟩ : ∃ V, V = strangeB e := ⟨_, rfl⟩
  rw [← hV]
  unfold strangeB at hV
  have HV := Lib.hid hV
  have HQ := Lib.hid (quote_any e.f3 (w.alloc (.cells #[.int .i64 e.f0, .int .i64 e.f1, .int .i64 e.f2, .string e.f3, .int .i64 e.f4, .int .i64 e.f5] 27)) hs (hT.below ((Below.refl _ _).alloc (Nat.le_refl _) _)))
  clear hV hT
  generalize (quoteZ e.f3).1 = q1 at *
  generalize (quoteZ e.f3).2 = q2 at *
  have hw2 : ∀ W, Calls Tryd.prog 38 #[.int .i64 e.f0, .int .i64 0] W fun x w' => x = .returned (.bool (wi e.f0 0)) ∧ Below W.heap.size W w' := fun W => within_any _ _ W
  have hw3 : ∀ W, Calls Tryd.prog 38 #[.int .i64 e.f1, .int .i64 0] W fun x w' => x = .returned (.bool (wi e.f1 0)) ∧ Below W.heap.size W w' := fun W => within_any _ _ W
  have HW2 := Lib.hid hw2
  have HW3 := Lib.hid hw3
  clear hw2 hw3
  generalize wi e.f0 0 = b2 at *
  generalize wi e.f1 0 = b3 at *
  have HB0 := Lib.hid (show Below w.heap.size w (w.alloc (.cells #[.int .i64 e.f0, .int .i64 e.f1, .int .i64 e.f2, .string e.f3, .int .i64 e.f4, .int .i64 e.f5] 27)) from (Below.refl _ _).alloc (Nat.le_refl _) _)
  have HE0 := Lib.hid (heap_alloc_new w (.cells #[.int .i64 e.f0, .int .i64 e.f1, .int .i64 e.f2, .string e.f3, .int .i64 e.f4, .int .i64 e.f5] 27))
  go_enter Tryd.func32, Tryd.ntmps32
  go_wp2_with (first
    | (go_at_call 50; refine HQ.out.mono ?_; rintro x w1 ⟨rfl, hb⟩; have HB1 := Lib.hid (below_then HB0.out HB0.out.size hb); have HE1 := Lib.hid ((hb.block _ (by simp)).trans HE0.out); clear hb HQ HB0 HE0; refine (fun (h : Hid _) => h.out) ?_))
  refine Lib.hid ?_
  have a0 : w1.cell? ⟨w.heap.size, 0, none⟩ = some (.int .i64 e.f0) := (cell_of_row w1 w.heap.size 0 _ _ _ HE1.out).trans rfl
  have a1 : w1.cell? ⟨w.heap.size, 1, none⟩ = some (.int .i64 e.f1) := (cell_of_row w1 w.heap.size 1 _ _ _ HE1.out).trans rfl
  have a2 : w1.cell? ⟨w.heap.size, 2, none⟩ = some (.int .i64 e.f2) := (cell_of_row w1 w.heap.size 2 _ _ _ HE1.out).trans rfl
  cases q2
  · go_wp2
    go_ret
    exact ⟨by rw [HV.out]; rfl, HB1.out⟩
  go_wp2_with (first
    | (go_at_call 38; refine (HW2.out w1).mono ?_; rintro x w2 ⟨rfl, hb⟩; have HB2 := Lib.hid (below_then HB1.out HB1.out.size hb); have HE2 := Lib.hid ((hb.block _ (heap_lt HE1.out)).trans HE1.out); clear hb a0 a1 a2; refine (fun (h : Hid _) => h.out) ?_))
  refine Lib.hid ?_
  have a1 : w2.cell? ⟨w.heap.size, 1, none⟩ = some (.int .i64 e.f1) := (cell_of_row w2 w.heap.size 1 _ _ _ HE2.out).trans rfl
  have a2 : w2.cell? ⟨w.heap.size, 2, none⟩ = some (.int .i64 e.f2) := (cell_of_row w2 w.heap.size 2 _ _ _ HE2.out).trans rfl
  cases b2
  · go_wp2
    go_ret
    exact ⟨by rw [HV.out]; rfl, HB2.out⟩
  go_wp2_with (first
    | (go_at_call 38; refine (HW3.out w2).mono ?_; rintro x w3 ⟨rfl, hb⟩; have HB3 := Lib.hid (below_then HB2.out HB2.out.size hb); have HE3 := Lib.hid ((hb.block _ (heap_lt HE2.out)).trans HE2.out); clear hb a1 a2; refine (fun (h : Hid _) => h.out) ?_))
  refine Lib.hid ?_
  have a2 : w3.cell? ⟨w.heap.size, 2, none⟩ = some (.int .i64 e.f2) := (cell_of_row w3 w.heap.size 2 _ _ _ HE3.out).trans rfl
  cases b3
  · go_wp2
    go_ret
    exact ⟨by rw [HV.out]; rfl, HB3.out⟩
  have HV2 := Lib.hid (show V = (decide (e.f2 < 0) || decide (5 < e.f2)) by rw [HV.out]; rfl)
  clear HV
  generalize e.f2 = k at *
  by_cases h4 : k < 0
  · go_wp2
    go_ret
    exact ⟨by rw [HV2.out]; simp [h4], HB3.out⟩
  · by_cases h5 : 5 < k
    · go_wp2
      go_ret
      exact ⟨by rw [HV2.out]; simp [h4, h5], HB3.out⟩
    · have h4' : 0 ≤ k := by omega
      have h5' : k ≤ 5 := by omega
      go_wp2
      go_ret
      exact ⟨by rw [HV2.out]; simp [h4, h5], HB3.out⟩
set_option maxHeartbeats 8000000 in
set_option maxRecDepth 100000 in
theorem odd_any (v : Value) (e : S35) (w : World) :
    Calls Tryd.prog 49 #[v, .agg #[.int .i64 e.f0, .int .i64 e.f1, .int .i64 e.f2]] w fun x w' => x = .returned (.bool (oddB e)) ∧ Below w.heap.size w w' := by
  obtain ⟨V, hV⟩ : ∃ V, V = oddB e := ⟨_, rfl⟩
  rw [← hV]
  unfold oddB at hV
  have HV := Lib.hid hV
  clear hV
  have hw2 : ∀ W, Calls Tryd.prog 38 #[.int .i64 e.f0, .int .i64 1] W fun x w' => x = .returned (.bool (wi e.f0 1)) ∧ Below W.heap.size W w' := fun W => within_any _ _ W
  have hw3 : ∀ W, Calls Tryd.prog 38 #[.int .i64 e.f2, .int .i64 0] W fun x w' => x = .returned (.bool (wi e.f2 0)) ∧ Below W.heap.size W w' := fun W => within_any _ _ W
  have HW2 := Lib.hid hw2
  have HW3 := Lib.hid hw3
  clear hw2 hw3
  generalize wi e.f0 1 = b2 at *
  generalize wi e.f2 0 = b3 at *
  have HB1 := Lib.hid (show Below w.heap.size w (w.alloc (.cells #[.int .i64 e.f0, .int .i64 e.f1, .int .i64 e.f2] 35)) from (Below.refl _ _).alloc (Nat.le_refl _) _)
  have HE1 := Lib.hid (heap_alloc_new w (.cells #[.int .i64 e.f0, .int .i64 e.f1, .int .i64 e.f2] 35))
  go_enter Tryd.func49, Tryd.ntmps49
  go_wp2_with (first
    | (go_at_call 38; refine (HW2.out _).mono ?_; rintro x w2 ⟨rfl, hb⟩; have HB2 := Lib.hid (below_then HB1.out HB1.out.size hb); have HE2 := Lib.hid ((hb.block _ (heap_lt HE1.out)).trans HE1.out); clear hb; refine (fun (h : Hid _) => h.out) ?_))
  refine Lib.hid ?_
  have a1 : w2.cell? ⟨w.heap.size, 1, none⟩ = some (.int .i64 e.f1) := (cell_of_row w2 w.heap.size 1 _ _ _ HE2.out).trans rfl
  have a2 : w2.cell? ⟨w.heap.size, 2, none⟩ = some (.int .i64 e.f2) := (cell_of_row w2 w.heap.size 2 _ _ _ HE2.out).trans rfl
  cases b2
  · go_wp2
    go_ret
    exact ⟨by rw [HV.out]; rfl, HB2.out⟩
  have HV2 := Lib.hid (show V = (decide (e.f1 < 0) || decide (40 < e.f1) || !b3) by rw [HV.out]; rfl)
  clear HV
  generalize e.f1 = k at *
  by_cases h4 : k < 0
  · go_wp2
    go_ret
    exact ⟨by rw [HV2.out]; simp [h4], HB2.out⟩
  · by_cases h5 : 40 < k
    · go_wp2
      go_ret
      exact ⟨by rw [HV2.out]; simp [h4, h5], HB2.out⟩
    · have h4' : 0 ≤ k := by omega
      have h5' : k ≤ 40 := by omega
      go_wp2_with (first
        | (go_at_call 38; refine (HW3.out _).mono ?_; rintro x w3 ⟨rfl, hb⟩; have HB3 := Lib.hid (below_then HB2.out HB2.out.size hb); clear hb))
      go_ret
      exact ⟨by rw [HV2.out, decide_eq_false (by omega), decide_eq_false (by omega)]; rfl, HB3.out⟩
/-- Where from a place on the first element is of which something holds. -/
def firstFrom {α : Type} (p : α → Bool) : Nat → List α → Int
  | _, [] => -1
  | i, x :: l => if p x then (i : Int) else firstFrom p (i + 1) l
theorem firstFrom_drop {α : Type} (p : α → Bool) (l : List α) (k : Nat) (hk : k < l.length) : firstFrom p k (l.drop k) = if p l[k] then (k : Int) else firstFrom p (k + 1) (l.drop (k + 1)) := by
  rw [List.drop_eq_getElem_cons hk]
  rfl
theorem firstFrom_any {α : Type} (p : α → Bool) : ∀ (l : List α) (i : Nat), decide (0 ≤ firstFrom p i l) = l.any p
  | [], i => by simp [firstFrom]
  | x :: l, i => by
    unfold firstFrom
    cases h : p x
    · simp [h, firstFrom_any p l (i + 1)]
    · simp [h]
set_option maxHeartbeats 8000000 in
set_option maxRecDepth 100000 in
theorem index_strange (p : S27 → Bool) (v : Value) (A0 : Option Addr) (c0 : Nat) (l0 : List S27) (w : World) (hr : Kd.C k27 w A0 l0.length l0) (hl : l0.length ≤ 140737488355328)
    (hp : ∀ x ∈ l0, ∀ W, Below w.heap.size w W → Calls Tryd.prog 32 #[v, .agg #[.int .i64 x.f0, .int .i64 x.f1, .int .i64 x.f2, .string x.f3, .int .i64 x.f4, .int .i64 x.f5]] W fun e w' => e = .returned (.bool (p x)) ∧ Below W.heap.size W w') :
    Calls Tryd.prog 53 #[.slice A0 l0.length c0, .func (.func 32) #[v] #[]] w fun e w' => e = .returned (.int .i64 (firstFrom p 0 l0)) ∧ Below w.heap.size w w' := by
  obtain ⟨V, hV⟩ : ∃ V, V = firstFrom p 0 l0 := ⟨_, rfl⟩
  rw [← hV]
  have HV := Lib.hid hV
  have HR := Lib.hid hr
  have HP := Lib.hid hp
  clear hV hr hp
  have hu := Tryd.underlying27
  go_enter Tryd.func53, Tryd.ntmps53
  go_wp2
  go_loopw [5, 8] (fun _ i wr => ∃ k : Nat, k ≤ l0.length ∧ i = .int .i64 k ∧ Hid (V = firstFrom p k (l0.drop k)) ∧ Hid (Below w.heap.size w wr)) (fun _ i _ => l0.length - (intOf i).toNat)
  case atStart => exact ⟨0, by omega, rfl, HV, Lib.hid (Below.refl _ _)⟩
  case round =>
    obtain ⟨k, hk, rfl, hv, hb⟩ := hrel
    by_cases hlt2 : k < l0.length
    · have hlt' : (k : Int) < l0.length := by omega
      have hk0 : (0 : Int) ≤ k := by omega
      have hv' := hv.out
      rw [firstFrom_drop _ _ _ hlt2] at hv'
      obtain ⟨ad, rfl, hcs⟩ := C_e_at (Kd.C_below HR.out hb.out) k hlt2
      have HC := Lib.hid (show CellsAt wr (ad.add (k * 6)) [.int .i64 l0[k].f0, .int .i64 l0[k].f1, .int .i64 l0[k].f2, .string l0[k].f3, .int .i64 l0[k].f4, .int .i64 l0[k].f5] from hcs)
      have HPK := Lib.hid (HP.out l0[k] (List.getElem_mem hlt2))
      clear hcs
      generalize l0[k] = x at *
      generalize p x = px at *
      have HV2 := Lib.hid hv'
      clear hv hv'
      go_wp2_with (first
        | (with_reducible refine wpList_load_at rfl 27 (.tmp 14) rfl (ad.add (k * 6)) rfl _ _ HC.out Tryd.underlying27 rfl (by kernel_rfl) ?_)
        | (go_at_call 32; refine (HPK.out wr hb.out).mono ?_; rintro e w1 ⟨rfl, hb1⟩; have HB1 := Lib.hid (below_then hb.out hb.out.size hb1); clear hb1))
      · rename_i ht
        go_ret
        exact ⟨by rw [HV2.out, if_pos ht]; rfl, HB1.out⟩
      · rename_i ht
        go_roundw
        case rel => exact ⟨k + 1, by omega, by go_num, Lib.hid (by rw [HV2.out, if_neg (by rw [ht]; simp)]), HB1⟩
        case measure => simp [intOf]; omega
    · have hlt' : (l0.length : Int) ≤ k := by omega
      have hv' := hv.out
      rw [List.drop_eq_nil_of_le (by omega)] at hv'
      have HV2 := Lib.hid hv'
      clear hv hv'
      go_wp2
      go_ret
      exact ⟨by rw [HV2.out]; rfl, hb.out⟩
set_option maxHeartbeats 8000000 in
set_option maxRecDepth 100000 in
theorem index_odd (p : S35 → Bool) (v : Value) (A0 : Option Addr) (c0 : Nat) (l0 : List S35) (w : World) (hr : Kd.C k35 w A0 l0.length l0) (hl : l0.length ≤ 140737488355328)
    (hp : ∀ x ∈ l0, ∀ W, Below w.heap.size w W → Calls Tryd.prog 49 #[v, .agg #[.int .i64 x.f0, .int .i64 x.f1, .int .i64 x.f2]] W fun e w' => e = .returned (.bool (p x)) ∧ Below W.heap.size W w') :
    Calls Tryd.prog 57 #[.slice A0 l0.length c0, .func (.func 49) #[v] #[]] w fun e w' => e = .returned (.int .i64 (firstFrom p 0 l0)) ∧ Below w.heap.size w w' := by
  obtain ⟨V, hV⟩ : ∃ V, V = firstFrom p 0 l0 := ⟨_, rfl⟩
  rw [← hV]
  have HV := Lib.hid hV
  have HR := Lib.hid hr
  have HP := Lib.hid hp
  clear hV hr hp
  have hu := Tryd.underlying35
  go_enter Tryd.func57, Tryd.ntmps57
  go_wp2
  go_loopw [5, 8] (fun _ i wr => ∃ k : Nat, k ≤ l0.length ∧ i = .int .i64 k ∧ Hid (V = firstFrom p k (l0.drop k)) ∧ Hid (Below w.heap.size w wr)) (fun _ i _ => l0.length - (intOf i).toNat)
  case atStart => exact ⟨0, by omega, rfl, HV, Lib.hid (Below.refl _ _)⟩
  case round =>
    obtain ⟨k, hk, rfl, hv, hb⟩ := hrel
    by_cases hlt2 : k < l0.length
    · have hlt' : (k : Int) < l0.length := by omega
      have hk0 : (0 : Int) ≤ k := by omega
      have hv' := hv.out
      rw [firstFrom_drop _ _ _ hlt2] at hv'
      obtain ⟨ad, rfl, hcs⟩ := C_q_at (Kd.C_below HR.out hb.out) k hlt2
      have HC := Lib.hid (show CellsAt wr (ad.add (k * 3)) [.int .i64 l0[k].f0, .int .i64 l0[k].f1, .int .i64 l0[k].f2] from hcs)
      have HPK := Lib.hid (HP.out l0[k] (List.getElem_mem hlt2))
      clear hcs
      generalize l0[k] = x at *
      generalize p x = px at *
      have HV2 := Lib.hid hv'
      clear hv hv'
      go_wp2_with (first
        | (with_reducible refine wpList_load_at rfl 35 (.tmp 14) rfl (ad.add (k * 3)) rfl _ _ HC.out Tryd.underlying35 rfl (by kernel_rfl) ?_)
        | (go_at_call 49; refine (HPK.out wr hb.out).mono ?_; rintro e w1 ⟨rfl, hb1⟩; have HB1 := Lib.hid (below_then hb.out hb.out.size hb1); clear hb1))
      · rename_i ht
        go_ret
        exact ⟨by rw [HV2.out, if_pos ht]; rfl, HB1.out⟩
      · rename_i ht
        go_roundw
        case rel => exact ⟨k + 1, by omega, by go_num, Lib.hid (by rw [HV2.out, if_neg (by rw [ht]; simp)]), HB1⟩
        case measure => simp [intOf]; omega
    · have hlt' : (l0.length : Int) ≤ k := by omega
      have hv' := hv.out
      rw [List.drop_eq_nil_of_le (by omega)] at hv'
      have HV2 := Lib.hid hv'
      clear hv hv'
      go_wp2
      go_ret
      exact ⟨by rw [HV2.out]; rfl, hb.out⟩
set_option maxHeartbeats 8000000 in
theorem contains_strange (p : S27 → Bool) (v : Value) (A0 : Option Addr) (c0 : Nat) (l0 : List S27) (w : World) (hr : Kd.C k27 w A0 l0.length l0) (hl : l0.length ≤ 140737488355328)
    (hp : ∀ x ∈ l0, ∀ W, Below w.heap.size w W → Calls Tryd.prog 32 #[v, .agg #[.int .i64 x.f0, .int .i64 x.f1, .int .i64 x.f2, .string x.f3, .int .i64 x.f4, .int .i64 x.f5]] W fun e w' => e = .returned (.bool (p x)) ∧ Below W.heap.size W w') :
    Calls Tryd.prog 47 #[.slice A0 l0.length c0, .func (.func 32) #[v] #[]] w fun e w' => e = .returned (.bool (l0.any p)) ∧ Below w.heap.size w w' := by
  rw [← firstFrom_any p l0 0]
  have HI := Lib.hid (index_strange p v A0 c0 l0 w hr hl hp)
  clear hr hp
  generalize firstFrom p 0 l0 = z at *
  go_enter Tryd.func47, Tryd.ntmps47
  go_wp2_with (go_at_call 53; refine HI.out.mono ?_; rintro e w1 ⟨rfl, hb⟩; have HB := Lib.hid hb; clear hb)
  go_ret
  exact ⟨rfl, HB.out⟩
set_option maxHeartbeats 8000000 in
theorem contains_odd (p : S35 → Bool) (v : Value) (A0 : Option Addr) (c0 : Nat) (l0 : List S35) (w : World) (hr : Kd.C k35 w A0 l0.length l0) (hl : l0.length ≤ 140737488355328)
    (hp : ∀ x ∈ l0, ∀ W, Below w.heap.size w W → Calls Tryd.prog 49 #[v, .agg #[.int .i64 x.f0, .int .i64 x.f1, .int .i64 x.f2]] W fun e w' => e = .returned (.bool (p x)) ∧ Below W.heap.size W w') :
    Calls Tryd.prog 48 #[.slice A0 l0.length c0, .func (.func 49) #[v] #[]] w fun e w' => e = .returned (.bool (l0.any p)) ∧ Below w.heap.size w w' := by
  rw [← firstFrom_any p l0 0]
  have HI := Lib.hid (index_odd p v A0 c0 l0 w hr hl hp)
  clear hr hp
  generalize firstFrom p 0 l0 = z at *
  go_enter Tryd.func48, Tryd.ntmps48
  go_wp2_with (go_at_call 57; refine HI.out.mono ?_; rintro e w1 ⟨rfl, hb⟩; have HB := Lib.hid hb; clear hb)
  go_ret
  exact ⟨rfl, HB.out⟩
end Go.Proofs.YtghpmpjoedbpcaaDoor.Print
/-! ### EJRight -/
namespace Go.Proofs.YtghpmpjoedbpcaaDoor.Print
open Go.RowKit Go.Proofs.YtghpmpjoedbpcaaDoorW.PrintWords Go.Proofs.YtghpmpjoedbpcaaDoorW.PrintLast Go.Proofs.YtghpmpjoedbpcaaDoorW.PrintMore
attribute [local go_sem] min2_int min_two
set_option linter.unusedSimpArgs false
set_option linter.unusedVariables false
theorem usedFrom_drop (q : List S35) (n : Int) (k : Nat) (hk : k < q.length) : usedFrom n (q.drop k) = usedFrom (mn (n + q[k].f1) 121) (q.drop (k + 1)) := by
  rw [List.drop_eq_getElem_cons hk]
  rfl
theorem risingB_drop (q : List S35) (i : Nat) (h : i + 1 < q.length) : risingB (q.drop i) = (decide ((q[i]'(by omega)).f0 < q[i + 1].f0) && risingB (q.drop (i + 1))) := by
  rw [List.drop_eq_getElem_cons (show i < q.length by omega), List.drop_eq_getElem_cons h]
  rfl
theorem risingB_end (q : List S35) (i : Nat) (h : q.length ≤ i + 1) : risingB (q.drop i) = true := by
  have : (q.drop i).length ≤ 1 := by rw [List.length_drop]; omega
  match hm : q.drop i with
  | [] => rfl
  | [x] => rfl
  | x :: y :: r => rw [hm] at this; simp at this
def leftOk (q : List S35) : Prop := ∀ x ∈ q, 0 ≤ x.f1 ∧ x.f1 ≤ 40
set_option maxHeartbeats 8000000 in
set_option maxRecDepth 100000 in
theorem used_any (bp n0 c0 : Nat) (A0 : Option Addr) (A1 : Option Addr) (c1 : Nat) (q : List S35) (g : Int) (w : World) (hrow : w.heap[bp]? = some (.cells #[.slice A0 n0 c0, .slice A1 q.length c1, .int .i64 g] 56 (0, 0)))
    (hr : Kd.C k35 w A1 q.length q) (hq : leftOk q) (hn : n0 ≤ 140737488355328) (hl : q.length ≤ 140737488355328) :
    Calls Tryd.prog 34 #[.pointer (some ⟨bp, 0, none⟩)] w fun e w' => e = .returned (.int .i64 (usedFrom (mn n0 121) q)) ∧ Below w.heap.size w w' := by
  obtain ⟨V, hV⟩ : ∃ V, V = usedFrom (mn n0 121) q := ⟨_, rfl⟩
  rw [← hV]
  have HV := Lib.hid hV
  have HR := Lib.hid hr
  have HQ := Lib.hid hq
  have a0 : w.cell? ⟨bp, 0, none⟩ = some (.slice A0 n0 c0) := (cell_of_row w bp 0 _ _ _ hrow).trans rfl
  have a1 : w.cell? ⟨bp, 1, none⟩ = some (.slice A1 q.length c1) := (cell_of_row w bp 1 _ _ _ hrow).trans rfl
  clear hV hr hq hrow
  have hu := Tryd.underlying35
  have HV1 : Hid (∀ u : Int, u = mn (n0 : Int) 121 → V = usedFrom u q) := Lib.hid (fun u h => by rw [h]; exact HV.out)
  clear HV
  go_enter Tryd.func34, Tryd.ntmps34
  go_wp2
  all_goals
    clear a0 a1
    go_loopw [3, 5, 19] (fun s _ i wr => ∃ (k : Nat) (n : Int), k ≤ q.length ∧ i = .int .i64 k ∧ s = .int .i64 n ∧ 0 ≤ n ∧ n ≤ 121 ∧ Hid (V = usedFrom n (q.drop k)) ∧ Hid (Below w.heap.size w wr)) (fun _ _ i _ => q.length - (intOf i).toNat)
    case atStart => exact ⟨0, _, by omega, rfl, rfl, by omega, by omega, Lib.hid (HV1.out _ (by unfold mn; split <;> omega)), Lib.hid (Below.refl _ _)⟩
    case round =>
      obtain ⟨k, n, hk, rfl, rfl, hn0, hn1, hv, hb⟩ := hrel
      by_cases hlt2 : k < q.length
      · have hlt' : (k : Int) < q.length := by omega
        have hk0 : (0 : Int) ≤ k := by omega
        have hv' := hv.out
        rw [usedFrom_drop _ _ _ hlt2] at hv'
        obtain ⟨ad, rfl, hcs⟩ := C_q_at (Kd.C_below HR.out hb.out) k hlt2
        have HC := Lib.hid (show CellsAt wr (ad.add (k * 3)) [.int .i64 q[k].f0, .int .i64 q[k].f1, .int .i64 q[k].f2] from hcs)
        obtain ⟨h3, h4⟩ := HQ.out q[k] (List.getElem_mem hlt2)
        clear hcs
        generalize q[k] = x at *
        have HV2 := Lib.hid hv'
        have HB2 := Lib.hid (hb.out.alloc hb.out.size (.cells #[.int .i64 x.f0, .int .i64 x.f1, .int .i64 x.f2] 35))
        clear hv hv'
        generalize hf : x.f1 = y at *
        clear hf
        by_cases h5 : 121 < n + y
        · have HV3 := Lib.hid (show V = usedFrom 121 (q.drop (k + 1)) by rw [HV2.out]; congr 1; unfold mn; split <;> omega)
          clear HV2
          go_wp2_with (with_reducible refine wpList_load_at rfl 35 (.tmp 21) rfl (ad.add (k * 3)) rfl _ _ HC.out Tryd.underlying35 rfl (by kernel_rfl) ?_)
          go_roundw
          case rel => exact ⟨k + 1, 121, by omega, by go_num, rfl, by omega, by omega, HV3, HB2⟩
          case measure => simp [intOf]; omega
        · have HV3 := Lib.hid (show V = usedFrom (n + y) (q.drop (k + 1)) by rw [HV2.out]; congr 1; unfold mn; split <;> omega)
          clear HV2
          have h5' : n + y ≤ 121 := by omega
          go_wp2_with (with_reducible refine wpList_load_at rfl 35 (.tmp 21) rfl (ad.add (k * 3)) rfl _ _ HC.out Tryd.underlying35 rfl (by kernel_rfl) ?_)
          go_roundw
          case rel => exact ⟨k + 1, n + y, by omega, by go_num, by go_num, by omega, by omega, HV3, HB2⟩
          case measure => simp [intOf]; omega
      · have hlt' : (q.length : Int) ≤ k := by omega
        have hv' := hv.out
        rw [List.drop_eq_nil_of_le (by omega)] at hv'
        have HV2 := Lib.hid hv'
        clear hv hv'
        go_wp2
        go_ret
        exact ⟨by rw [HV2.out]; rfl, hb.out⟩
theorem leftOk_of {q : List S35} (h : q.any oddB = false) : leftOk q := by
  intro x hx
  have h1 : oddB x = false := by
    cases hb : oddB x with
    | false => rfl
    | true =>
      have : q.any oddB = true := List.any_eq_true.2 ⟨x, hx, hb⟩
      rw [this] at h; cases h
  unfold oddB at h1
  simp only [Bool.or_eq_false_iff, decide_eq_false_iff_not] at h1
  omega
set_option maxHeartbeats 8000000 in
set_option maxRecDepth 100000 in
theorem right_any (bp c0 : Nat) (A0 : Option Addr) (l : List S27) (A1 : Option Addr) (c1 : Nat) (q : List S35) (g : Int) (w : World) (hrow : w.heap[bp]? = some (.cells #[.slice A0 l.length c0, .slice A1 q.length c1, .int .i64 g] 56 (0, 0)))
    (hr0 : Kd.C k27 w A0 l.length l) (hr : Kd.C k35 w A1 q.length q) (hN : namesOk l) (hT : Tabs w) (hn : l.length ≤ 140737488355328) (hl : q.length ≤ 140737488355328) :
    Calls Tryd.prog 31 #[.pointer (some ⟨bp, 0, none⟩)] w fun e w' => e = .returned (.bool (rightJ l q g)) ∧ Below w.heap.size w w' := by
  obtain ⟨V, hV⟩ : ∃ V, V = rightJ l q g := ⟨_, rfl⟩
  rw [← hV]
  unfold rightJ usedZ at hV
  have HV := Lib.hid hV
  have HR := Lib.hid hr
  have hsz := heap_lt hrow
  have HS := Lib.hid (contains_strange strangeB (.pointer (some ⟨bp, 0, none⟩)) A0 c0 l w hr0 hn (fun x hx W hb => strange_any _ x W (hN x hx) (hT.below hb)))
  have HO := Lib.hid (fun W (hb : Below w.heap.size w W) => contains_odd oddB (.pointer (some ⟨bp, 0, none⟩)) A1 c1 q W (Kd.C_below hr hb) hl (fun x hx W _ => odd_any _ x W))
  have HW := Lib.hid (fun W => within_any g 0 W)
  have HQ : Hid (q.any oddB = false → leftOk q) := Lib.hid leftOk_of
  have HU : Hid (leftOk q → ∀ W, Below w.heap.size w W → Calls Tryd.prog 34 #[.pointer (some ⟨bp, 0, none⟩)] W fun e w' => e = .returned (.int .i64 (usedFrom (mn (l.length : Int) 121) q)) ∧ Below W.heap.size W w') :=
    Lib.hid (fun hq W hb => used_any bp l.length c0 A0 A1 c1 q g W ((hb.block _ hsz).trans hrow) (Kd.C_below hr hb) hq hn hl)
  have HROW := Lib.hid hrow
  clear hV hr0 hr hN hT
  generalize l.any strangeB = B1 at *
  generalize q.any oddB = B2 at *
  generalize wi g 0 = B3 at *
  generalize usedFrom (mn (l.length : Int) 121) q = U at *
  generalize hm : l.length = m0 at *
  clear hm
  have hmf : ∀ (fn : Fn) (first cap : Array Value) (w : World), (Instr.makeFunc fn first cap).run Tryd.prog w = .ok (.func fn first cap) w := fun _ _ _ _ => rfl
  have a0 : w.cell? ⟨bp, 0, none⟩ = some (.slice A0 m0 c0) := (cell_of_row w bp 0 _ _ _ hrow).trans rfl
  clear hrow
  go_enter Tryd.func31, Tryd.ntmps31
  go_wp2_with (first
    | (go_at_call 47; refine HS.out.mono ?_; rintro x w1 ⟨rfl, hb⟩; have HB1 := Lib.hid hb; clear hb a0; refine (fun (h : Hid _) => h.out) ?_))
  refine Lib.hid ?_
  have HX1 := Lib.hid ((HB1.out.block _ hsz).trans HROW.out)
  have a1 : w1.cell? ⟨bp, 1, none⟩ = some (.slice A1 q.length c1) := (cell_of_row w1 bp 1 _ _ _ HX1.out).trans rfl
  cases B1
  case true =>
    go_wp2
    go_ret
    exact ⟨by rw [HV.out]; rfl, HB1.out⟩
  go_wp2_with (first
    | (go_at_call 48; refine (HO.out w1 HB1.out).mono ?_; rintro x w2 ⟨rfl, hb⟩; have HB2 := Lib.hid (below_then HB1.out HB1.out.size hb); clear hb a1; refine (fun (h : Hid _) => h.out) ?_))
  refine Lib.hid ?_
  have HX2 := Lib.hid ((HB2.out.block _ hsz).trans HROW.out)
  have a2 : w2.cell? ⟨bp, 2, none⟩ = some (.int .i64 g) := (cell_of_row w2 bp 2 _ _ _ HX2.out).trans rfl
  cases B2
  case true =>
    go_wp2
    go_ret
    exact ⟨by rw [HV.out]; rfl, HB2.out⟩
  have HQ2 := Lib.hid (HQ.out rfl)
  go_wp2_with (first
    | (go_at_call 38; refine (HW.out w2).mono ?_; rintro x w3 ⟨rfl, hb⟩; have HB3 := Lib.hid (below_then HB2.out HB2.out.size hb); clear hb a2; refine (fun (h : Hid _) => h.out) ?_))
  refine Lib.hid ?_
  cases B3
  case false =>
    go_wp2
    go_ret
    exact ⟨by rw [HV.out]; rfl, HB3.out⟩
  have HV2 := Lib.hid (show V = (risingB (q.drop 0) && decide (U ≤ 120)) by rw [HV.out]; rfl)
  clear HV HX1 HX2 HB1 HB2 HS HO HW HQ
  go_wp2
  go_loopw [3] (fun i wr => ∃ k : Nat, i = .int .i64 ((k : Int) + 1) ∧ (k + 1 ≤ q.length ∨ k = 0) ∧ Hid (V = (risingB (q.drop k) && decide (U ≤ 120))) ∧ Hid (Below w.heap.size w wr)) (fun i _ => q.length - (intOf i).toNat)
  case atStart => exact ⟨0, rfl, Or.inr rfl, HV2, HB3⟩
  case round =>
    obtain ⟨k, rfl, hk, hv, hb⟩ := hrel
    clear HV2 HB3
    have HX := Lib.hid ((hb.out.block _ hsz).trans HROW.out)
    have b1 : wr.cell? ⟨bp, 1, none⟩ = some (.slice A1 q.length c1) := (cell_of_row wr bp 1 _ _ _ HX.out).trans rfl
    by_cases hlt2 : k + 1 < q.length
    · have hlt' : (k : Int) + 1 < q.length := by omega
      have hk0 : (0 : Int) ≤ k := by omega
      have hv' := hv.out
      rw [risingB_drop q k hlt2] at hv'
      have HV3 := Lib.hid hv'
      clear hv hv'
      obtain ⟨ad, rfl, hcs⟩ := C_q_at (Kd.C_below HR.out hb.out) k (by omega)
      obtain ⟨ad', e1, hcs'⟩ := C_q_at (Kd.C_below HR.out hb.out) (k + 1) hlt2
      obtain rfl := Option.some.inj e1
      have HC := Lib.hid (hcs 0 _ rfl)
      have HC' := Lib.hid (hcs' 0 _ rfl)
      clear hcs hcs' e1
      generalize (q[k]'(by omega)).f0 = x at *
      generalize (q[k + 1]'hlt2).f0 = y at *
      go_wp2
      clear b1
      refine L.grow_start [] 20 ((0, true, false) :: (1, true, false) :: (2, true, false) :: (3, true, false) :: (4, true, false) :: (5, true, false) :: (6, true, false) :: (7, true, false) :: (8, true, false) :: (9, true, false) :: (10, true, false) :: (11, true, false) :: (12, true, false) :: (13, true, false) :: (14, true, false) :: (15, true, true) :: (16, true, true) :: (17, true, true) :: (18, true, true) :: (19, true, true) :: []) (by kernel_rfl) (([], [0], some 41) :: ([0], [41], some 42) :: ([1], [42], some 43) :: ([2], [43], some 44) :: ([3], [44], some 45) :: ([], [3], some 46) :: ([5], [46], some 47) :: ([4, 6], [45, 47], some 48) :: ([7], [48], some 49) :: ([8], [49], some 50) :: ([], [0], some 51) :: ([10], [51], some 52) :: ([11], [52], some 53) :: ([12], [53], some 54) :: ([13], [54], some 55) :: ([], [3], some 56) :: ([14, 15], [55, 56], some 57) :: ([16], [57], some 58) :: ([17], [58], some 59) :: ([9, 18], [50, 59], some 60) :: []) (by kernel_rfl) (by kernel_rfl) (n := 20) rfl (by kernel_rfl) (fun _ _ _ _ _ h => h) (fun wg hog => ?_)
      refine L.growe_start (N := 64) (by rfl) ?_
      have e0 : ∀ w', Only [] wg w' → w'.cell? ⟨bp, 1, none⟩ = some (.slice (some ad) q.length c1) := fun w' q9 => (cell_of_row w' bp 1 _ _ _ ((hog.trans q9).heap HX.out (by simp))).trans rfl
      have e1 : ∀ w', Only [] wg w' → w'.cell? (ad.add (k * 3)) = some (.int .i64 x) := fun w' q9 => by
        have := (hog.trans q9).cell HC.out (by simp)
        rwa [show (ad.add (k * 3)).add 0 = ad.add (k * 3) by simp [Addr.add]] at this
      have e2 : ∀ w', Only [] wg w' → w'.cell? (ad.add ((k + 1) * 3)) = some (.int .i64 y) := fun w' q9 => by
        have := (hog.trans q9).cell HC'.out (by simp)
        rwa [show (ad.add ((k + 1) * 3)).add 0 = ad.add ((k + 1) * 3) by simp [Addr.add]] at this
      have HB4 := Lib.hid (below_then hb.out hb.out.size hog.nil_below)
      have hw : IntKind.i64.wrap (k : Int) = k := by rw [IntKind.wrap_i64]; omega
      have ht : ((k : Int) + 1).toNat = k + 1 := by omega
      have hl3 : (k : Int) < q.length := by omega
      clear hog
      by_cases hxy : x < y
      · have hxy' : ¬ y ≤ x := by omega
        iterate 20 (first | (refine L.ge_off rfl rfl rfl (by rfl) ?_) | (refine L.ge_move rfl rfl rfl (by rfl) rfl (by simp [L.evE, L.lk, Act.eval, hw, ht]; rfl) ?_) | (refine L.ge_pick rfl rfl rfl (by rfl) rfl (by simp [L.evE, L.lk, Act.eval, hw, ht]; rfl) (by simp [L.evE, L.lk, Act.eval, hw, ht]; rfl) ?_) | (refine L.ge_val rfl rfl rfl (by rfl) (by intro w' hw'; simp [execOp, L.evE, L.lk, Act.eval, hw, ht]; go_simp; rfl) ?_))
        refine L.ge_done ?_
        simp only [L.puts, Act.put, goInt, List.setIfInBounds_toArray, List.set_cons_zero, List.set_cons_succ]
        have HV4 := Lib.hid (show V = (risingB (q.drop (k + 1)) && decide (U ≤ 120)) by rw [HV3.out, decide_eq_true hxy, Bool.true_and])
        clear HV3 e0 e1 e2 hw ht
        go_wp2
        go_roundw
        case rel => exact ⟨k + 1, by go_num, Or.inl (by omega), HV4, HB4⟩
        case measure => simp [intOf]; omega
      · have hxy' : y ≤ x := by omega
        iterate 20 (first | (refine L.ge_off rfl rfl rfl (by rfl) ?_) | (refine L.ge_move rfl rfl rfl (by rfl) rfl (by simp [L.evE, L.lk, Act.eval, hw, ht]; rfl) ?_) | (refine L.ge_pick rfl rfl rfl (by rfl) rfl (by simp [L.evE, L.lk, Act.eval, hw, ht]; rfl) (by simp [L.evE, L.lk, Act.eval, hw, ht]; rfl) ?_) | (refine L.ge_val rfl rfl rfl (by rfl) (by intro w' hw'; simp [execOp, L.evE, L.lk, Act.eval, hw, ht]; go_simp; rfl) ?_))
        refine L.ge_done ?_
        simp only [L.puts, Act.put, goInt, List.setIfInBounds_toArray, List.set_cons_zero, List.set_cons_succ]
        clear e0 e1 e2 hw ht
        go_wp2
        go_ret
        exact ⟨by rw [HV3.out, decide_eq_false (show ¬ x < y by omega)]; rfl, HB4.out⟩
    · have hlt' : (q.length : Int) ≤ k + 1 := by omega
      have hv' := hv.out
      rw [risingB_end q k (by omega), Bool.true_and] at hv'
      have HV3 := Lib.hid hv'
      clear hv hv'
      go_wp2_with (go_at_call 34; refine (HU.out HQ2.out wr hb.out).mono ?_; rintro x w3 ⟨rfl, hb3⟩; have HB5 := Lib.hid (below_then hb.out hb.out.size hb3); clear hb3)
      go_ret
      exact ⟨by rw [HV3.out]; rfl, HB5.out⟩
instance (l : List S27) : Decidable (namesOk l) := inferInstanceAs (Decidable (∀ e ∈ l, e.f3.size ≤ 1000000000))
theorem rightJ_left {l : List S27} {q : List S35} {g : Int} (h : rightJ l q g = true) : leftOk q := by
  unfold rightJ at h
  simp only [Bool.and_eq_true, Bool.not_eq_true'] at h
  exact leftOk_of h.1.1.1.2
def journal_Right.f (l0_0 : List S27) (l0_1 : List S35) (a0_2 : Int) : Option Bool := if namesOk l0_0 ∧ l0_0.length ≤ 1000000000 ∧ l0_1.length ≤ 1000000000 then some (rightJ l0_0 l0_1 a0_2) else none
set_option maxHeartbeats 8000000 in
set_option maxRecDepth 100000 in
theorem journal_Right.calls (A0_0 : Option Addr) (c0_0 : Nat) (l0_0 : List S27) (A0_1 : Option Addr) (c0_1 : Nat) (l0_1 : List S35) (a0_2 : Int) (r : Bool) (w : World) (hr0_0 : Kd.C k27 w A0_0 l0_0.length l0_0) (hc0_0 : l0_0.length ≤ c0_0) (hr0_1 : Kd.C k35 w A0_1 l0_1.length l0_1) (hc0_1 : l0_1.length ≤ c0_1) (hT : Tabs w) (h : journal_Right.f l0_0 l0_1 a0_2 = some r) :
    Calls Tryd.prog 14 #[.agg #[.slice A0_0 l0_0.length c0_0, .slice A0_1 l0_1.length c0_1, .int .i64 a0_2]] w fun e w' => e = .returned (.bool r) ∧ Below w.heap.size w w' := by
  unfold journal_Right.f at h
  split at h
  case isFalse => cases h
  rename_i hok
  obtain ⟨hN, hl0, hl1⟩ := hok
  obtain rfl := Option.some.inj h
  clear h
  have hb : Below w.heap.size w ((w.alloc (.cells #[.slice A0_0 l0_0.length c0_0, .slice A0_1 l0_1.length c0_1, .int .i64 a0_2] 25)).alloc (.cells #[.slice A0_0 l0_0.length c0_0, .slice A0_1 l0_1.length c0_1, .int .i64 a0_2] 56)) := ((Below.refl _ _).alloc (Nat.le_refl _) _).alloc (by simp) _
  have hx := heap_alloc_new (w.alloc (.cells #[.slice A0_0 l0_0.length c0_0, .slice A0_1 l0_1.length c0_1, .int .i64 a0_2] 25)) (.cells #[.slice A0_0 l0_0.length c0_0, .slice A0_1 l0_1.length c0_1, .int .i64 a0_2] 56)
  rw [show (w.alloc (.cells #[.slice A0_0 l0_0.length c0_0, .slice A0_1 l0_1.length c0_1, .int .i64 a0_2] 25)).heap.size = w.heap.size + 1 by simp] at hx
  have HC := Lib.hid (right_any (w.heap.size + 1) c0_0 A0_0 l0_0 A0_1 c0_1 l0_1 a0_2 _ hx (Kd.C_below hr0_0 hb) (Kd.C_below hr0_1 hb) hN (hT.below hb) (by omega) (by omega))
  have HB := Lib.hid hb
  have hu := Tryd.underlying25
  clear hx hb hr0_0 hr0_1 hT hN
  generalize rightJ l0_0 l0_1 a0_2 = r at *
  go_enter Tryd.func14, Tryd.ntmps14
  go_wp2_with (go_at_call 31; refine HC.out.mono ?_; rintro e w1 ⟨rfl, hb1⟩; have HB1 := Lib.hid (below_then HB.out HB.out.size hb1); clear hb1)
  go_ret
  exact ⟨rfl, HB1.out⟩
def usedJ (l : List S27) (q : List S35) (g : Int) : Int := if rightJ l q g = true then usedZ l q else 0
def journal_Used.f (l0_0 : List S27) (l0_1 : List S35) (a0_2 : Int) : Option Int := if namesOk l0_0 ∧ l0_0.length ≤ 1000000000 ∧ l0_1.length ≤ 1000000000 then some (usedJ l0_0 l0_1 a0_2) else none
set_option maxHeartbeats 8000000 in
set_option maxRecDepth 100000 in
theorem journal_Used.calls (A0_0 : Option Addr) (c0_0 : Nat) (l0_0 : List S27) (A0_1 : Option Addr) (c0_1 : Nat) (l0_1 : List S35) (a0_2 : Int) (r : Int) (w : World) (hr0_0 : Kd.C k27 w A0_0 l0_0.length l0_0) (hc0_0 : l0_0.length ≤ c0_0) (hr0_1 : Kd.C k35 w A0_1 l0_1.length l0_1) (hc0_1 : l0_1.length ≤ c0_1) (hT : Tabs w) (h : journal_Used.f l0_0 l0_1 a0_2 = some r) :
    Calls Tryd.prog 18 #[.agg #[.slice A0_0 l0_0.length c0_0, .slice A0_1 l0_1.length c0_1, .int .i64 a0_2]] w fun e w' => e = .returned (.int .i64 r) ∧ Below w.heap.size w w' := by
  unfold journal_Used.f at h
  split at h
  case isFalse => cases h
  rename_i hok
  obtain ⟨hN, hl0, hl1⟩ := hok
  obtain rfl := Option.some.inj h
  clear h
  have hb : Below w.heap.size w (w.alloc (.cells #[.slice A0_0 l0_0.length c0_0, .slice A0_1 l0_1.length c0_1, .int .i64 a0_2] 25)) := (Below.refl _ _).alloc (Nat.le_refl _) _
  have hx := heap_alloc_new w (.cells #[.slice A0_0 l0_0.length c0_0, .slice A0_1 l0_1.length c0_1, .int .i64 a0_2] 25)
  have HC := Lib.hid (journal_Right.calls A0_0 c0_0 l0_0 A0_1 c0_1 l0_1 a0_2 (rightJ l0_0 l0_1 a0_2) _ (Kd.C_below hr0_0 hb) hc0_0 (Kd.C_below hr0_1 hb) hc0_1 (hT.below hb) (if_pos ⟨hN, hl0, hl1⟩))
  have HB := Lib.hid hb
  have HX := Lib.hid hx
  have HR := Lib.hid hr0_1
  have hu := Tryd.underlying25
  obtain ⟨V, hV⟩ : ∃ V, V = usedJ l0_0 l0_1 a0_2 := ⟨_, rfl⟩
  rw [← hV]
  have HV := Lib.hid hV
  have HL : Hid (rightJ l0_0 l0_1 a0_2 = true → leftOk l0_1) := Lib.hid rightJ_left
  clear hx hb hr0_0 hr0_1 hT hN hV
  unfold usedJ at HV
  generalize rightJ l0_0 l0_1 a0_2 = r at *
  go_enter Tryd.func18, Tryd.ntmps18
  go_wp2_with (go_at_call 14; refine HC.out.mono ?_; rintro e w1 ⟨rfl, hb1⟩; have HB1 := Lib.hid (below_then HB.out HB.out.size hb1); have HX1 := Lib.hid ((hb1.block _ (by simp)).trans HX.out); clear hb1 HC HX HB; refine (fun (h : Hid _) => h.out) ?_)
  refine Lib.hid ?_
  cases r
  · go_wp2
    go_ret
    exact ⟨by rw [HV.out]; rfl, HB1.out⟩
  have b0 : w1.cell? ⟨w.heap.size, 0, none⟩ = some (.slice A0_0 l0_0.length c0_0) := (cell_of_row w1 w.heap.size 0 _ _ _ HX1.out).trans rfl
  have hc : CellsAt w1 ⟨w.heap.size, 0, none⟩ [.slice A0_0 l0_0.length c0_0, .slice A0_1 l0_1.length c0_1, .int .i64 a0_2] := cellsAt_row HX1.out
  have HCL := Lib.hid hc
  clear b0 hc
  have hx2 := heap_alloc_new w1 (.cells #[.slice A0_0 l0_0.length c0_0, .slice A0_1 l0_1.length c0_1, .int .i64 a0_2] 56)
  have hb2 : Below w1.heap.size w1 (w1.alloc (.cells #[.slice A0_0 l0_0.length c0_0, .slice A0_1 l0_1.length c0_1, .int .i64 a0_2] 56)) := (Below.refl _ _).alloc (Nat.le_refl _) _
  have HU := Lib.hid (used_any w1.heap.size l0_0.length c0_0 A0_0 A0_1 c0_1 l0_1 a0_2 _ hx2 (Kd.C_below (Kd.C_below HR.out HB1.out) hb2) (HL.out rfl) (by omega) (by omega))
  have HB2 := Lib.hid (below_then HB1.out HB1.out.size hb2)
  clear hx2 hb2
  go_wp2_with (first
    | (with_reducible refine wpList_load_at rfl 25 (.tmp 1) rfl ⟨w.heap.size, 0, none⟩ rfl _ _ HCL.out Tryd.underlying25 rfl (by kernel_rfl) ?_)
    | (go_at_call 34; refine HU.out.mono ?_; rintro e w2 ⟨rfl, hb2⟩; have HB3 := Lib.hid (below_then HB2.out HB2.out.size hb2); clear hb2))
  go_ret
  exact ⟨by rw [HV.out]; rfl, HB3.out⟩
end Go.Proofs.YtghpmpjoedbpcaaDoor.Print
/-! ### EJPlace -/
namespace Go.Proofs.YtghpmpjoedbpcaaDoor.Print
open Go.RowKit Go.Proofs.YtghpmpjoedbpcaaDoorW.PrintWords Go.Proofs.YtghpmpjoedbpcaaDoorW.PrintLast Go.Proofs.YtghpmpjoedbpcaaDoorW.PrintMore
set_option linter.unusedSimpArgs false
set_option linter.unusedVariables false
def placeI : List S35 → Int → Nat
  | [], _ => 0
  | x :: q, n => if x.f0 < n then placeI q n + 1 else 0
/-- Has the batch a quota? -/
def placeB (q : List S35) (n : Int) : Bool := match q.drop (placeI q n) with
  | x :: _ => decide (x.f0 = n)
  | [] => false
theorem placeI_is (n : Int) : ∀ (q : List S35) (i : Nat), i ≤ q.length → (∀ k (hk : k < q.length), k < i → q[k].f0 < n) → (∀ k (hk : k < q.length), i ≤ k → n ≤ q[k].f0) → placeI q n = i
  | [], i, hi, _, _ => by simp at hi; simp [placeI, hi]
  | x :: q, 0, _, _, h2 => by
    have := h2 0 (by simp) (Nat.le_refl _)
    unfold placeI
    rw [if_neg (by simpa using this)]
  | x :: q, i + 1, hi, h1, h2 => by
    have := h1 0 (by simp) (by omega)
    unfold placeI
    rw [if_pos (by simpa using this), placeI_is n q i (by simpa using hi) (fun k hk h => h1 (k + 1) (by simpa using hk) (by omega)) (fun k hk h => h2 (k + 1) (by simpa using hk) (by omega))]
theorem rising_head : ∀ (q : List S35) (x : S35), risingB (x :: q) = true → ∀ y ∈ q, x.f0 < y.f0
  | [], _, _ => fun y h => by simp at h
  | z :: q, x, h => by
    have h' : (decide (x.f0 < z.f0) && risingB (z :: q)) = true := h
    simp only [Bool.and_eq_true, decide_eq_true_eq] at h'
    intro y hy
    rcases List.mem_cons.1 hy with rfl | hy
    · exact h'.1
    · have := rising_head q z h'.2 y hy
      omega
theorem rising_tail (q : List S35) (x : S35) (h : risingB (x :: q) = true) : risingB q = true := by
  cases q with
  | nil => rfl
  | cons z q =>
    have h' : (decide (x.f0 < z.f0) && risingB (z :: q)) = true := h
    simp only [Bool.and_eq_true] at h'
    exact h'.2
theorem rising_lt : ∀ (q : List S35), risingB q = true → ∀ (k m : Nat) (hk : k < m) (hm : m < q.length), (q[k]'(by omega)).f0 < q[m].f0
  | [], _, k, m, _, hm => by simp at hm
  | x :: q, h, 0, m + 1, _, hm => by
    exact rising_head q x h (q[m]'(by simpa using hm)) (List.getElem_mem _)
  | x :: q, h, k + 1, m + 1, hk, hm => by
    exact rising_lt q (rising_tail q x h) k m (by omega) (by simpa using hm)
def batchOk (q : List S35) : Prop := ∀ x ∈ q, 0 ≤ x.f0 ∧ x.f0 ≤ 1099511627776
theorem batchOk_of {q : List S35} (h : q.any oddB = false) : batchOk q := by
  intro x hx
  have h1 : oddB x = false := by
    cases hb : oddB x with
    | false => rfl
    | true =>
      have : q.any oddB = true := List.any_eq_true.2 ⟨x, hx, hb⟩
      rw [this] at h; cases h
  unfold oddB wi at h1
  simp only [Bool.or_eq_false_iff, decide_eq_false_iff_not, Bool.not_eq_false', Bool.and_eq_true, decide_eq_true_eq] at h1
  omega
set_option maxHeartbeats 2000000 in
theorem cmp_any (x : S35) (n : Int) (w : World) (h0 : 0 ≤ x.f0) (h1 : x.f0 ≤ 1099511627776) (h2 : 0 ≤ n) (h3 : n ≤ 1099511627776) :
    Calls Tryd.prog 52 #[.agg #[.int .i64 x.f0, .int .i64 x.f1, .int .i64 x.f2], .int .i64 n] w fun e w' => e = .returned (.int .i64 (x.f0 - n)) ∧ Below w.heap.size w w' := by
  have hw : IntKind.i64.wrap (x.f0 - n) = x.f0 - n := by rw [IntKind.wrap_i64]; omega
  go_enter Tryd.func52, Tryd.ntmps52
  go_wp2
  go_ret
  exact ⟨by simp [hw], (Below.refl _ _).alloc (Nat.le_refl _) _⟩
set_option maxHeartbeats 8000000 in
set_option maxRecDepth 100000 in
theorem bs_any (A1 : Option Addr) (c1 : Nat) (q : List S35) (n : Int) (w : World) (hr : Kd.C k35 w A1 q.length q) (hl : q.length ≤ 140737488355328) (hR : risingB q = true) (hB : batchOk q) (h2 : 0 ≤ n) (h3 : n ≤ 1099511627776) :
    Calls Tryd.prog 51 #[.slice A1 q.length c1, .int .i64 n, .func (.func 52) #[] #[]] w fun e w' => e = .returned (.tuple #[.int .i64 (placeI q n), .bool (placeB q n)]) ∧ Below w.heap.size w w' := by
  have HR := Lib.hid hr
  have HS := Lib.hid (rising_lt q hR)
  have HB := Lib.hid hB
  have HC : Hid (∀ x ∈ q, ∀ W, Calls Tryd.prog 52 #[.agg #[.int .i64 x.f0, .int .i64 x.f1, .int .i64 x.f2], .int .i64 n] W fun e w' => e = .returned (.int .i64 (x.f0 - n)) ∧ Below W.heap.size W w') :=
    Lib.hid (fun x hx W => cmp_any x n W (hB x hx).1 (hB x hx).2 h2 h3)
  have HPI := Lib.hid (placeI_is n q)
  clear hr hR hB
  have hu := Tryd.underlying35
  go_enter Tryd.func51, Tryd.ntmps51
  go_wp2
  go_loopw [9, 10, 11] (fun si sj _ wr => ∃ (i j : Nat), si = .int .i64 i ∧ sj = .int .i64 j ∧ i ≤ j ∧ j ≤ q.length ∧ Hid (∀ k (hk : k < q.length), k < i → q[k].f0 < n) ∧ Hid (∀ k (hk : k < q.length), j ≤ k → n ≤ q[k].f0) ∧ Hid (Below w.heap.size w wr)) (fun si sj _ _ => (intOf sj).toNat - (intOf si).toNat)
  case atStart => exact ⟨0, q.length, rfl, rfl, by omega, by omega, Lib.hid (fun k _ h => by omega), Lib.hid (fun k hk h => by omega), Lib.hid (Below.refl _ _)⟩
  case round =>
    obtain ⟨i, j, rfl, rfl, hij, hj, hlo, hhi, hb⟩ := hrel
    by_cases hlt : i < j
    · have hlt' : (i : Int) < j := by omega
      obtain ⟨h, hh⟩ : ∃ h, h = (i + j) / 2 := ⟨_, rfl⟩
      have hhi2 : i ≤ h ∧ h < j := by omega
      have hh2 : ((i : Int) + j) / 2 = (h : Int) := by omega
      have hql : h < q.length := by omega
      have hql' : (h : Int) < q.length := by omega
      have hh0 : (0 : Int) ≤ h := by omega
      clear hh
      obtain ⟨ad, rfl, hcs⟩ := C_q_at (Kd.C_below HR.out hb.out) h hql
      have HCS := Lib.hid (show CellsAt wr (ad.add (h * 3)) [.int .i64 q[h].f0, .int .i64 q[h].f1, .int .i64 q[h].f2] from hcs)
      have HCX := Lib.hid (HC.out q[h] (List.getElem_mem hql))
      have HX : Hid (∀ k (hk : k < q.length), k < h → q[k].f0 < q[h].f0) := Lib.hid (fun k hk hkh => HS.out k h hkh hql)
      have HY : Hid (∀ k (hk : k < q.length), h < k → q[h].f0 < q[k].f0) := Lib.hid (fun k hk hkh => HS.out h k hkh hk)
      have HZ := Lib.hid (fun k (hk : k < q.length) (e : k = h) => by subst e; exact (rfl : q[k].f0 = q[k].f0))
      have HE : Hid (∀ k (hk : k < q.length), k = h → q[k] = q[h]) := Lib.hid (fun k hk e => by subst e; rfl)
      clear hcs HZ
      generalize q[h] = x at *
      by_cases hx : x.f0 < n
      · have hx' : x.f0 - n < 0 := by omega
        go_wp2_with (first
          | (with_reducible refine wpList_load_at rfl 35 (.tmp 27) rfl (ad.add (h * 3)) rfl _ _ HCS.out Tryd.underlying35 rfl (by kernel_rfl) ?_)
          | (go_at_call 52; refine (HCX.out wr).mono ?_; rintro e w1 ⟨rfl, hb1⟩; have HB1 := Lib.hid (below_then hb.out hb.out.size hb1); clear hb1))
        go_roundw
        case rel =>
          refine ⟨h + 1, j, by go_num, rfl, by omega, by omega, Lib.hid (fun k hk hkh => ?_), hhi, HB1⟩
          rcases Nat.lt_or_ge k h with h9 | h9
          · have := HX.out k hk h9
            omega
          · rw [HE.out k hk (by omega)]; exact hx
        case measure => simp [intOf]; omega
      · have hx' : ¬ x.f0 - n < 0 := by omega
        have hx2 : 0 ≤ x.f0 - n := by omega
        go_wp2_with (first
          | (with_reducible refine wpList_load_at rfl 35 (.tmp 27) rfl (ad.add (h * 3)) rfl _ _ HCS.out Tryd.underlying35 rfl (by kernel_rfl) ?_)
          | (go_at_call 52; refine (HCX.out wr).mono ?_; rintro e w1 ⟨rfl, hb1⟩; have HB1 := Lib.hid (below_then hb.out hb.out.size hb1); clear hb1))
        go_roundw
        case rel =>
          refine ⟨i, h, rfl, rfl, by omega, by omega, hlo, Lib.hid (fun k hk hkh => ?_), HB1⟩
          rcases Nat.lt_or_ge h k with h9 | h9
          · have := HY.out k hk h9
            omega
          · rw [HE.out k hk (by omega)]; omega
        case measure => simp [intOf]; omega
    · obtain rfl : i = j := by omega
      have HP := Lib.hid (HPI.out i hj hlo.out hhi.out)
      by_cases hlt2 : i < q.length
      · have hlt' : (i : Int) < q.length := by omega
        have hi0 : (0 : Int) ≤ i := by omega
        obtain ⟨ad, rfl, hcs⟩ := C_q_at (Kd.C_below HR.out hb.out) i hlt2
        have HCS := Lib.hid (show CellsAt wr (ad.add (i * 3)) [.int .i64 q[i].f0, .int .i64 q[i].f1, .int .i64 q[i].f2] from hcs)
        have HCX := Lib.hid (HC.out q[i] (List.getElem_mem hlt2))
        have HV : Hid (placeB q n = decide (q[i].f0 = n)) := Lib.hid (by unfold placeB; rw [HP.out, List.drop_eq_getElem_cons hlt2])
        clear hcs
        generalize q[i] = x at *
        have d0 : wr.cell? (ad.add (i * 3)) = some (.int .i64 x.f0) := by have := HCS.out 0 _ rfl; rwa [Go.Deep.add_add, Nat.add_zero] at this
        have d1 : wr.cell? ⟨(ad.add (i * 3)).block, (ad.add (i * 3)).off + 1, none⟩ = some (.int .i64 x.f1) := by rw [← add_field _ _ 1 (by omega)]; have := HCS.out 1 _ rfl; rwa [Go.Deep.add_add] at this
        have d2 : wr.cell? ⟨(ad.add (i * 3)).block, (ad.add (i * 3)).off + 2, none⟩ = some (.int .i64 x.f2) := by rw [← add_field _ _ 2 (by omega)]; have := HCS.out 2 _ rfl; rwa [Go.Deep.add_add] at this
        by_cases hx : x.f0 = n
        · have hx' : x.f0 - n = 0 := by omega
          have HV2 := Lib.hid (show placeB q n = true by rw [HV.out]; simpa using hx)
          have HX := Lib.hid hx
          have HX' := Lib.hid hx'
          clear hx hx' HV
          go_wp2_with (first
            | (go_at_call 52; refine (HCX.out wr).mono ?_; rintro e w1 ⟨rfl, hb1⟩; have HB1 := Lib.hid (below_then hb.out hb.out.size hb1); clear hb1; rw [HX'.out]))
          go_ret2
          exact ⟨by rw [HP.out, HV2.out]; rfl, HB1.out⟩
        · have hx' : ¬ x.f0 - n = 0 := by omega
          have hx2 : ((x.f0 - n) == 0) = false := by rw [beq_eq_false_iff_ne]; exact hx'
          have HV2 := Lib.hid (show placeB q n = false by rw [HV.out]; simpa using hx)
          clear hx HV
          generalize x.f0 - n = dd at *
          go_wp2_with (first
            | (go_at_call 52; refine (HCX.out wr).mono ?_; rintro e w1 ⟨rfl, hb1⟩; have HB1 := Lib.hid (below_then hb.out hb.out.size hb1); clear hb1))
          go_ret2
          exact ⟨by rw [HP.out, HV2.out]; rfl, HB1.out⟩
      · have hlt' : (q.length : Int) ≤ i := by omega
        have HV2 : Hid (placeB q n = false) := Lib.hid (by unfold placeB; rw [HP.out, List.drop_eq_nil_of_le (by omega)])
        go_wp2
        go_ret2
        exact ⟨by rw [HP.out, HV2.out]; rfl, hb.out⟩
set_option maxHeartbeats 8000000 in
set_option maxRecDepth 100000 in
theorem place_any (bp n0 c0 : Nat) (A0 : Option Addr) (A1 : Option Addr) (c1 : Nat) (q : List S35) (g n : Int) (w : World) (hrow : w.heap[bp]? = some (.cells #[.slice A0 n0 c0, .slice A1 q.length c1, .int .i64 g] 56 (0, 0)))
    (hr : Kd.C k35 w A1 q.length q) (hl : q.length ≤ 140737488355328) (hR : risingB q = true) (hB : batchOk q) (h2 : 0 ≤ n) (h3 : n ≤ 1099511627776) :
    Calls Tryd.prog 33 #[.pointer (some ⟨bp, 0, none⟩), .int .i64 n] w fun e w' => e = .returned (.tuple #[.int .i64 (placeI q n), .bool (placeB q n)]) ∧ Below w.heap.size w w' := by
  have HC := Lib.hid (bs_any A1 c1 q n w hr hl hR hB h2 h3)
  have a1 : w.cell? ⟨bp, 1, none⟩ = some (.slice A1 q.length c1) := (cell_of_row w bp 1 _ _ _ hrow).trans rfl
  clear hr hR hB hrow
  generalize (placeI q n : Int) = pi at *
  generalize placeB q n = pb at *
  go_enter Tryd.func33, Tryd.ntmps33
  go_wp2_with (go_at_call 51; refine HC.out.mono ?_; rintro e w1 ⟨rfl, hb⟩; have HB := Lib.hid hb; clear hb)
  go_ret2
  exact ⟨rfl, HB.out⟩
end Go.Proofs.YtghpmpjoedbpcaaDoor.Print
/-! ### EJSl -/
namespace Go.Proofs.YtghpmpjoedbpcaaDoor.Print
open Go.RowKit Go.Proofs.YtghpmpjoedbpcaaDoorW.PrintWords Go.Proofs.YtghpmpjoedbpcaaDoorW.PrintLast Go.Proofs.YtghpmpjoedbpcaaDoorW.PrintMore
set_option linter.unusedSimpArgs false
set_option linter.unusedVariables false
theorem info227 : (Tryd.prog.info? 27).map (fun i => (i.zero, i.size)) = some (some (.agg #[.int .i64 0, .int .i64 0, .int .i64 0, .string ⟨#[]⟩, .int .i64 0, .int .i64 0]), 6) := by kernel_rfl
theorem info235 : (Tryd.prog.info? 35).map (fun i => (i.zero, i.size)) = some (some (.agg #[.int .i64 0, .int .i64 0, .int .i64 0]), 3) := by kernel_rfl
theorem size_27 : (Tryd.prog.info? 27).map (·.size) = some 6 := by kernel_rfl
theorem size_35 : (Tryd.prog.info? 35).map (·.size) = some 3 := by kernel_rfl
theorem below_only_new {w w' : World} {o : Obj} (h : Only [w.heap.size] (w.alloc o) w') : Only [] w w' := ((Only.refl [w.heap.size] w).alloc _ |>.then h (by intro i hi; simp at hi; left; simp [hi])).pop (Nat.le_refl _)
theorem take_splice_mid (xs ys : List Value) (off k : Nat) (hk : off + ys.length ≤ xs.length) (h : k = off + ys.length) : (splice xs off ys).take k = xs.take off ++ ys := by
  subst h
  have e : splice xs off ys = (xs.take off ++ ys) ++ xs.drop (off + ys.length) := by unfold splice; simp
  have hl : off + ys.length = (xs.take off ++ ys).length := by rw [List.length_append, List.length_take, Nat.min_eq_left (by omega)]
  rw [e, hl, List.take_left]
theorem take_splice_low (xs ys : List Value) (off k : Nat) (hk : k ≤ off) (ho : off ≤ xs.length) : (splice xs off ys).take k = xs.take k := by
  have e : splice xs off ys = xs.take off ++ (ys ++ xs.drop (off + ys.length)) := by unfold splice; simp
  rw [e, List.take_append_of_le_length (by rw [List.length_take, Nat.min_eq_left ho]; exact hk), List.take_take, Nat.min_eq_left hk]
theorem length_splice (xs ys : List Value) (off : Nat) (hk : off + ys.length ≤ xs.length) : (splice xs off ys).length = xs.length := by
  unfold splice
  simp only [List.length_append, List.length_take, List.length_drop]
  rw [Nat.min_eq_left (by omega)]
  omega
set_option maxHeartbeats 8000000 in
set_option maxRecDepth 100000 in
theorem clone_e (A : Option Addr) (c : Nat) (l : List S27) (w : World) (hr : Kd.C k27 w A l.length l) (hl : l.length ≤ 1000000000) :
    Calls Tryd.prog 36 #[.slice A l.length c] w fun e w' => ∃ v, e = .returned v ∧ w'.ownsRow w.heap.size 27 6 v l.length (eRow l) ∧ Only [] w w' := by
  have q : ∀ (w : World) (a : Option Addr) (n c n' c' : Nat), (binOp .eql 22 (.slice a n c) (.slice none n' c')).run Tryd.prog w = .ok (.bool a.isNone) w := fun w a n c n' c' => Lib.run_eql_slice_nil w _ _ a n c n' c' Tryd.underlying22
  have ha := flat_e hr
  cases A with
  | none =>
    have h0 : l = [] := by
      rcases Nat.eq_zero_or_pos l.length with h | h
      · exact List.eq_nil_of_length_eq_zero h
      · obtain ⟨ad, h1, _⟩ := ha h
        cases h1
    subst h0
    clear ha hr
    go_enter Tryd.func36, Tryd.ntmps36
    go_wp2
    go_ret
    exact ⟨_, rfl, ownsRow_nil _ _ _ _, Only.refl _ _⟩
  | some ad =>
    have HL := Lib.hid (eRow_length l)
    have HA := Lib.hid ha
    have HO := Lib.hid (eRow_one l)
    clear hr ha
    generalize hm : l.length = m at *
    generalize hn : eRow l = news at *
    clear hm hn
    go_enter Tryd.func36, Tryd.ntmps36
    go_wp2_with (at_builtin; refine wpList_append_row rfl _ _ 22 rfl w.heap.size 27 6 56 (.agg #[.int .i64 0, .int .i64 0, .int .i64 0, .string ⟨#[]⟩, .int .i64 0, .int .i64 0]) Tryd.underlying22 info27 rfl (by omega) (.slice (some ⟨w.heap.size, 0, none⟩) 0 0) 0 [] rfl (World.ownsRow_made w #[] 0 (Nat.le_refl _) (Nat.zero_le _) (by simp)) (some ad) m c news rfl HL.out (fun hp => by obtain ⟨a2, h1, h2⟩ := HA.out hp; exact ⟨a2, h1, h2.below ((Below.refl _ _).alloc (Nat.le_refl _) _)⟩) HO.out (by unfold maxLen; omega) (by omega) (by simp) ?_; intro A' c' w' h2 h3 h4; have H2 := Lib.hid h2; have H3 := Lib.hid h3; clear h2 h3 h4)
    go_ret
    have h2 := H2.out
    rw [Nat.zero_add, List.nil_append] at h2
    refine ⟨_, rfl, h2, below_only_new (o := .cells #[] 27) ?_⟩
    have := H3.out
    simpa [Value.ownBlock] using this
set_option maxHeartbeats 8000000 in
set_option maxRecDepth 100000 in
theorem delete_e (g c i j n : Nat) (cur : List Value) (w : World) (hg : w.heap[g]? = some (.cells cur.toArray 27 (0, 0))) (hcl : cur.length = c * 6) (h1 : ∀ u ∈ cur.take (n * 6), u.oneCell' = true) (hn : n ≤ c) (hc : c ≤ 9223372036854775807) (hij : i < j) (hj : j ≤ n) :
    Calls Tryd.prog 45 #[.slice (some ⟨g, 0, none⟩) n c, .int .i64 i, .int .i64 j] w fun e w' => ∃ cur' : List Value, e = .returned (.slice (some ⟨g, 0, none⟩) (n - (j - i)) c) ∧ w'.heap[g]? = some (.cells cur'.toArray 27 (0, 0)) ∧ cur'.length = c * 6 ∧
      cur'.take ((n - (j - i)) * 6) = cur.take (i * 6) ++ ((cur.drop (j * 6)).take ((n - j) * 6)) ∧ Only [g] w w' := by
  have HG := Lib.hid hg
  have HCL := Lib.hid hcl
  have HO := Lib.hid h1
  clear hg hcl h1
  have hne : ¬ (i : Int) = j := by omega
  have hi0 : (0 : Int) ≤ i := by omega
  obtain ⟨news, hnews⟩ : ∃ news, news = ((cur.drop (j * 6)).take ((n - j) * 6)) := ⟨_, rfl⟩
  have HNL := Lib.hid (show news.length = (n - j) * 6 by
    rw [hnews]
    simp
    have := HCL.out
    omega)
  have HN1 := Lib.hid (show ∀ u ∈ news, u.oneCell' = true from fun u hu => HO.out u (by rw [hnews, show (n - j) * 6 = n * 6 - j * 6 by omega, ← List.drop_take] at hu; exact List.mem_of_mem_drop hu))
  have HNA := Lib.hid (show ∀ w' : World, w'.heap[g]? = some (.cells cur.toArray 27 (0, 0)) → 0 < n - j → ∃ ad, cutN (some ⟨g, 0, none⟩) j c 6 = some ad ∧ CellsAt w' ad news from fun w' hw' hp => by
    refine ⟨_, cutN_at g 0 j c 6 (by omega), ?_⟩
    intro t u hu
    have e : (⟨g, 0 + j * 6, none⟩ : Addr).add t = ⟨g, j * 6 + t, none⟩ := by unfold Addr.add; split <;> simp_all
    rw [e, cell_of_row w' g _ _ _ _ hw']
    rw [hnews, List.getElem?_take] at hu
    split at hu
    · rw [List.getElem?_drop] at hu
      simpa using hu
    · cases hu)
  rw [← hnews]
  clear hnews
  go_enter Tryd.func45, Tryd.ntmps45
  go_wp2_with (first
    | (with_reducible refine wpList_cutN 27 6 Tryd.underlying22 size_27 (some ⟨g, 0, none⟩) n c rfl i j n (bounds_lhm w n c _ _ _ _ _ _ i j n rfl rfl rfl (by omega) (by omega) (by omega)) ?_)
    | fail)
  refine L.grow_start [g] 8 ((0, true, false) :: (1, true, false) :: (2, true, false) :: (3, true, false) :: (4, true, true) :: (5, true, true) :: (6, false, true) :: (7, true, true) :: []) (by kernel_rfl) (([], [0], some 20) :: ([], [1], some 21) :: ([0, 1], [20, 21], some 22) :: ([], [0], some 23) :: ([], [2], some 24) :: ([3, 4], [23, 24], some 25) :: ([2, 5], [22, 25], some 26) :: ([6, 6, 0, 1, 2, 3, 4, 5, 6], [26], some 0) :: []) (by kernel_rfl) (by kernel_rfl) (n := 8) rfl (by kernel_rfl) (fun _ _ _ _ _ h => h) (fun wg hog => ?_)
  refine L.growe_start (N := 33) (by rfl) ?_
  have HG2 := Lib.hid (hog.heap HG.out (by simp))
  have HOg := Lib.hid hog
  clear hog
  iterate 2 (first | (refine L.ge_off rfl rfl rfl (by rfl) ?_) | (refine L.ge_move rfl rfl rfl (by rfl) rfl (by simp [L.evE, L.lk, Act.eval]; rfl) ?_) | (refine L.ge_pick rfl rfl rfl (by rfl) rfl (by simp [L.evE, L.lk, Act.eval]; rfl) (by simp [L.evE, L.lk, Act.eval]; rfl) ?_) | (refine L.ge_val rfl rfl rfl (by rfl) (by intro w' hw'; simp [execOp, L.evE, L.lk, Act.eval]; go_simp; rfl) ?_))
  refine ge_cutN rfl rfl rfl (by rfl) _ _ _ _ _ rfl 27 6 Tryd.underlying22 size_27 (some ⟨g, 0, none⟩) n c (by simp [L.evE, L.lk, Act.eval]) 0 i c (fun w' => by simp [L.evE, L.lk, Act.eval]; exact bounds_h w' n c _ _ i rfl (by omega)) ?_
  iterate 2 (first | (refine L.ge_off rfl rfl rfl (by rfl) ?_) | (refine L.ge_move rfl rfl rfl (by rfl) rfl (by simp [L.evE, L.lk, Act.eval]; rfl) ?_) | (refine L.ge_pick rfl rfl rfl (by rfl) rfl (by simp [L.evE, L.lk, Act.eval]; rfl) (by simp [L.evE, L.lk, Act.eval]; rfl) ?_) | (refine L.ge_val rfl rfl rfl (by rfl) (by intro w' hw'; simp [execOp, L.evE, L.lk, Act.eval]; go_simp; rfl) ?_))
  refine ge_cutN rfl rfl rfl (by rfl) _ _ _ _ _ rfl 27 6 Tryd.underlying22 size_27 (some ⟨g, 0, none⟩) n c (by simp [L.evE, L.lk, Act.eval]) j n c (fun w' => by simp [L.evE, L.lk, Act.eval]; exact bounds_l w' n c _ _ j rfl (by omega)) ?_
  refine ge_append_in rfl rfl rfl (by rfl) _ _ _ rfl 27 6 Tryd.underlying22 size_27 g i c (by simp [L.evE, L.lk, Act.eval, cutN_zero]) cur HG2.out (cutN (some ⟨g, 0, none⟩) j c 6) (n - j) (c - j) (by simp [L.evE, L.lk, Act.eval]) news HNL.out (HNA.out _ HG2.out) HN1.out (by omega) (by rw [HNL.out, HCL.out]; omega) (by simp) ?_
  intro w2 hg2 ho2
  clear HG2
  iterate 1 (first | (refine L.ge_off rfl rfl rfl (by rfl) ?_) | (refine L.ge_move rfl rfl rfl (by rfl) rfl (by simp [L.evE, L.lk, Act.eval]; rfl) ?_) | (refine L.ge_pick rfl rfl rfl (by rfl) rfl (by simp [L.evE, L.lk, Act.eval]; rfl) (by simp [L.evE, L.lk, Act.eval]; rfl) ?_) | (refine L.ge_val rfl rfl rfl (by rfl) (by intro w' hw'; simp [execOp, L.evE, L.lk, Act.eval]; go_simp; rfl) ?_))
  refine L.ge_done ?_
  simp only [L.puts, Act.put, goInt, List.setIfInBounds_toArray, List.set_cons_zero, List.set_cons_succ]
  have HW := Lib.hid ((HOg.out.mono (T := [g]) (by simp)).trans ho2.out)
  clear ho2 HOg
  obtain ⟨m, hm⟩ : ∃ m, m = i + (n - j) := ⟨_, rfl⟩
  have e1 : n - (j - i) = m := by omega
  have E1 := Lib.hid e1
  have HM := Lib.hid hm
  rw [← hm]
  clear e1 hm
  have hmn : m ≤ n := by have := HM.out; omega
  have hmn2 : (m : Int) ≤ n := by omega
  have hsl : (splice cur (i * 6) news).length = c * 6 := by rw [length_splice _ _ _ (by rw [HNL.out, HCL.out]; omega)]; exact HCL.out
  have HSL := Lib.hid hsl
  have HTK := Lib.hid (show (splice cur (i * 6) news).take (m * 6) = cur.take (i * 6) ++ news from take_splice_mid _ _ _ _ (by rw [HNL.out, HCL.out]; omega) (by rw [HNL.out, HM.out]; omega))
  clear hsl
  generalize splice cur (i * 6) news = cur2 at *
  go_wp2_with (first
    | (with_reducible refine wpList_cutN 27 6 Tryd.underlying22 size_27 (some ⟨g, 0, none⟩) m c rfl m n c (bounds_lh _ m c _ _ _ _ m n rfl rfl (by omega) (by omega)) ?_)
    | (with_reducible refine wpList_clear_in 27 6 (.agg #[.int .i64 0, .int .i64 0, .int .i64 0, .string ⟨#[]⟩, .int .i64 0, .int .i64 0]) Tryd.underlying22 info227 rfl (by simp [Value.cells, Value.oneCell']) g (m * 6) (n - m) (c - m) (cutN (some ⟨g, 0, none⟩) m c 6) rfl (fun hp => by rw [cutN_at g 0 m c 6 (by omega), Nat.zero_add]) cur2 hg2.out (by rw [HSL.out]; omega) ?_; intro w3 zs hz h3 ho3))
  go_ret
  rw [E1.out]
  refine ⟨splice cur2 (m * 6) zs, rfl, h3.out, ?_, ?_, HW.out.trans ho3.out⟩
  · rw [length_splice _ _ _ (by rw [hz, HSL.out]; omega)]
    exact HSL.out
  · rw [take_splice_low _ _ _ _ (Nat.le_refl _) (by rw [HSL.out]; omega)]
    exact HTK.out
set_option maxHeartbeats 8000000 in
set_option maxRecDepth 100000 in
theorem clone_q (A : Option Addr) (c : Nat) (l : List S35) (w : World) (hr : Kd.C k35 w A l.length l) (hl : l.length ≤ 1000000000) :
    Calls Tryd.prog 46 #[.slice A l.length c] w fun e w' => ∃ v, e = .returned v ∧ w'.ownsRow w.heap.size 35 3 v l.length (qRow l) ∧ Only [] w w' := by
  have q : ∀ (w : World) (a : Option Addr) (n c n' c' : Nat), (binOp .eql 23 (.slice a n c) (.slice none n' c')).run Tryd.prog w = .ok (.bool a.isNone) w := fun w a n c n' c' => Lib.run_eql_slice_nil w _ _ a n c n' c' Tryd.underlying23
  have ha := flat_q hr
  cases A with
  | none =>
    have h0 : l = [] := by
      rcases Nat.eq_zero_or_pos l.length with h | h
      · exact List.eq_nil_of_length_eq_zero h
      · obtain ⟨ad, h1, _⟩ := ha h
        cases h1
    subst h0
    clear ha hr
    go_enter Tryd.func46, Tryd.ntmps46
    go_wp2
    go_ret
    exact ⟨_, rfl, ownsRow_nil _ _ _ _, Only.refl _ _⟩
  | some ad =>
    have HL := Lib.hid (qRow_length l)
    have HA := Lib.hid ha
    have HO := Lib.hid (qRow_one l)
    clear hr ha
    generalize hm : l.length = m at *
    generalize hn : qRow l = news at *
    clear hm hn
    go_enter Tryd.func46, Tryd.ntmps46
    go_wp2_with (at_builtin; refine wpList_append_row rfl _ _ 23 rfl w.heap.size 35 3 24 (.agg #[.int .i64 0, .int .i64 0, .int .i64 0]) Tryd.underlying23 info35 rfl (by omega) (.slice (some ⟨w.heap.size, 0, none⟩) 0 0) 0 [] rfl (World.ownsRow_made w #[] 0 (Nat.le_refl _) (Nat.zero_le _) (by simp)) (some ad) m c news rfl HL.out (fun hp => by obtain ⟨a2, h1, h2⟩ := HA.out hp; exact ⟨a2, h1, h2.below ((Below.refl _ _).alloc (Nat.le_refl _) _)⟩) HO.out (by unfold maxLen; omega) (by omega) (by simp) ?_; intro A' c' w' h2 h3 h4; have H2 := Lib.hid h2; have H3 := Lib.hid h3; clear h2 h3 h4)
    go_ret
    have h2 := H2.out
    rw [Nat.zero_add, List.nil_append] at h2
    refine ⟨_, rfl, h2, below_only_new (o := .cells #[] 35) ?_⟩
    have := H3.out
    simpa [Value.ownBlock] using this
set_option maxHeartbeats 8000000 in
set_option maxRecDepth 100000 in
theorem delete_q (g c i j n : Nat) (cur : List Value) (w : World) (hg : w.heap[g]? = some (.cells cur.toArray 35 (0, 0))) (hcl : cur.length = c * 3) (h1 : ∀ u ∈ cur.take (n * 3), u.oneCell' = true) (hn : n ≤ c) (hc : c ≤ 9223372036854775807) (hij : i < j) (hj : j ≤ n) :
    Calls Tryd.prog 43 #[.slice (some ⟨g, 0, none⟩) n c, .int .i64 i, .int .i64 j] w fun e w' => ∃ cur' : List Value, e = .returned (.slice (some ⟨g, 0, none⟩) (n - (j - i)) c) ∧ w'.heap[g]? = some (.cells cur'.toArray 35 (0, 0)) ∧ cur'.length = c * 3 ∧
      cur'.take ((n - (j - i)) * 3) = cur.take (i * 3) ++ ((cur.drop (j * 3)).take ((n - j) * 3)) ∧ Only [g] w w' := by
  have HG := Lib.hid hg
  have HCL := Lib.hid hcl
  have HO := Lib.hid h1
  clear hg hcl h1
  have hne : ¬ (i : Int) = j := by omega
  have hi0 : (0 : Int) ≤ i := by omega
  obtain ⟨news, hnews⟩ : ∃ news, news = ((cur.drop (j * 3)).take ((n - j) * 3)) := ⟨_, rfl⟩
  have HNL := Lib.hid (show news.length = (n - j) * 3 by
    rw [hnews]
    simp
    have := HCL.out
    omega)
  have HN1 := Lib.hid (show ∀ u ∈ news, u.oneCell' = true from fun u hu => HO.out u (by rw [hnews, show (n - j) * 3 = n * 3 - j * 3 by omega, ← List.drop_take] at hu; exact List.mem_of_mem_drop hu))
  have HNA := Lib.hid (show ∀ w' : World, w'.heap[g]? = some (.cells cur.toArray 35 (0, 0)) → 0 < n - j → ∃ ad, cutN (some ⟨g, 0, none⟩) j c 3 = some ad ∧ CellsAt w' ad news from fun w' hw' hp => by
    refine ⟨_, cutN_at g 0 j c 3 (by omega), ?_⟩
    intro t u hu
    have e : (⟨g, 0 + j * 3, none⟩ : Addr).add t = ⟨g, j * 3 + t, none⟩ := by unfold Addr.add; split <;> simp_all
    rw [e, cell_of_row w' g _ _ _ _ hw']
    rw [hnews, List.getElem?_take] at hu
    split at hu
    · rw [List.getElem?_drop] at hu
      simpa using hu
    · cases hu)
  rw [← hnews]
  clear hnews
  go_enter Tryd.func43, Tryd.ntmps43
  go_wp2_with (first
    | (with_reducible refine wpList_cutN 35 3 Tryd.underlying23 size_35 (some ⟨g, 0, none⟩) n c rfl i j n (bounds_lhm w n c _ _ _ _ _ _ i j n rfl rfl rfl (by omega) (by omega) (by omega)) ?_)
    | fail)
  refine L.grow_start [g] 8 ((0, true, false) :: (1, true, false) :: (2, true, false) :: (3, true, false) :: (4, true, true) :: (5, true, true) :: (6, false, true) :: (7, true, true) :: []) (by kernel_rfl) (([], [0], some 20) :: ([], [1], some 21) :: ([0, 1], [20, 21], some 22) :: ([], [0], some 23) :: ([], [2], some 24) :: ([3, 4], [23, 24], some 25) :: ([2, 5], [22, 25], some 26) :: ([6, 6, 0, 1, 2, 3, 4, 5, 6], [26], some 0) :: []) (by kernel_rfl) (by kernel_rfl) (n := 8) rfl (by kernel_rfl) (fun _ _ _ _ _ h => h) (fun wg hog => ?_)
  refine L.growe_start (N := 33) (by rfl) ?_
  have HG2 := Lib.hid (hog.heap HG.out (by simp))
  have HOg := Lib.hid hog
  clear hog
  iterate 2 (first | (refine L.ge_off rfl rfl rfl (by rfl) ?_) | (refine L.ge_move rfl rfl rfl (by rfl) rfl (by simp [L.evE, L.lk, Act.eval]; rfl) ?_) | (refine L.ge_pick rfl rfl rfl (by rfl) rfl (by simp [L.evE, L.lk, Act.eval]; rfl) (by simp [L.evE, L.lk, Act.eval]; rfl) ?_) | (refine L.ge_val rfl rfl rfl (by rfl) (by intro w' hw'; simp [execOp, L.evE, L.lk, Act.eval]; go_simp; rfl) ?_))
  refine ge_cutN rfl rfl rfl (by rfl) _ _ _ _ _ rfl 35 3 Tryd.underlying23 size_35 (some ⟨g, 0, none⟩) n c (by simp [L.evE, L.lk, Act.eval]) 0 i c (fun w' => by simp [L.evE, L.lk, Act.eval]; exact bounds_h w' n c _ _ i rfl (by omega)) ?_
  iterate 2 (first | (refine L.ge_off rfl rfl rfl (by rfl) ?_) | (refine L.ge_move rfl rfl rfl (by rfl) rfl (by simp [L.evE, L.lk, Act.eval]; rfl) ?_) | (refine L.ge_pick rfl rfl rfl (by rfl) rfl (by simp [L.evE, L.lk, Act.eval]; rfl) (by simp [L.evE, L.lk, Act.eval]; rfl) ?_) | (refine L.ge_val rfl rfl rfl (by rfl) (by intro w' hw'; simp [execOp, L.evE, L.lk, Act.eval]; go_simp; rfl) ?_))
  refine ge_cutN rfl rfl rfl (by rfl) _ _ _ _ _ rfl 35 3 Tryd.underlying23 size_35 (some ⟨g, 0, none⟩) n c (by simp [L.evE, L.lk, Act.eval]) j n c (fun w' => by simp [L.evE, L.lk, Act.eval]; exact bounds_l w' n c _ _ j rfl (by omega)) ?_
  refine ge_append_in rfl rfl rfl (by rfl) _ _ _ rfl 35 3 Tryd.underlying23 size_35 g i c (by simp [L.evE, L.lk, Act.eval, cutN_zero]) cur HG2.out (cutN (some ⟨g, 0, none⟩) j c 3) (n - j) (c - j) (by simp [L.evE, L.lk, Act.eval]) news HNL.out (HNA.out _ HG2.out) HN1.out (by omega) (by rw [HNL.out, HCL.out]; omega) (by simp) ?_
  intro w2 hg2 ho2
  clear HG2
  iterate 1 (first | (refine L.ge_off rfl rfl rfl (by rfl) ?_) | (refine L.ge_move rfl rfl rfl (by rfl) rfl (by simp [L.evE, L.lk, Act.eval]; rfl) ?_) | (refine L.ge_pick rfl rfl rfl (by rfl) rfl (by simp [L.evE, L.lk, Act.eval]; rfl) (by simp [L.evE, L.lk, Act.eval]; rfl) ?_) | (refine L.ge_val rfl rfl rfl (by rfl) (by intro w' hw'; simp [execOp, L.evE, L.lk, Act.eval]; go_simp; rfl) ?_))
  refine L.ge_done ?_
  simp only [L.puts, Act.put, goInt, List.setIfInBounds_toArray, List.set_cons_zero, List.set_cons_succ]
  have HW := Lib.hid ((HOg.out.mono (T := [g]) (by simp)).trans ho2.out)
  clear ho2 HOg
  obtain ⟨m, hm⟩ : ∃ m, m = i + (n - j) := ⟨_, rfl⟩
  have e1 : n - (j - i) = m := by omega
  have E1 := Lib.hid e1
  have HM := Lib.hid hm
  rw [← hm]
  clear e1 hm
  have hmn : m ≤ n := by have := HM.out; omega
  have hmn2 : (m : Int) ≤ n := by omega
  have hsl : (splice cur (i * 3) news).length = c * 3 := by rw [length_splice _ _ _ (by rw [HNL.out, HCL.out]; omega)]; exact HCL.out
  have HSL := Lib.hid hsl
  have HTK := Lib.hid (show (splice cur (i * 3) news).take (m * 3) = cur.take (i * 3) ++ news from take_splice_mid _ _ _ _ (by rw [HNL.out, HCL.out]; omega) (by rw [HNL.out, HM.out]; omega))
  clear hsl
  generalize splice cur (i * 3) news = cur2 at *
  go_wp2_with (first
    | (with_reducible refine wpList_cutN 35 3 Tryd.underlying23 size_35 (some ⟨g, 0, none⟩) m c rfl m n c (bounds_lh _ m c _ _ _ _ m n rfl rfl (by omega) (by omega)) ?_)
    | (with_reducible refine wpList_clear_in 35 3 (.agg #[.int .i64 0, .int .i64 0, .int .i64 0]) Tryd.underlying23 info235 rfl (by simp [Value.cells, Value.oneCell']) g (m * 3) (n - m) (c - m) (cutN (some ⟨g, 0, none⟩) m c 3) rfl (fun hp => by rw [cutN_at g 0 m c 3 (by omega), Nat.zero_add]) cur2 hg2.out (by rw [HSL.out]; omega) ?_; intro w3 zs hz h3 ho3))
  go_ret
  rw [E1.out]
  refine ⟨splice cur2 (m * 3) zs, rfl, h3.out, ?_, ?_, HW.out.trans ho3.out⟩
  · rw [length_splice _ _ _ (by rw [hz, HSL.out]; omega)]
    exact HSL.out
  · rw [take_splice_low _ _ _ _ (Nat.le_refl _) (by rw [HSL.out]; omega)]
    exact HTK.out
end Go.Proofs.YtghpmpjoedbpcaaDoor.Print
/-! ### EJIns -/
namespace Go.Proofs.YtghpmpjoedbpcaaDoor.Print
open Go.RowKit Go.Proofs.YtghpmpjoedbpcaaDoorW.PrintWords Go.Proofs.YtghpmpjoedbpcaaDoorW.PrintLast Go.Proofs.YtghpmpjoedbpcaaDoorW.PrintMore
set_option linter.unusedSimpArgs false
set_option linter.unusedVariables false
theorem cells_mid {w : World} {g : Nat} {cur : List Value} {t : TypeId} (h : w.heap[g]? = some (.cells cur.toArray t (0, 0))) (o : Nat) (cs : List Value) (hc : ∀ j u, cs[j]? = some u → cur[o + j]? = some u) : CellsAt w ⟨g, o, none⟩ cs := by
  intro j u hj
  have e : (⟨g, o, none⟩ : Addr).add j = ⟨g, o + j, none⟩ := by unfold Addr.add; split <;> simp_all
  rw [e, cell_of_row w g _ _ _ _ h]
  simpa using hc j u hj
theorem sizeOf_35 (w : World) : (sizeOf 35).run Tryd.prog w = .ok 3 w := by
  obtain ⟨i, hi, hi1⟩ := Option.map_eq_some_iff.1 size_35
  simp [sizeOf, typeInfo, hi, hi1]
theorem overlaps_no (w : World) (g vb o lb cb : Nat) (x cur : Array Value) (hv : w.heap[vb]? = some (.cells x 35 (0, 0))) (hg : w.heap[g]? = some (.cells cur 35 (0, 0))) (hne : vb ≠ g) (h0 : cur.size ≠ 0) :
    (callFunc 54 #[.slice (some ⟨vb, 0, none⟩) 1 1, .slice (some ⟨g, o, none⟩) lb cb]).run Tryd.prog w = .ok (.value (.bool false)) w := by
  rw [run_callFunc_extern Tryd.func54 (by kernel_rfl) (by kernel_rfl) (by kernel_rfl) (e := Extern.SlicesOverlaps.overlaps #[23, 23] #[4]) (by kernel_rfl),
    Lib.run_overlaps_apart w 23 4 35 Tryd.underlying23 3 sizeOf_35 ⟨vb, 0, none⟩ ⟨g, o, none⟩ 1 1 lb cb hne 35 35 x.size cur.size (by simp [World.shape?, hv]) (by simp [World.shape?, hg]) h0 (by simp [World.frozen?, hv]) (by simp [World.frozen?, hv])]
  rfl
theorem insert_room (xs x : List Value) (i n c : Nat) (hx : x.length = 3) (hi : i < n) (hn : n + 1 ≤ c) (hc : xs.length = c * 3) :
    (splice (splice xs ((i + 1) * 3) ((xs.drop (i * 3)).take ((n - i) * 3))) (i * 3) x).take ((n + 1) * 3) = (xs.take (n * 3)).take (i * 3) ++ x ++ (xs.take (n * 3)).drop (i * 3) := by
  obtain ⟨m, hm⟩ : ∃ m, m = (xs.drop (i * 3)).take ((n - i) * 3) := ⟨_, rfl⟩
  have hml : m.length = (n - i) * 3 := by rw [hm]; simp; omega
  rw [← hm]
  have e1 : splice xs ((i + 1) * 3) m = xs.take ((i + 1) * 3) ++ (m ++ xs.drop ((i + 1) * 3 + m.length)) := by unfold splice; simp
  have l1 : (splice xs ((i + 1) * 3) m).length = c * 3 := by rw [length_splice _ _ _ (by omega), hc]
  have e2 : splice (splice xs ((i + 1) * 3) m) (i * 3) x = (splice xs ((i + 1) * 3) m).take (i * 3) ++ (x ++ (splice xs ((i + 1) * 3) m).drop (i * 3 + x.length)) := by unfold splice; simp
  rw [e2, take_splice_low _ _ _ _ (by omega) (by omega)]
  have l2 : (xs.take ((i + 1) * 3)).length = (i + 1) * 3 := by rw [List.length_take]; omega
  have e3 : (splice xs ((i + 1) * 3) m).drop (i * 3 + x.length) = m ++ xs.drop ((i + 1) * 3 + m.length) := by
    rw [e1, show i * 3 + x.length = (xs.take ((i + 1) * 3)).length by rw [l2]; omega, List.drop_left]
  rw [e3, ← List.append_assoc, ← List.append_assoc]
  have l3 : ((xs.take (i * 3) ++ x) ++ m).length = (n + 1) * 3 := by
    rw [List.length_append, List.length_append, List.length_take, hx, hml]; omega
  rw [show (n + 1) * 3 = ((xs.take (i * 3) ++ x) ++ m).length from l3.symm, List.take_left, List.take_take, Nat.min_eq_left (by omega), hm]
  congr 1
  rw [List.drop_take]
  congr 1
  omega
theorem insert_new (olds cur x : List Value) (i n c : Nat) (hx : x.length = 3) (hi : i < n) (ho : olds.length = n * 3) (hl : (olds.take (i * 3) ++ cur).length = c * 3) (hc : n + 1 ≤ c) :
    (splice (splice (olds.take (i * 3) ++ cur) (i * 3) x) ((i + 1) * 3) (olds.drop (i * 3))).take ((n + 1) * 3) = olds.take (i * 3) ++ x ++ olds.drop (i * 3) := by
  have hd : (olds.drop (i * 3)).length = (n - i) * 3 := by simp; omega
  have l1 : (splice (olds.take (i * 3) ++ cur) (i * 3) x).length = c * 3 := by rw [length_splice _ _ _ (by rw [hl, hx]; omega), hl]
  rw [take_splice_mid _ _ _ _ (by rw [l1, hd]; omega) (by rw [hd]; omega)]
  rw [take_splice_mid _ _ _ _ (by rw [hl, hx]; omega) (by rw [hx]; omega)]
  have ht : (olds.take (i * 3)).length = i * 3 := by rw [List.length_take]; omega
  rw [List.take_left' ht]
set_option maxHeartbeats 8000000 in
set_option maxRecDepth 100000 in
theorem insert_any (v0 : Value) (n i base : Nat) (xs x : List Value) (vb : Nat) (w : World) (hown : w.ownsRow base 35 3 v0 n xs) (h1 : ∀ u ∈ xs, u.oneCell' = true) (hx : x.length = 3) (hx1 : ∀ u ∈ x, u.oneCell' = true) (hv : w.heap[vb]? = some (.cells x.toArray 35 (0, 0)))
    (hne : v0.ownBlock ≠ some vb) (hi : i ≤ n) (hn : n ≤ 1000000000) (hb : base ≤ w.heap.size) :
    Calls Tryd.prog 39 #[v0, .int .i64 i, .slice (some ⟨vb, 0, none⟩) 1 1] w fun e w' => ∃ v, e = .returned v ∧ w'.ownsRow base 35 3 v (n + 1) (xs.take (i * 3) ++ x ++ xs.drop (i * 3)) ∧ (∀ k, v.ownBlock = some k → v0.ownBlock = some k ∨ w.heap.size ≤ k) ∧ Only v0.ownBlock.toList w w' := by
  have hxl := hown.1
  by_cases hin : i = n
  · subst hin
    have e : xs.take (i * 3) ++ x ++ xs.drop (i * 3) = xs ++ x := by rw [List.take_of_length_le (by omega), List.drop_eq_nil_of_le (by omega), List.append_nil]
    rw [e]
    have HOW := Lib.hid hown
    have HV := Lib.hid (show 0 < 1 → ∃ ad, some (⟨vb, 0, none⟩ : Addr) = some ad ∧ CellsAt w ad x from fun _ => ⟨_, rfl, cells_mid hv 0 x (fun j u hj => by simpa using hj)⟩)
    have HX := Lib.hid hx
    have HX1 := Lib.hid hx1
    obtain ⟨A, c, rfl, hc1, _⟩ := ownsRow_slice hown
    have hi0 : (0 : Int) ≤ i := by omega
    clear hown h1 hxl hv hx hx1 e
    go_enter Tryd.func39, Tryd.ntmps39
    go_wp2_with (first
      | (with_reducible refine wpList_cutN 35 3 Tryd.underlying23 size_35 A i c rfl i i c (bounds_l w i c _ _ i rfl (by omega)) ?_)
      | (at_builtin; refine wpList_append_row rfl _ _ 23 rfl base 35 3 24 (.agg #[.int .i64 0, .int .i64 0, .int .i64 0]) Tryd.underlying23 info35 rfl (by omega) (.slice A i c) i xs rfl HOW.out (some ⟨vb, 0, none⟩) 1 1 x rfl (by rw [HX.out]) HV.out HX1.out (by unfold maxLen; omega) (by omega) hb ?_; intro A' c' w' h2 h3 h4; have H2 := Lib.hid h2; have H3 := Lib.hid h3; have H4 := Lib.hid h4; clear h2 h3 h4))
    go_ret
    exact ⟨_, rfl, H2.out, H4.out, H3.out⟩
  · have hlt : i < n := by omega
    have hlt' : ¬ (i : Int) = n := by omega
    have hi0 : (0 : Int) ≤ i := by omega
    rcases hown.2 with ⟨_, hz⟩ | ⟨g, c, cur0, rfl, hgb, hg0, hnc, hcm, hcs, htk⟩
    · omega
    obtain ⟨cur, rfl⟩ : ∃ cur : List Value, cur0 = cur.toArray := ⟨cur0.toList, by simp⟩
    have hcl : cur.length = c * 3 := by simpa using hcs
    have htk2 : cur.take (n * 3) = xs := by simpa using htk
    have hvg : vb ≠ g := fun h => hne (by rw [h]; rfl)
    unfold maxLen at hcm
    have HG := Lib.hid hg0
    have HCL := Lib.hid hcl
    have HTK := Lib.hid htk2
    have HX := Lib.hid hx
    have HX1 := Lib.hid hx1
    have HV := Lib.hid hv
    have HO1 := Lib.hid h1
    have HXL := Lib.hid hxl
    have HVG := Lib.hid hvg
    clear hown hg0 hcl hcs htk htk2 hx hx1 hv h1 hxl hvg hne
    have hin1 : (i : Int) < n := by omega
    by_cases hroom : n + 1 ≤ c
    · have hroom' : ¬ (c : Int) < n + 1 := by omega
      have hov := overlaps_no w g vb ((i + 1) * 3) (n - i) (c - (i + 1)) _ _ HV.out HG.out HVG.out (by have := HCL.out; rw [List.size_toArray]; omega)
      have hnl : ((cur.drop (i * 3)).take ((n - i) * 3)).length = (n - i) * 3 := by have := HCL.out; simp; omega
      have HNL := Lib.hid hnl
      have HNA := Lib.hid (show ∀ w' : World, w'.heap[g]? = some (.cells cur.toArray 35 (0, 0)) → CellsAt w' ⟨g, 0 + i * 3, none⟩ ((cur.drop (i * 3)).take ((n - i) * 3)) from fun w' hw' => cells_mid hw' _ _ (fun j u hj => by
        rw [List.getElem?_take] at hj
        split at hj
        · rw [List.getElem?_drop] at hj
          rw [← hj]
          congr 1
          omega
        · cases hj))
      have HN1 := Lib.hid (show ∀ u ∈ (cur.drop (i * 3)).take ((n - i) * 3), u.oneCell' = true from fun u hu => HO1.out u (by
        rw [← HTK.out]
        rw [show (n - i) * 3 = n * 3 - i * 3 by omega, ← List.drop_take] at hu
        exact List.mem_of_mem_drop hu))
      have HR := Lib.hid (insert_room cur x i n c HX.out hlt hroom HCL.out)
      have hll := Lib.hid (show (splice cur ((i + 1) * 3) ((cur.drop (i * 3)).take ((n - i) * 3))).length = c * 3 by rw [length_splice _ _ _ (by rw [hnl, HCL.out]; omega)]; exact HCL.out)
      generalize (cur.drop (i * 3)).take ((n - i) * 3) = mid at *
      clear hnl
      go_enter Tryd.func39, Tryd.ntmps39
      go_wp2_with (first
        | (with_reducible refine wpList_cutL 35 3 Tryd.underlying23 size_35 g n c rfl i (by omega) (bounds_l w n c _ _ i rfl (by omega)) ?_)
        | (with_reducible refine wpList_cutH 35 3 Tryd.underlying23 size_35 g n c rfl (n + 1) (bounds_h w n c _ _ (n + 1) (by go_num) (by omega)) ?_)
        | (with_reducible refine wpList_cutL 35 3 Tryd.underlying23 size_35 g (n + 1) c rfl (i + 1) (by omega) (bounds_l w (n + 1) c _ _ (i + 1) (by go_num) (by omega)) ?_)
        | simp only [hov])
      refine L.grow_start [g] 9 ((0, true, false) :: (1, true, false) :: (2, true, false) :: (3, true, false) :: (4, true, false) :: (5, true, false) :: (6, true, true) :: (7, true, true) :: (8, false, true) :: []) (by kernel_rfl) (([], [0], some 69) :: ([], [1], some 70) :: ([], [7], some 71) :: ([1, 2], [70, 71], some 72) :: ([0, 3], [69, 72], some 73) :: ([], [0], some 74) :: ([], [1], some 75) :: ([5, 6], [74, 75], some 76) :: ([4, 7], [73, 76], some 77) :: []) (by kernel_rfl) (by kernel_rfl) (n := 9) rfl (by kernel_rfl) (fun _ _ _ _ _ h => h) (fun wg hog => ?_)
      refine L.growe_start (N := 95) (by rfl) ?_
      have HG2 := Lib.hid (hog.heap HG.out (by simp))
      have HV2 := Lib.hid (hog.heap HV.out (by simp))
      have HOg := Lib.hid hog
      clear hog hov HG HV
      iterate 4 (first | (refine L.ge_off rfl rfl rfl (by rfl) ?_) | (refine L.ge_move rfl rfl rfl (by rfl) rfl (by simp [L.evE, L.lk, Act.eval]; rfl) ?_) | (refine L.ge_pick rfl rfl rfl (by rfl) rfl (by simp [L.evE, L.lk, Act.eval]; rfl) (by simp [L.evE, L.lk, Act.eval]; rfl) ?_) | (refine L.ge_val rfl rfl rfl (by rfl) (by intro w' hw'; simp [execOp, L.evE, L.lk, Act.eval]; go_simp; rfl) ?_))
      refine ge_cutL rfl rfl rfl (by rfl) _ _ _ rfl 35 3 Tryd.underlying23 size_35 g (n + 1) c (by simp [L.evE, L.lk, Act.eval]) (i + 1) (by omega) .i64 (by simp [L.evE, L.lk, Act.eval]; rw [IntKind.wrap_i64]; omega) (by omega) ?_
      iterate 2 (first | (refine L.ge_off rfl rfl rfl (by rfl) ?_) | (refine L.ge_move rfl rfl rfl (by rfl) rfl (by simp [L.evE, L.lk, Act.eval]; rfl) ?_) | (refine L.ge_pick rfl rfl rfl (by rfl) rfl (by simp [L.evE, L.lk, Act.eval]; rfl) (by simp [L.evE, L.lk, Act.eval]; rfl) ?_) | (refine L.ge_val rfl rfl rfl (by rfl) (by intro w' hw'; simp [execOp, L.evE, L.lk, Act.eval]; go_simp; rfl) ?_))
      refine ge_cutL rfl rfl rfl (by rfl) _ _ _ rfl 35 3 Tryd.underlying23 size_35 g (n + 1) c (by simp [L.evE, L.lk, Act.eval]) i (by omega) .i64 (by simp [L.evE, L.lk, Act.eval]) (by omega) ?_
      refine ge_copy_in rfl rfl rfl (by rfl) _ _ _ _ rfl 35 3 Tryd.underlying23 size_35 g ((i + 1) * 3) (n + 1 - (i + 1)) (c - (i + 1)) (by simp [L.evE, L.lk, Act.eval]) (some ⟨g, i * 3, none⟩) (n + 1 - i) (c - i) (by simp [L.evE, L.lk, Act.eval]) _ cur HG2.out mid (by rw [HNL.out]; show (n - i) * 3 = min (n + 1 - i) (n + 1 - (i + 1)) * 3; rw [Nat.min_eq_right (by omega)]; congr 1; omega) (fun _ => ⟨_, rfl, by have := HNA.out _ HG2.out; rwa [Nat.zero_add] at this⟩) (by rw [HNL.out]; omega) (by rw [HNL.out, HCL.out]; omega) HN1.out (by simp) ?_
      intro w2 hg2 ho2
      refine L.ge_done ?_
      simp only [L.puts, Act.put, goInt, List.setIfInBounds_toArray, List.set_cons_zero, List.set_cons_succ]
      have HW := Lib.hid ((HOg.out.mono (T := [g]) (by simp)).trans ho2.out)
      have HV3 := Lib.hid (ho2.out.heap HV2.out (by simpa using HVG.out))
      clear HV2 HG2 HOg ho2
      generalize splice cur ((i + 1) * 3) mid = cur2 at *
      go_wp2_with (first
        | (with_reducible refine wpList_cutL 35 3 Tryd.underlying23 size_35 g (n + 1) c rfl i (by omega) (bounds_l _ (n + 1) c _ _ i rfl (by omega)) ?_)
        | (with_reducible refine wpList_copy_in 35 3 Tryd.underlying23 size_35 g (i * 3) (n + 1 - i) (c - i) rfl (some ⟨vb, 0, none⟩) 1 1 rfl _ cur2 hg2.out x (by rw [HX.out]; show 3 = min 1 (n + 1 - i) * 3; rw [Nat.min_eq_left (by omega)]) (fun _ => ⟨_, rfl, cells_mid HV3.out 0 x (fun j u hj => by simpa using hj)⟩) (by rw [HX.out]; omega) (by rw [HX.out, hll.out]; omega) HX1.out ?_; intro w3 hg3 ho3))
      go_ret
      refine ⟨_, rfl, ⟨?_, .inr ⟨g, c, _, rfl, hgb, hg3.out, by omega, by unfold maxLen; omega, ?_, ?_⟩⟩, fun k hk => .inl hk, HW.out.trans ho3.out⟩
      · rw [List.length_append, List.length_append, List.length_take, List.length_drop, HX.out, HXL.out]; omega
      · rw [List.size_toArray, length_splice _ _ _ (by rw [HX.out, hll.out]; omega)]; exact hll.out
      · have := HR.out
        rw [HTK.out] at this
        exact this
    · have hroom' : (c : Int) < n + 1 := by omega
      have HXS := Lib.hid (show 0 < i → ∃ ad, some (⟨g, 0, none⟩ : Addr) = some ad ∧ CellsAt w ad (xs.take (i * 3)) from fun _ => ⟨_, rfl, cells_mid HG.out 0 _ (fun j u hj => by
        rw [List.getElem?_take] at hj
        split at hj
        · rw [← HTK.out, List.getElem?_take] at hj
          split at hj
          · simpa using hj
          · cases hj
        · cases hj)⟩)
      have HXT := Lib.hid (show (xs.take (i * 3)).length = i * 3 by rw [List.length_take, HXL.out]; omega)
      have HXD := Lib.hid (show (xs.drop (i * 3)).length = (n - i) * 3 by rw [List.length_drop, HXL.out]; omega)
      have HDA := Lib.hid (show ∀ w' : World, w'.heap[g]? = some (.cells cur.toArray 35 (0, 0)) → CellsAt w' ⟨g, i * 3, none⟩ (xs.drop (i * 3)) from fun w' hw' => cells_mid hw' _ _ (fun j u hj => by
        rw [List.getElem?_drop, ← HTK.out, List.getElem?_take] at hj
        split at hj
        · exact hj
        · cases hj))
      have HD1 := Lib.hid (show ∀ u ∈ xs.drop (i * 3), u.oneCell' = true from fun u hu => HO1.out u (List.mem_of_mem_drop hu))
      have HNW := Lib.hid (fun (cur' : List Value) (c' : Nat) hl hc => insert_new xs cur' x i n c' HX.out hlt HXL.out hl hc)
      have HKK : Hid (((n : Int) + 1 - i) = ((n + 1 - i : Nat) : Int)) := Lib.hid (by omega)
      generalize xs.drop (i * 3) = dr at *
      generalize xs.take (i * 3) = tk at *
      go_enter Tryd.func39, Tryd.ntmps39
      go_wp2_with (first
        | (with_reducible refine wpList_cutN 35 3 Tryd.underlying23 size_35 (some ⟨g, 0, none⟩) n c rfl i n c (bounds_l w n c _ _ i rfl (by omega)) ?_)
        | (with_reducible refine wpList_cutH 35 3 Tryd.underlying23 size_35 g n c rfl i (bounds_h w n c _ _ i rfl (by omega)) ?_)
        | (with_reducible refine wpList_append_new 35 3 24 (.agg #[.int .i64 0, .int .i64 0, .int .i64 0]) .i64 .i64 Tryd.underlying23 Tryd.underlying3 info35 rfl (by omega) (some ⟨g, 0, none⟩) i c rfl tk HXT.out HXS.out (n + 1 - i) _ rfl HKK.out (by omega) (by omega) (by omega) (by omega) ?_; intro c' cur' w1 h1 h2 h3; refine (fun (h : Hid _) => h.out) ?_))
      refine Lib.hid ?_
      have h2' := h2.out
      have hn1 : i + (n + 1 - i) = n + 1 := by omega
      rw [hn1] at h2' ⊢
      obtain ⟨hc1, hc2, hc3⟩ := h2'
      unfold maxLen at hc2
      have HC3 := Lib.hid hc3
      have HNW2 := Lib.hid (HNW.out cur' c' hc3 hc1)
      have HV1 := Lib.hid (h3.out.heap HV.out (by simp))
      have HG1 := Lib.hid (h3.out.heap HG.out (by simp))
      have HVN := Lib.hid (show vb ∉ [w.heap.size] by have := heap_lt HV.out; simp; omega)
      have HGN := Lib.hid (show g ∉ [w.heap.size] by have := heap_lt HG.out; simp; omega)
      have HDS := Lib.hid (show ∀ (z : List Value), z.length = 3 → (splice (tk ++ cur') (i * 3) z).length = c' * 3 from fun z hz => by rw [length_splice _ _ _ (by rw [hz, HC3.out]; omega)]; exact HC3.out)
      have HDT := Lib.hid (show (splice (splice (tk ++ cur') (i * 3) x) ((i + 1) * 3) dr).length = c' * 3 by rw [length_splice _ _ _ (by rw [HXD.out, HDS.out x HX.out]; omega)]; exact HDS.out x HX.out)
      clear h2 hc3 hn1 HNW HG HV
      generalize tk ++ cur' = row1 at *
      go_wp2_with (first
        | (with_reducible refine wpList_cutL 35 3 Tryd.underlying23 size_35 w.heap.size (n + 1) c' rfl i (by omega) (bounds_l _ (n + 1) c' _ _ i rfl (by omega)) ?_)
        | (with_reducible refine wpList_copy_in 35 3 Tryd.underlying23 size_35 w.heap.size (i * 3) (n + 1 - i) (c' - i) rfl (some ⟨vb, 0, none⟩) 1 1 rfl _ row1 h1.out x (by rw [HX.out]; show 3 = min 1 (n + 1 - i) * 3; rw [Nat.min_eq_left (by omega)]) (fun _ => ⟨_, rfl, cells_mid HV1.out 0 x (fun j u hj => by simpa using hj)⟩) (by rw [HX.out]; omega) (by rw [HX.out, HC3.out]; omega) HX1.out ?_; intro w2 hg2 ho2))
      simp only [Act.put, goInt, List.setIfInBounds_toArray, List.set_cons_zero, List.set_cons_succ]
      refine L.grow_start [w.heap.size] 9 ((0, true, false) :: (1, true, false) :: (2, true, false) :: (3, true, false) :: (4, true, false) :: (5, true, false) :: (6, true, true) :: (7, true, true) :: (8, false, true) :: []) (by kernel_rfl) (([], [9], some 46) :: ([], [1], some 47) :: ([], [7], some 48) :: ([1, 2], [47, 48], some 49) :: ([0, 3], [46, 49], some 50) :: ([], [0], some 51) :: ([], [1], some 52) :: ([5, 6], [51, 52], some 53) :: ([4, 7], [50, 53], some 54) :: []) (by kernel_rfl) (by kernel_rfl) (n := 9) rfl (by kernel_rfl) (fun _ _ _ _ _ h => h) (fun wg hog => ?_)
      refine L.growe_start (N := 95) (by rfl) ?_
      have HG4 := Lib.hid (hog.heap hg2.out (by simp))
      have HG5 := Lib.hid (hog.heap (ho2.out.heap HG1.out HGN.out) (by simp))
      have HO2 := Lib.hid (((h3.out.mono (T := [w.heap.size]) (by simp)).trans ho2.out).trans (hog.mono (T := [w.heap.size]) (by simp)))
      clear hog HG1 HV1 hg2 ho2
      iterate 4 (first | (refine L.ge_off rfl rfl rfl (by rfl) ?_) | (refine L.ge_move rfl rfl rfl (by rfl) rfl (by simp [L.evE, L.lk, Act.eval]; rfl) ?_) | (refine L.ge_pick rfl rfl rfl (by rfl) rfl (by simp [L.evE, L.lk, Act.eval]; rfl) (by simp [L.evE, L.lk, Act.eval]; rfl) ?_) | (refine L.ge_val rfl rfl rfl (by rfl) (by intro w' hw'; simp [execOp, L.evE, L.lk, Act.eval]; go_simp; rfl) ?_))
      refine ge_cutL rfl rfl rfl (by rfl) _ _ _ rfl 35 3 Tryd.underlying23 size_35 w.heap.size (n + 1) c' (by simp [L.evE, L.lk, Act.eval]) (i + 1) (by omega) .i64 (by simp [L.evE, L.lk, Act.eval]; rw [IntKind.wrap_i64]; omega) (by omega) ?_
      iterate 2 (first | (refine L.ge_off rfl rfl rfl (by rfl) ?_) | (refine L.ge_move rfl rfl rfl (by rfl) rfl (by simp [L.evE, L.lk, Act.eval]; rfl) ?_) | (refine L.ge_pick rfl rfl rfl (by rfl) rfl (by simp [L.evE, L.lk, Act.eval]; rfl) (by simp [L.evE, L.lk, Act.eval]; rfl) ?_) | (refine L.ge_val rfl rfl rfl (by rfl) (by intro w' hw'; simp [execOp, L.evE, L.lk, Act.eval]; go_simp; rfl) ?_))
      refine ge_cutL rfl rfl rfl (by rfl) _ _ _ rfl 35 3 Tryd.underlying23 size_35 g n c (by simp [L.evE, L.lk, Act.eval]) i (by omega) .i64 (by simp [L.evE, L.lk, Act.eval]) (by omega) ?_
      refine ge_copy_in rfl rfl rfl (by rfl) _ _ _ _ rfl 35 3 Tryd.underlying23 size_35 w.heap.size ((i + 1) * 3) (n + 1 - (i + 1)) (c' - (i + 1)) (by simp [L.evE, L.lk, Act.eval]) (some ⟨g, i * 3, none⟩) (n - i) (c - i) (by simp [L.evE, L.lk, Act.eval]) _ _ HG4.out dr (by rw [HXD.out]; show (n - i) * 3 = min (n - i) (n + 1 - (i + 1)) * 3; rw [Nat.min_eq_right (by omega)]; congr 1; omega) (fun _ => ⟨_, rfl, HDA.out _ HG5.out⟩) (by rw [HXD.out]; omega) (by rw [HXD.out, HDS.out x HX.out]; omega) HD1.out (by simp) ?_
      intro w4 hg4 ho4
      refine L.ge_done ?_
      simp only [L.puts, Act.put, goInt, List.setIfInBounds_toArray, List.set_cons_zero, List.set_cons_succ]
      go_wp2
      go_ret
      refine ⟨_, rfl, ⟨?_, .inr ⟨w.heap.size, c', _, rfl, hb, hg4.out, by omega, by unfold maxLen; omega, ?_, ?_⟩⟩, fun k hk => .inr ?_, ((HO2.out.trans ho4.out).pop (Nat.le_refl _)).mono (by simp)⟩
      · rw [List.length_append, List.length_append, HXT.out, HXD.out, HX.out]; omega
      · rw [List.size_toArray]; exact HDT.out
      · exact HNW2.out
      · simp [Value.ownBlock] at hk
        omega
end Go.Proofs.YtghpmpjoedbpcaaDoor.Print
/-! ### Sto -/
namespace Go.Proofs.YtghpmpjoedbpcaaDoor
open Go.RowKit
section
variable {P : Program}
theorem run_storeVar_in (w : World) (ty : TypeId) (g off : Nat) (t : TypeId) (cur cs : List Value) (v : Value) (hg : w.heap[g]? = some (.cells cur.toArray t (0, 0))) (hv : v.cells.toList = cs) (hi : (P.info? ty).map (·.size) = some cs.length)
    (hfit : off + cs.length ≤ cur.length) (h1 : ∀ u ∈ cs, u.oneCell' = true) :
    ∃ w', (storeVar ty ⟨g, off, none⟩ v).run P w = .ok () w' ∧ w'.heap[g]? = some (.cells (splice cur off cs).toArray t (0, 0)) ∧ Only [g] w w' := by
  obtain ⟨i, hi0, hi1⟩ := Option.map_eq_some_iff.1 hi
  have hst := run_storeCells_at P g off t cs 0 cur.toArray w hg (by simpa using hfit) h1
  have e1 : (List.take (off + 0) cur.toArray.toList ++ cs ++ List.drop (off + 0 + cs.length) cur.toArray.toList).toArray = (splice cur off cs).toArray := by simp [splice]
  rw [e1] at hst
  refine ⟨w.setRow g (splice cur off cs).toArray, ?_, setRow_heap w g _ _ t _ hg, (Only.refl _ _).setRow (by simp) _⟩
  have hs : v.cells.size = i.size := by rw [hi1, ← hv]; simp
  simp [storeVar, sizeOf, typeInfo, hi0, hs, hv, hst]
theorem wpList_store_in {ops : Array Oper} {rest : List Oper} {o : Oper} {a : Act} {w : World} {Q : Exit → Act → World → Prop} (hgd : o.guard = none) (ty : TypeId) (x y : Operand) (ho : o.op = .store ty x y)
    (g off : Nat) (v : Value) (hx : a.eval x = .pointer (some ⟨g, off, none⟩)) (hy : a.eval y = v) (cs : List Value) (hv : v.cells.toList = cs)
    (t : TypeId) (cur : List Value) (hg : w.heap[g]? = some (.cells cur.toArray t (0, 0))) (hi : (P.info? ty).map (·.size) = some cs.length)
    (hfit : off + cs.length ≤ cur.length) (h1 : ∀ u ∈ cs, u.oneCell' = true)
    (h : ∀ w', Hid (w'.heap[g]? = some (.cells (splice cur off cs).toArray t (0, 0))) → Hid (Only [g] w w') → wpList P ops Q rest (a.put o.dst undef) w') : wpList P ops Q (o :: rest) a w := by
  refine wpList_plain hgd fun K hK => ?_
  obtain ⟨w', hr, h2, h3⟩ := run_storeVar_in (P := P) w ty g off t cur cs v hg hv hi hfit h1
  unfold Oper.wp execOp
  simp only [ho, hx, hy, Instr.storeAt, Instr.sureAddr, Sem.run_bind, Sem.run_pure, Result.andThen_ok, hr]
  exact hK _ _ (h w' h2 h3)
/-- A struct is loaded whole. -/
theorem ge_load_at {ops : Array Oper} {a : Act} {w : World} {Q : Exit → Act → World → Prop} {S : List Nat} {z9 : Nat} {i : Nat} {f : Bool} {oi : Oper} {d : Nat} {T : List (Nat × Bool × Bool)} {N : Nat} {env : List (Nat × Value)}
    (hi : ops[i]? = some oi) (hdst : oi.dst = some d) (hd : decide (d < N) = true) (hw : L.wantE ops env oi = some true) (ty : TypeId) (x : Operand) (ho : oi.op = .load ty x)
    (ad : Addr) (hx : L.evE a env x = .pointer (some ad)) (cs : List Value) (td : TypeDesc) (hc : ∀ w', Only S w w' → CellsAt w' ad cs)
    (hu : P.underlying ty = some td) (hd9 : (match td with | .struct _ | .array _ _ => true | _ => false) = true) (hi9 : (P.info? ty).map (·.size) = some cs.length)
    (hK : L.GrowE P ops Q S z9 T a N ((d, .agg cs.toArray) :: env) w) : L.GrowE P ops Q S z9 ((i, true, f) :: T) a N env w := by
  refine L.ge_val hi hdst hd hw (fun w' hw' => ?_) hK
  unfold execOp
  simp only [ho, hx, Instr.loadAt, Instr.sureAddr, Sem.run_bind, Sem.run_pure, Result.andThen_ok, run_loadVar_at w' ty ad cs td (hc w' hw') hu hd9 hi9, Result.andThen]
theorem ge_last_in {ops : Array Oper} {a : Act} {w : World} {Q : Exit → Act → World → Prop} {S : List Nat} {z : Nat} {f : Bool} {oi : Oper} {N : Nat} {env : List (Nat × Value)} (hi : ops[z]? = some oi) (hdst : oi.dst = none) (hw : L.wantE ops env oi = some true) (ty : TypeId) (x y : Operand) (ho : oi.op = .store ty x y)
    (g off : Nat) (v : Value) (hx : L.evE a env x = .pointer (some ⟨g, off, none⟩)) (hy : L.evE a env y = v) (cs : List Value) (hv : v.cells.toList = cs)
    (t : TypeId) (cur : List Value) (hg : w.heap[g]? = some (.cells cur.toArray t (0, 0))) (hsz : (P.info? ty).map (·.size) = some cs.length)
    (hfit : off + cs.length ≤ cur.length) (h1 : ∀ u ∈ cs, u.oneCell' = true)
    (h : ∀ w', Hid (w'.heap[g]? = some (.cells (splice cur off cs).toArray t (0, 0))) → Hid (Only [g] w w') → Q .normal (L.puts a env) w') : L.GrowE P ops Q S z ((z, f, true) :: []) a N env w := by
  obtain ⟨w', hr, h2, h3⟩ := run_storeVar_in (P := P) w ty g off t cur cs v hg hv hsz hfit h1
  refine L.ge_last (w' := w') hi hdst hw ?_ (h w' h2 h3)
  unfold execOp
  simp only [ho, hx, hy, Instr.storeAt, Instr.sureAddr, Sem.run_bind, Sem.run_pure, Result.andThen_ok, hr]
/-- Two results, the first in a variable of its own: a row. -/
theorem results_row {fn : Func} {p u : Tmp} {ty : TypeId} (h : fn.results = #[.cell p ty, .tmp u]) (tmps : Array Value) (w : World) (g : Nat) (t : TypeId) (cs : Array Value) (fr : Nat × Nat) (d : TypeDesc)
    (hp : tmps.getD p undef = .pointer (some ⟨g, 0, none⟩)) (hg : w.heap[g]? = some (.cells cs t fr))
    (hu : P.underlying ty = some d) (hd : (match d with | .struct _ | .array _ _ => true | _ => false) = true) (hi : (P.info? ty).map (·.size) = some cs.size) :
    (results fn tmps).run P w = .ok (.tuple #[.agg cs, tmps.getD u undef]) w := by
  rw [results_cell_tmp h, hp]
  simp [asAddr, run_loadVar_row w g t ty cs fr d hg hu hd hi]
end
end Go.Proofs.YtghpmpjoedbpcaaDoor
/-! ### EJDf -/
namespace Go.Proofs.YtghpmpjoedbpcaaDoor.Print
open Go.RowKit Go.Proofs.YtghpmpjoedbpcaaDoorW.PrintWords Go.Proofs.YtghpmpjoedbpcaaDoorW.PrintLast Go.Proofs.YtghpmpjoedbpcaaDoorW.PrintMore
set_option linter.unusedSimpArgs false
set_option linter.unusedVariables false
theorem own_e_reads {w : World} {base : Nat} {A : Option Addr} {c : Nat} {l : List S27} (h : w.ownsRow base 27 6 (.slice A l.length c) l.length (eRow l)) : l.length ≤ c ∧ Kd.C k27 w A l.length l := (Kd.R_reads' (R_e h)).2
theorem of1_any (x : S27) (nb : Nat) (n : Int) (w : World) (hn : w.heap[nb]? = some (.cells #[.int .i64 n] 3 (0, 0))) :
    Calls Tryd.prog 37 #[.agg #[.int .i64 x.f0, .int .i64 x.f1, .int .i64 x.f2, .string x.f3, .int .i64 x.f4, .int .i64 x.f5], .pointer (some ⟨nb, 0, none⟩)] w fun e w' => e = .returned (.bool (!decide (x.f1 = n))) ∧ Below w.heap.size w w' := by
  have hlt := heap_lt hn
  have a0 : ∀ (o : Obj), (w.alloc o).cell? ⟨nb, 0, none⟩ = some (.int .i64 n) := fun o => by
    have := (Below.heap_alloc w o nb hlt).trans hn
    exact (cell_of_row _ nb 0 _ _ _ this).trans rfl
  go_enter Tryd.func37, Tryd.ntmps37
  go_wp2
  go_ret
  refine ⟨?_, (Below.refl _ _).alloc (Nat.le_refl _) _⟩
  by_cases h : x.f1 = n <;> simp [h]
theorem size6_27 (a b c d e f : Value) : (Tryd.prog.info? 27).map (·.size) = some (#[a, b, c, d, e, f] : Array Value).size := size_27
set_option maxHeartbeats 8000000 in
set_option maxRecDepth 100000 in
theorem index_of (p : S27 → Bool) (nb : Nat) (n : Int) (A0 : Option Addr) (c0 : Nat) (l0 : List S27) (w : World) (hr : Kd.C k27 w A0 l0.length l0) (hl : l0.length ≤ 140737488355328) (hn : w.heap[nb]? = some (.cells #[.int .i64 n] 3 (0, 0))) :
    Calls Tryd.prog 53 #[.slice A0 l0.length c0, .func (.func 37) #[] #[.pointer (some ⟨nb, 0, none⟩)]] w fun e w' => e = .returned (.int .i64 (firstFrom (fun x => !decide (x.f1 = n)) 0 l0)) ∧ Below w.heap.size w w' := by
  obtain ⟨V, hV⟩ : ∃ V, V = firstFrom (fun x : S27 => !decide (x.f1 = n)) 0 l0 := ⟨_, rfl⟩
  rw [← hV]
  have HV := Lib.hid hV
  have HR := Lib.hid hr
  have HN := Lib.hid hn
  clear hV hr hn
  have hu := Tryd.underlying27
  go_enter Tryd.func53, Tryd.ntmps53
  go_wp2
  go_loopw [5, 8] (fun _ i wr => ∃ k : Nat, k ≤ l0.length ∧ i = .int .i64 k ∧ Hid (V = firstFrom (fun x : S27 => !decide (x.f1 = n)) k (l0.drop k)) ∧ Hid (Below w.heap.size w wr)) (fun _ i _ => l0.length - (intOf i).toNat)
  case atStart => exact ⟨0, by omega, rfl, HV, Lib.hid (Below.refl _ _)⟩
  case round =>
    obtain ⟨k, hk, rfl, hv, hb⟩ := hrel
    by_cases hlt2 : k < l0.length
    · have hlt' : (k : Int) < l0.length := by omega
      have hk0 : (0 : Int) ≤ k := by omega
      have hv' := hv.out
      rw [firstFrom_drop _ _ _ hlt2] at hv'
      obtain ⟨ad, rfl, hcs⟩ := C_e_at (Kd.C_below HR.out hb.out) k hlt2
      have HC := Lib.hid (show CellsAt wr (ad.add (k * 6)) [.int .i64 l0[k].f0, .int .i64 l0[k].f1, .int .i64 l0[k].f2, .string l0[k].f3, .int .i64 l0[k].f4, .int .i64 l0[k].f5] from hcs)
      have HPK := Lib.hid (of1_any l0[k] nb n wr ((hb.out.block nb (heap_lt HN.out)).trans HN.out))
      clear hcs
      generalize l0[k] = x at *
      generalize (!decide (x.f1 = n)) = px at *
      have HV2 := Lib.hid hv'
      clear hv hv'
      go_wp2_with (first
        | (with_reducible refine wpList_load_at rfl 27 (.tmp 14) rfl (ad.add (k * 6)) rfl _ _ HC.out Tryd.underlying27 rfl (by kernel_rfl) ?_)
        | (go_at_call 37; refine HPK.out.mono ?_; rintro e w1 ⟨rfl, hb1⟩; have HB1 := Lib.hid (below_then hb.out hb.out.size hb1); clear hb1))
      · rename_i ht
        go_ret
        exact ⟨by rw [HV2.out, if_pos ht]; rfl, HB1.out⟩
      · rename_i ht
        go_roundw
        case rel => exact ⟨k + 1, by omega, by go_num, Lib.hid (by rw [HV2.out, if_neg (by rw [ht]; simp)]), HB1⟩
        case measure => simp [intOf]; omega
    · have hlt' : (l0.length : Int) ≤ k := by omega
      have hv' := hv.out
      rw [List.drop_eq_nil_of_le (by omega)] at hv'
      have HV2 := Lib.hid hv'
      clear hv hv'
      go_wp2
      go_ret
      exact ⟨by rw [HV2.out]; rfl, hb.out⟩
theorem firstFrom_none (p : S27 → Bool) : ∀ (l : List S27) (i : Nat), firstFrom p i l = -1 → l.filter (fun x => !p x) = l
  | [], _, _ => rfl
  | x :: l, i, h => by
    unfold firstFrom at h
    cases hp : p x
    · rw [hp] at h
      simp only [Bool.false_eq_true, if_false] at h
      rw [List.filter_cons_of_pos (by rw [hp]; rfl), firstFrom_none p l (i + 1) h]
    · rw [hp] at h
      simp only [if_true] at h
      omega
theorem firstFrom_some (p : S27 → Bool) : ∀ (l : List S27) (i : Nat), firstFrom p i l ≠ -1 → ∃ k, k < l.length ∧ firstFrom p i l = ((i + k : Nat) : Int) ∧ (l.take (k + 1)).filter (fun x => !p x) = l.take k
  | [], _, h => absurd rfl h
  | x :: l, i, h => by
    unfold firstFrom at h ⊢
    cases hp : p x
    · rw [hp] at h
      simp only [Bool.false_eq_true, if_false] at h ⊢
      obtain ⟨k, hk, he, ht⟩ := firstFrom_some p l (i + 1) h
      refine ⟨k + 1, by simpa using hk, by rw [he]; omega, ?_⟩
      rw [List.take_succ_cons, List.filter_cons_of_pos (by rw [hp]; rfl), ht, List.take_succ_cons]
    · simp only [if_true]
      refine ⟨0, by simp, by simp, ?_⟩
      rw [List.take_succ_cons, List.filter_cons_of_neg (by rw [hp]; simp)]
      simp
theorem drop_splice_high (xs ys : List Value) (off k : Nat) (hk : off + ys.length ≤ k) (ho : off + ys.length ≤ xs.length) : (splice xs off ys).drop k = xs.drop k := by
  have e : splice xs off ys = (xs.take off ++ ys) ++ xs.drop (off + ys.length) := by unfold splice; simp
  have hl : (xs.take off ++ ys).length = off + ys.length := by rw [List.length_append, List.length_take, Nat.min_eq_left (by omega)]
  rw [e, List.drop_append, hl, List.drop_eq_nil_of_le (by omega), List.nil_append, List.drop_drop]
  congr 1
  omega
set_option maxHeartbeats 8000000 in
set_option maxRecDepth 100000 in
theorem delfunc_any (v0 : Value) (base nb : Nat) (n : Int) (l : List S27) (w : World) (hown : w.ownsRow base 27 6 v0 l.length (eRow l)) (hn : w.heap[nb]? = some (.cells #[.int .i64 n] 3 (0, 0))) (hne : v0.ownBlock ≠ some nb) (hl : l.length ≤ 1000000000) (hb : base ≤ w.heap.size) :
    Calls Tryd.prog 35 #[v0, .func (.func 37) #[] #[.pointer (some ⟨nb, 0, none⟩)]] w fun e w' => ∃ v, e = .returned v ∧ w'.ownsRow base 27 6 v (l.filter (fun x => decide (x.f1 = n))).length (eRow (l.filter (fun x => decide (x.f1 = n)))) ∧ Only v0.ownBlock.toList w w' := by
  obtain ⟨A, c, rfl, hlc, _⟩ := ownsRow_slice hown
  have HIX := Lib.hid (index_of (fun x => !decide (x.f1 = n)) nb n A c l w (own_e_reads hown).2 (by omega) hn)
  have HOW := Lib.hid hown
  have HN := Lib.hid hn
  have hfl : (fun x : S27 => !!decide (x.f1 = n)) = (fun x => decide (x.f1 = n)) := by funext x; simp
  by_cases h1 : firstFrom (fun x : S27 => !decide (x.f1 = n)) 0 l = -1
  · have he := firstFrom_none _ l 0 h1
    simp only [Bool.not_not] at he
    rw [he]
    rw [h1] at HIX
    clear hown hn hne he h1 hfl
    go_enter Tryd.func35, Tryd.ntmps35
    go_wp2_with (go_at_call 53; refine HIX.out.mono ?_; rintro e w1 ⟨rfl, hb1⟩; have HB1 := Lib.hid hb1; clear hb1)
    go_ret
    have hb1 := HB1.out
    exact ⟨_, rfl, ownsRow_only HOW.out (Only.of_below hb1) (by simp), (Only.of_below hb1).mono (by simp)⟩
  · obtain ⟨k, hk, he, ht⟩ := firstFrom_some _ l 0 h1
    simp only [Bool.not_not, Nat.zero_add] at he ht
    rw [he] at HIX
    rcases hown.2 with ⟨_, hz⟩ | ⟨g, cap, cur0, e0, hgb, hg0, hnc, hcm, hcs, htk⟩
    · omega
    injection e0 with e0 e1 e2
    subst e0 e2
    obtain ⟨cur, rfl⟩ : ∃ cur : List Value, cur0 = cur.toArray := ⟨cur0.toList, by simp⟩
    have hcl : cur.length = c * 6 := by simpa using hcs
    have htk2 : cur.take (l.length * 6) = eRow l := by simpa using htk
    have hgn : g ≠ nb := fun h => hne (by rw [h]; rfl)
    unfold maxLen at hcm
    obtain ⟨N, hN⟩ : ∃ N, N = l.length := ⟨_, rfl⟩
    have HCL := Lib.hid hcl
    have HGN := Lib.hid hgn
    have HL : Hid (∀ j (hj : j < l.length), (l.drop j).take 1 = [l[j]]) := Lib.hid (fun j hj => by rw [List.drop_eq_getElem_cons hj]; rfl)
    have HNL := Lib.hid hN
    -- a round's state: i kept, j seen, what the block holds
    let St : Nat → Nat → List Value → Prop := fun i j cu => i ≤ j ∧ cu.length = c * 6 ∧ i = ((l.take j).filter (fun x => decide (x.f1 = n))).length ∧ cu.take (i * 6) = eRow ((l.take j).filter (fun x => decide (x.f1 = n))) ∧
      (cu.drop (j * 6)).take ((l.length - j) * 6) = eRow (l.drop j)
    have hst0 : St k (k + 1) cur := by
      have hlt : (l.take k).length = k := by rw [List.length_take]; omega
      refine ⟨by omega, hcl, by rw [ht, hlt], ?_, ?_⟩
      · rw [ht, ← eRow_take, ← htk2, List.take_take, Nat.min_eq_left (by omega)]
      · rw [← eRow_drop, ← htk2, List.drop_take]
        congr 1
        omega
    have hstep : ∀ i j cu (hj : j < l.length), St i j cu → (cu.drop (j * 6)).take 6 = eCells l[j] ∧ (decide (l[j].f1 = n) = false → St i (j + 1) cu) ∧ (decide (l[j].f1 = n) = true → St (i + 1) (j + 1) (splice cu (i * 6) (eCells l[j]))) := by
      intro i j cu hj ⟨hij, hcu, hil, hti, htj⟩
      have e0 : l.drop j = l[j] :: l.drop (j + 1) := List.drop_eq_getElem_cons hj
      have ec : (eCells l[j]).length = 6 := rfl
      have e1 : eRow (l.drop j) = eCells l[j] ++ eRow (l.drop (j + 1)) := by rw [e0]; rfl
      have e2 : (cu.drop (j * 6)).take 6 = eCells l[j] := by
        have := congrArg (List.take 6) htj
        rw [List.take_take, Nat.min_eq_left (by omega), e1, List.take_left' ec] at this
        exact this
      have e3 : (cu.drop ((j + 1) * 6)).take ((l.length - (j + 1)) * 6) = eRow (l.drop (j + 1)) := by
        have := congrArg (List.drop 6) htj
        rw [e1, List.drop_left' ec, List.drop_take, List.drop_drop] at this
        rw [← this]
        congr 1
        · omega
        · congr 1
          omega
      have e4 : l.take (j + 1) = l.take j ++ [l[j]] := by rw [List.take_succ_eq_append_getElem hj]
      refine ⟨e2, fun hp => ⟨by omega, hcu, ?_, ?_, e3⟩, fun hp => ⟨by omega, ?_, ?_, ?_, ?_⟩⟩
      · rw [e4, List.filter_append, List.filter_cons_of_neg (by rw [hp]; simp), List.filter_nil, List.append_nil]; exact hil
      · rw [e4, List.filter_append, List.filter_cons_of_neg (by rw [hp]; simp), List.filter_nil, List.append_nil]; exact hti
      · rw [length_splice _ _ _ (by rw [ec]; omega)]; exact hcu
      · rw [e4, List.filter_append, List.filter_cons_of_pos (by rw [hp]), List.filter_nil, List.length_append, ← hil]; rfl
      · rw [e4, List.filter_append, List.filter_cons_of_pos (by rw [hp]), List.filter_nil, eRow_append, take_splice_mid _ _ _ _ (by rw [ec]; omega) (by rw [ec]; omega), hti]
        simp [eRow]
      · rw [drop_splice_high _ _ _ _ (by rw [ec]; omega) (by rw [ec]; omega)]
        exact e3
    have hend : ∀ i cu, St i l.length cu → i ≤ l.length ∧ cu.length = c * 6 ∧ i = (l.filter (fun x => decide (x.f1 = n))).length ∧ cu.take (i * 6) = eRow (l.filter (fun x => decide (x.f1 = n))) := by
      intro i cu ⟨h1, h2, h3, h4, _⟩
      rw [List.take_length] at h3 h4
      exact ⟨h1, h2, h3, h4⟩
    have hle : ∀ i j cu, St i j cu → i ≤ j ∧ cu.length = c * 6 := fun i j cu h => ⟨h.1, h.2.1⟩
    generalize St = St0 at *
    have HS0 := Lib.hid hst0
    have HSTEP := Lib.hid hstep
    have HEND := Lib.hid hend
    have HLE := Lib.hid hle
    have HG := Lib.hid hg0
    have hu := Tryd.underlying27
    have hk' : ((k : Int) == -1) = false := by rw [beq_eq_false_iff_ne]; omega
    clear hst0 hstep hend hle hown hn hne he ht h1 hfl hcl hcs htk htk2 hg0 hgn HL hN
    go_enter Tryd.func35, Tryd.ntmps35
    go_wp2_with (go_at_call 53; refine HIX.out.mono ?_; rintro e w1 ⟨rfl, hb1⟩; have HO1 := Lib.hid (Only.of_below hb1); clear hb1)
    have HG1 := Lib.hid (HO1.out.heap HG.out (by simp))
    have HN1 := Lib.hid (HO1.out.heap HN.out (by simp))
    go_loopw [5, 6, 7] (fun si sj _ wr => ∃ (i j : Nat) (cu : List Value), si = .int .i64 i ∧ sj = .int .i64 j ∧ i ≤ j ∧ j ≤ l.length ∧ Hid (St0 i j cu) ∧ Hid (wr.heap[g]? = some (.cells cu.toArray 27 (0, 0))) ∧ Hid (wr.heap[nb]? = some (.cells #[.int .i64 n] 3 (0, 0))) ∧ Hid (Only [g] w wr)) (fun _ sj _ _ => l.length - (intOf sj).toNat)
    case atStart => exact ⟨k, k + 1, cur, rfl, by go_num, by omega, by omega, HS0, HG1, HN1, Lib.hid (HO1.out.mono (T := [g]) (by simp))⟩
    case round =>
      obtain ⟨i, j, cu, rfl, rfl, hij, hjl, hs, hg, hn, ho⟩ := hrel
      by_cases hlt : j < l.length
      · have hlt' : (j : Int) < l.length := by omega
        have hj0 : (0 : Int) ≤ j := by omega
        have hi0 : (0 : Int) ≤ i := by omega
        have hil : (i : Int) < l.length := by omega
        obtain ⟨e2, hsn, hsy⟩ := HSTEP.out i j cu hlt hs.out
        have hcu := (HLE.out i j cu hs.out).2
        have HC := Lib.hid (show CellsAt wr ⟨g, j * 6, none⟩ (eCells l[j]) from cells_mid hg.out _ _ (fun t u hu => by
          rw [← e2, List.getElem?_take] at hu
          split at hu
          · rw [List.getElem?_drop] at hu; exact hu
          · cases hu))
        have HSN := Lib.hid hsn
        have HSY := Lib.hid hsy
        have HCU := Lib.hid hcu
        clear e2 hsn hsy hcu
        generalize l[j] = x at *
        have HOF := Lib.hid (fun W hW => of1_any x nb n W hW)
        unfold eCells at HC
        cases hp : decide (x.f1 = n)
        · rw [hp] at HOF HSN
          have HSN2 := Lib.hid (HSN.out rfl)
          clear HSN HSY hp
          go_wp2_with (first
            | (with_reducible refine wpList_load_at rfl 27 (.tmp 24) rfl ⟨g, j * 6, none⟩ rfl _ _ HC.out Tryd.underlying27 rfl (by kernel_rfl) ?_)
            | (with_reducible refine wpList_alloc_new rfl 27 rfl (.agg #[.int .i64 0, .int .i64 0, .int .i64 0, .string ⟨#[]⟩, .int .i64 0, .int .i64 0]) 6 56 info27 ?_; intro w5 hh hs5 ho5)
            | (with_reducible refine wpList_store_new rfl 27 (.tmp 7) (.tmp 25) rfl wr.heap.size #[.int .i64 x.f0, .int .i64 x.f1, .int .i64 x.f2, .string x.f3, .int .i64 x.f4, .int .i64 x.f5] rfl rfl 27 _ hh.out (size6_27 _ _ _ _ _ _) rfl (by simp [Value.oneCell']) ?_; intro w6 hh2 ho6; have HH2 := Lib.hid hh2.out; have HO6 := Lib.hid (((ho5.mono (T := [wr.heap.size]) (by simp)).trans ho6).pop (Nat.le_refl _)); clear hh hh2 hs5 ho5 ho6; refine (fun (h : Hid _) => h.out) ?_))
          refine Lib.hid ?_
          have HCV := Lib.hid (show CellsAt w6 ⟨wr.heap.size, 0, none⟩ [.int .i64 x.f0, .int .i64 x.f1, .int .i64 x.f2, .string x.f3, .int .i64 x.f4, .int .i64 x.f5] from cellsAt_row HH2.out)
          have HG6 := Lib.hid (HO6.out.heap hg.out (by simp))
          have HN6 := Lib.hid (HO6.out.heap hn.out (by simp))
          have HOF6 := Lib.hid (HOF.out w6 HN6.out)
          clear HC HOF
          go_wp2_with (first
            | (with_reducible refine wpList_load_at rfl 27 (.tmp 7) rfl ⟨wr.heap.size, 0, none⟩ rfl _ _ HCV.out Tryd.underlying27 rfl (by kernel_rfl) ?_)
            | (go_at_call 37; refine HOF6.out.mono ?_; rintro e w7 ⟨rfl, hb7⟩; have HO7 := Lib.hid (Only.of_below hb7); clear hb7; refine (fun (h : Hid _) => h.out) ?_))
          refine Lib.hid ?_
          have HG7 := Lib.hid (HO7.out.heap HG6.out (by simp))
          have HN7 := Lib.hid (HO7.out.heap HN6.out (by simp))
          have HCV7 := Lib.hid (HCV.out.only HO7.out (by simp))
          have HW7 := Lib.hid (((ho.out.trans (HO6.out.mono (T := [g]) (by simp))).trans (HO7.out.mono (T := [g]) (by simp))))
          clear HG6 HN6 HCV HO6 HO7 HOF6 HH2
          go_wp2
          go_roundw
          case rel => exact ⟨i, j + 1, cu, rfl, by go_num, by omega, by omega, HSN2, HG7, HN7, HW7⟩
          case measure => simp [intOf]; omega
        · rw [hp] at HOF HSY
          have HSY2 := Lib.hid (HSY.out rfl)
          clear HSN HSY hp
          go_wp2_with (first
            | (with_reducible refine wpList_load_at rfl 27 (.tmp 24) rfl ⟨g, j * 6, none⟩ rfl _ _ HC.out Tryd.underlying27 rfl (by kernel_rfl) ?_)
            | (with_reducible refine wpList_alloc_new rfl 27 rfl (.agg #[.int .i64 0, .int .i64 0, .int .i64 0, .string ⟨#[]⟩, .int .i64 0, .int .i64 0]) 6 56 info27 ?_; intro w5 hh hs5 ho5)
            | (with_reducible refine wpList_store_new rfl 27 (.tmp 7) (.tmp 25) rfl wr.heap.size #[.int .i64 x.f0, .int .i64 x.f1, .int .i64 x.f2, .string x.f3, .int .i64 x.f4, .int .i64 x.f5] rfl rfl 27 _ hh.out (size6_27 _ _ _ _ _ _) rfl (by simp [Value.oneCell']) ?_; intro w6 hh2 ho6; have HH2 := Lib.hid hh2.out; have HO6 := Lib.hid (((ho5.mono (T := [wr.heap.size]) (by simp)).trans ho6).pop (Nat.le_refl _)); clear hh hh2 hs5 ho5 ho6; refine (fun (h : Hid _) => h.out) ?_))
          refine Lib.hid ?_
          have HCV := Lib.hid (show CellsAt w6 ⟨wr.heap.size, 0, none⟩ [.int .i64 x.f0, .int .i64 x.f1, .int .i64 x.f2, .string x.f3, .int .i64 x.f4, .int .i64 x.f5] from cellsAt_row HH2.out)
          have HG6 := Lib.hid (HO6.out.heap hg.out (by simp))
          have HN6 := Lib.hid (HO6.out.heap hn.out (by simp))
          have HOF6 := Lib.hid (HOF.out w6 HN6.out)
          clear HC HOF
          go_wp2_with (first
            | (with_reducible refine wpList_load_at rfl 27 (.tmp 7) rfl ⟨wr.heap.size, 0, none⟩ rfl _ _ HCV.out Tryd.underlying27 rfl (by kernel_rfl) ?_)
            | (go_at_call 37; refine HOF6.out.mono ?_; rintro e w7 ⟨rfl, hb7⟩; have HO7 := Lib.hid (Only.of_below hb7); clear hb7; refine (fun (h : Hid _) => h.out) ?_))
          refine Lib.hid ?_
          have HG7 := Lib.hid (HO7.out.heap HG6.out (by simp))
          have HN7 := Lib.hid (HO7.out.heap HN6.out (by simp))
          have HCV7 := Lib.hid (HCV.out.only HO7.out (by simp))
          have HW7 := Lib.hid (((ho.out.trans (HO6.out.mono (T := [g]) (by simp))).trans (HO7.out.mono (T := [g]) (by simp))))
          clear HG6 HN6 HCV HO6 HO7 HOF6 HH2
          have hcx : (eCells x).length = 6 := rfl
          go_wp2_with (first
            | (with_reducible refine wpList_load_at rfl 27 (.tmp 7) rfl ⟨wr.heap.size, 0, none⟩ rfl _ _ HCV7.out Tryd.underlying27 rfl (by kernel_rfl) ?_)
            | (with_reducible refine wpList_store_in rfl 27 (.tmp 33) (.tmp 32) rfl g (i * 6) _ rfl rfl (eCells x) rfl 27 cu HG7.out (by rw [hcx]; exact size_27) (by rw [hcx, HCU.out]; omega) (by simp [eCells, Value.oneCell']) ?_; intro w8 hg8 ho8))
          go_roundw
          case rel => exact ⟨i + 1, j + 1, _, by go_num, by go_num, by omega, by omega, HSY2, hg8, Lib.hid (ho8.out.heap HN7.out (by simpa using Ne.symm HGN.out)), Lib.hid (HW7.out.trans ho8.out)⟩
          case measure => simp [intOf]; omega
      · have hlt' : (l.length : Int) ≤ j := by omega
        obtain rfl : j = l.length := by omega
        obtain ⟨f1, f2, f3, f4⟩ := HEND.out i cu hs.out
        have HF2 := Lib.hid f2
        have HF3 := Lib.hid f3
        have HF4 := Lib.hid f4
        have hil : (i : Int) ≤ l.length := by omega
        have hil2 : (i : Int) ≤ c := by omega
        have hi0 : (0 : Int) ≤ i := by omega
        clear f2 f3 f4
        go_wp2_with (first
          | (with_reducible refine wpList_cutN 27 6 Tryd.underlying22 size_27 (some ⟨g, 0, none⟩) l.length c rfl i l.length c (bounds_l _ l.length c _ _ i rfl (by omega)) ?_)
          | (with_reducible refine wpList_clear_in 27 6 (.agg #[.int .i64 0, .int .i64 0, .int .i64 0, .string ⟨#[]⟩, .int .i64 0, .int .i64 0]) Tryd.underlying22 info227 rfl (by simp [Value.cells, Value.oneCell']) g (i * 6) (l.length - i) (c - i) (cutN (some ⟨g, 0, none⟩) i c 6) rfl (fun hp => by rw [cutN_at g 0 i c 6 (by omega), Nat.zero_add]) cu hg.out (by rw [HF2.out]; omega) ?_; intro w3 zs hz h3 ho3)
          | (with_reducible refine wpList_cutH 27 6 Tryd.underlying22 size_27 g l.length c rfl i (bounds_h _ l.length c _ _ i rfl (by omega)) ?_))
        go_ret
        have hlz : (splice cu (i * 6) zs).length = c * 6 := by rw [length_splice _ _ _ (by rw [hz, HF2.out]; omega)]; exact HF2.out
        refine ⟨_, rfl, ?_, ho.out.trans ho3.out⟩
        rw [← HF3.out]
        refine ⟨by rw [eRow_length, ← HF3.out], .inr ⟨g, c, _, rfl, hgb, h3.out, by omega, by unfold maxLen; omega, by rw [List.size_toArray, hlz], ?_⟩⟩
        show (splice cu (i * 6) zs).take (i * 6) = _
        rw [take_splice_low _ _ _ _ (Nat.le_refl _) (by rw [HF2.out]; omega)]
        exact HF4.out
end Go.Proofs.YtghpmpjoedbpcaaDoor.Print
/-! ### EJOwn -/
namespace Go.Proofs.YtghpmpjoedbpcaaDoor.Print
open Go.RowKit Go.Proofs.YtghpmpjoedbpcaaDoorW.PrintWords Go.Proofs.YtghpmpjoedbpcaaDoorW.PrintLast Go.Proofs.YtghpmpjoedbpcaaDoorW.PrintMore
set_option linter.unusedSimpArgs false
set_option linter.unusedVariables false
theorem own_q_reads {w : World} {base : Nat} {A : Option Addr} {c : Nat} {l : List S35} (h : w.ownsRow base 35 3 (.slice A l.length c) l.length (qRow l)) : l.length ≤ c ∧ Kd.C k35 w A l.length l := (Kd.R_reads' (R_q h)).2
/-- A book in memory: its three cells, and the two rows that it owns. -/
structure Bk (w : World) (base bp : Nat) (A0 : Option Addr) (c0 : Nat) (A1 : Option Addr) (c1 : Nat) (l : List S27) (q : List S35) (g : Int) : Prop where
  row : w.heap[bp]? = some (.cells #[.slice A0 l.length c0, .slice A1 q.length c1, .int .i64 g] 56 (0, 0))
  hb : base ≤ bp
  ol : w.ownsRow base 27 6 (.slice A0 l.length c0) l.length (eRow l)
  oq : w.ownsRow base 35 3 (.slice A1 q.length c1) q.length (qRow q)
  nl : (Value.slice A0 l.length c0).ownBlock ≠ some bp
  nq : (Value.slice A1 q.length c1).ownBlock ≠ some bp
  nlq : ∀ k, (Value.slice A0 l.length c0).ownBlock = some k → (Value.slice A1 q.length c1).ownBlock ≠ some k
theorem Bk.below {w w' : World} {base bp : Nat} {A0 : Option Addr} {c0 : Nat} {A1 : Option Addr} {c1 : Nat} {l : List S27} {q : List S35} {g : Int} (h : Bk w base bp A0 c0 A1 c1 l q g) (hb : Below w.heap.size w w') : Bk w' base bp A0 c0 A1 c1 l q g :=
  ⟨(hb.block _ (heap_lt h.row)).trans h.row, h.hb, ownsRow_only h.ol (Only.of_below hb) (by simp), ownsRow_only h.oq (Only.of_below hb) (by simp), h.nl, h.nq, h.nlq⟩
theorem Bk.reads {w : World} {base bp : Nat} {A0 : Option Addr} {c0 : Nat} {A1 : Option Addr} {c1 : Nat} {l : List S27} {q : List S35} {g : Int} (h : Bk w base bp A0 c0 A1 c1 l q g) : (l.length ≤ c0 ∧ Kd.C k27 w A0 l.length l) ∧ (q.length ≤ c1 ∧ Kd.C k35 w A1 q.length q) := ⟨own_e_reads h.ol, own_q_reads h.oq⟩
/-- A journal as a value, whose lists one owns. -/
def JR (w : World) (base : Nat) (v : Value) (l : List S27) (q : List S35) (g : Int) : Prop := ∃ A0 c0 A1 c1, v = .agg #[.slice A0 l.length c0, .slice A1 q.length c1, .int .i64 g] ∧ w.ownsRow base 27 6 (.slice A0 l.length c0) l.length (eRow l) ∧ w.ownsRow base 35 3 (.slice A1 q.length c1) q.length (qRow q)
theorem JR.only {S : List Nat} {w w' : World} {base : Nat} {v : Value} {l : List S27} {q : List S35} {g : Int} (h : JR w base v l q g) (hb : Only S w w') (hS : ∀ k, k ∈ S → k < base) : JR w' base v l q g := by
  obtain ⟨A0, c0, A1, c1, rfl, h1, h2⟩ := h
  exact ⟨A0, c0, A1, c1, rfl, ownsRow_only h1 hb (fun k hk hs => by have := (ownsRow_lt h1 hk).1; have := hS k hs; omega), ownsRow_only h2 hb (fun k hk hs => by have := (ownsRow_lt h2 hk).1; have := hS k hs; omega)⟩
theorem JR.mono {w : World} {base base' : Nat} {v : Value} {l : List S27} {q : List S35} {g : Int} (h : JR w base v l q g) (hb : base' ≤ base) : JR w base' v l q g := by
  obtain ⟨A0, c0, A1, c1, rfl, h1, h2⟩ := h
  exact ⟨A0, c0, A1, c1, rfl, ownsRow_mono h1 hb, ownsRow_mono h2 hb⟩
theorem slice_of_own {w : World} {base : Nat} {e : TypeId} {size : Nat} {v : Value} {n : Nat} {xs : List Value} (h : w.ownsRow base e size v n xs) : ∃ A c, v = .slice A n c := by
  obtain ⟨A, c, rfl, _⟩ := ownsRow_slice h
  exact ⟨A, c, rfl⟩
set_option maxHeartbeats 8000000 in
set_option maxRecDepth 100000 in
theorem own_any (A0 : Option Addr) (c0 : Nat) (A1 : Option Addr) (c1 : Nat) (l : List S27) (q : List S35) (g : Int) (w : World) (h0 : Kd.C k27 w A0 l.length l) (h1 : Kd.C k35 w A1 q.length q) (hl : l.length ≤ 1000000000) (hq : q.length ≤ 1000000000) :
    Calls Tryd.prog 30 #[.agg #[.slice A0 l.length c0, .slice A1 q.length c1, .int .i64 g]] w fun e w' => ∃ bp B0 d0 B1 d1, e = .returned (.pointer (some ⟨bp, 0, none⟩)) ∧ Bk w' w.heap.size bp B0 d0 B1 d1 l q g ∧ Only [] w w' := by
  have HE := Lib.hid h0
  have HQ := Lib.hid h1
  have hu := Tryd.underlying25
  clear h0 h1
  go_enter Tryd.func30, Tryd.ntmps30
  go_wp2_with fail
  have HX1 := Lib.hid (heap_alloc_new w (.cells #[.slice A0 l.length c0, .slice A1 q.length c1, .int .i64 g] 25))
  have HO0 := Lib.hid ((Only.refl [] w).alloc (.cells #[.slice A0 l.length c0, .slice A1 q.length c1, .int .i64 g] 25))
  have HS0 := Lib.hid (show w.heap.size < (w.alloc (.cells #[.slice A0 l.length c0, .slice A1 q.length c1, .int .i64 g] 25)).heap.size by simp)
  generalize w.alloc (.cells #[.slice A0 l.length c0, .slice A1 q.length c1, .int .i64 g] 25) = W0 at *
  generalize hb : w.heap.size = b at *
  have HBB := Lib.hid hb
  clear hb
  refine L.grow_start [] 12 ((0, true, false) :: (1, true, false) :: (3, true, false) :: (4, true, false) :: (6, true, false) :: (7, true, false) :: (2, false, true) :: (5, false, true) :: (8, true, true) :: (9, true, true) :: (10, false, true) :: (11, true, true) :: []) (by kernel_rfl) (([], [1], some 3) :: ([0], [3], some 4) :: ([1], [4], some 5) :: ([], [1], some 6) :: ([3], [6], some 7) :: ([4, 2], [7], some 8) :: ([], [1], some 9) :: ([6], [9], some 10) :: ([2, 5, 7], [5, 8, 10], some 11) :: ([8], [11], some 12) :: ([9], [12], some 13) :: ([10, 5, 0, 1, 2, 3, 4, 5, 6, 7, 8, 9, 10], [13], some 2) :: []) (by kernel_rfl) (by kernel_rfl) (n := 12) rfl (by kernel_rfl) (fun _ _ _ _ _ h => h) (fun wg hog => ?_)
  refine L.growe_start (N := 14) (by rfl) ?_
  have e0 : ∀ w', Only [] wg w' → w'.cell? ⟨b, 0, none⟩ = some (.slice A0 l.length c0) := fun w' k => (cell_of_row w' b 0 _ _ _ ((hog.trans k).heap HX1.out (by simp))).trans rfl
  have e1 : ∀ w', Only [] wg w' → w'.cell? ⟨b, 1, none⟩ = some (.slice A1 q.length c1) := fun w' k => (cell_of_row w' b 1 _ _ _ ((hog.trans k).heap HX1.out (by simp))).trans rfl
  have e2 : ∀ w', Only [] wg w' → w'.cell? ⟨b, 2, none⟩ = some (.int .i64 g) := fun w' k => (cell_of_row w' b 2 _ _ _ ((hog.trans k).heap HX1.out (by simp))).trans rfl
  have HOG := Lib.hid hog
  have HW := Lib.hid (HO0.out.trans hog)
  have HE1 := Lib.hid (clone_e A0 c0 l wg (Kd.C_below HE.out (HW.out.nil_below)) hl)
  clear hog HX1 HE
  iterate 6 (first | (refine L.ge_off rfl rfl rfl (by rfl) ?_) | (refine L.ge_move rfl rfl rfl (by rfl) rfl (by simp [L.evE, L.lk, Act.eval]; rfl) ?_) | (refine L.ge_pick rfl rfl rfl (by rfl) rfl (by simp [L.evE, L.lk, Act.eval]; rfl) (by simp [L.evE, L.lk, Act.eval]; rfl) ?_) | (refine L.ge_val rfl rfl rfl (by rfl) (by intro w' hw'; simp [execOp, L.evE, L.lk, Act.eval]; go_simp; rfl) ?_))
  refine L.ge_call rfl rfl rfl (by rfl) rfl (by simp [L.evE, L.lk, Act.eval]; rfl) (by go_simp) ?_
  refine HE1.out.mono ?_
  rintro e w1 ⟨v1, rfl, hown1, ho1⟩
  refine ⟨v1, rfl, ho1, ?_⟩
  have HW1 := Lib.hid (HW.out.trans ho1)
  have HR1 := Lib.hid (ownsRow_mono hown1 (show b ≤ wg.heap.size by have := HW.out.size; rw [← HBB.out]; exact this))
  have HS1 := Lib.hid (show ∀ k, v1.ownBlock = some k → wg.heap.size ≤ k ∧ k < w1.heap.size from fun k hk => ownsRow_lt hown1 hk)
  have HQ1 := Lib.hid (clone_q A1 c1 q w1 (Kd.C_below HQ.out (HW1.out.nil_below)) hq)
  have f1 : ∀ w', Only [] w1 w' → w'.cell? ⟨b, 1, none⟩ = some (.slice A1 q.length c1) := fun w' k => e1 w' (ho1.trans k)
  have f2 : ∀ w', Only [] w1 w' → w'.cell? ⟨b, 2, none⟩ = some (.int .i64 g) := fun w' k => e2 w' (ho1.trans k)
  clear e0 e1 e2 HE1 HQ ho1 hown1
  refine L.ge_call rfl rfl rfl (by rfl) rfl (by simp [L.evE, L.lk, Act.eval]; rfl) (by go_simp) ?_
  refine HQ1.out.mono ?_
  rintro e w2 ⟨v2, rfl, hown2, ho2⟩
  refine ⟨v2, rfl, ho2, ?_⟩
  have HO2 := Lib.hid (HW1.out.trans ho2)
  have HR2 := Lib.hid (ownsRow_mono hown2 (show b ≤ w1.heap.size by have := HW1.out.size; rw [← HBB.out]; exact this))
  have HS2 := Lib.hid (show ∀ k, v2.ownBlock = some k → w1.heap.size ≤ k ∧ k < w2.heap.size from fun k hk => ownsRow_lt hown2 hk)
  have HR1b := Lib.hid (ownsRow_only HR1.out ho2 (by simp))
  have HZ := Lib.hid (show w1.heap.size ≤ w2.heap.size from ho2.size)
  clear f1 f2 HQ1 hown2 ho2 HR1
  obtain ⟨B0, d0, rfl⟩ := slice_of_own HR1b.out
  obtain ⟨B1, d1, rfl⟩ := slice_of_own HR2.out
  iterate 2 (first | (refine L.ge_off rfl rfl rfl (by rfl) ?_) | (refine L.ge_move rfl rfl rfl (by rfl) rfl (by simp [L.evE, L.lk, Act.eval]; rfl) ?_) | (refine L.ge_pick rfl rfl rfl (by rfl) rfl (by simp [L.evE, L.lk, Act.eval]; rfl) (by simp [L.evE, L.lk, Act.eval]; rfl) ?_) | (refine L.ge_val rfl rfl rfl (by rfl) (by intro w' hw'; simp [execOp, L.evE, L.lk, Act.eval]; go_simp; rfl) ?_))
  refine L.ge_mem rfl rfl rfl (by rfl) (v := .pointer (some ⟨w2.heap.size, 0, none⟩)) (w' := w2.alloc (.cells #[.slice B0 l.length d0, .slice B1 q.length d1, .int .i64 g] 56)) (by simp [execOp, L.evE, L.lk, Act.eval]; go_simp) ((Only.refl _ _).alloc _) ?_
  iterate 1 (first | (refine L.ge_off rfl rfl rfl (by rfl) ?_) | (refine L.ge_move rfl rfl rfl (by rfl) rfl (by simp [L.evE, L.lk, Act.eval]; rfl) ?_) | (refine L.ge_pick rfl rfl rfl (by rfl) rfl (by simp [L.evE, L.lk, Act.eval]; rfl) (by simp [L.evE, L.lk, Act.eval]; rfl) ?_) | (refine L.ge_val rfl rfl rfl (by rfl) (by intro w' hw'; simp [execOp, L.evE, L.lk, Act.eval]; go_simp; rfl) ?_))
  refine L.ge_done ?_
  simp only [L.puts, Act.put, goInt, List.setIfInBounds_toArray, List.set_cons_zero, List.set_cons_succ]
  go_wp2
  go_ret
  have ha : Only [] w2 (w2.alloc (.cells #[.slice B0 l.length d0, .slice B1 q.length d1, .int .i64 g] 56)) := (Only.refl _ _).alloc _
  refine ⟨w2.heap.size, B0, d0, B1, d1, rfl, ⟨heap_alloc_new _ _, ?_, (by rw [HBB.out]; exact ownsRow_only HR1b.out ha (by simp)), (by rw [HBB.out]; exact ownsRow_only HR2.out ha (by simp)), ?_, ?_, ?_⟩, HO2.out.trans ha⟩
  · exact HO2.out.size
  · intro h; have := HS1.out _ h; have := HZ.out; omega
  · intro h; have := HS2.out _ h; omega
  · intro k h h'; have := HS1.out _ h; have := HS2.out _ h'; omega
end Go.Proofs.YtghpmpjoedbpcaaDoor.Print
/-! ### EJOpen -/
namespace Go.Proofs.YtghpmpjoedbpcaaDoor.Print
open Go.RowKit Go.Proofs.YtghpmpjoedbpcaaDoorW.PrintWords Go.Proofs.YtghpmpjoedbpcaaDoorW.PrintLast Go.Proofs.YtghpmpjoedbpcaaDoorW.PrintMore
set_option linter.unusedSimpArgs false
set_option linter.unusedVariables false
/-- A journal. -/
structure Jn where
  l : List S27
  q : List S35
  g : Int
def zJn : Jn := ⟨[], [], 0⟩
/-- One that may be handed in: its lists and names are no longer than memory. -/
def Jok (j : Jn) : Prop := namesOk j.l ∧ j.l.length ≤ 1000000000 ∧ j.q.length ≤ 1000000000
theorem right_calls (A0 : Option Addr) (c0 : Nat) (A1 : Option Addr) (c1 : Nat) (j : Jn) (w : World) (h0 : j.l.length ≤ c0 ∧ Kd.C k27 w A0 j.l.length j.l) (h1 : j.q.length ≤ c1 ∧ Kd.C k35 w A1 j.q.length j.q) (hT : Tabs w) (hj : Jok j) :
    Calls Tryd.prog 14 #[.agg #[.slice A0 j.l.length c0, .slice A1 j.q.length c1, .int .i64 j.g]] w fun e w' => e = .returned (.bool (rightJ j.l j.q j.g)) ∧ Below w.heap.size w w' :=
  journal_Right.calls A0 c0 j.l A1 c1 j.q j.g _ w h0.2 h0.1 h1.2 h1.1 hT (if_pos hj)
theorem right_parts {j : Jn} (h : rightJ j.l j.q j.g = true) : leftOk j.q ∧ batchOk j.q ∧ risingB j.q = true ∧ wi j.g 0 = true ∧ usedZ j.l j.q ≤ 120 ∧ j.l.any strangeB = false ∧ j.q.any oddB = false := by
  have hl := rightJ_left h
  unfold rightJ at h
  simp only [Bool.and_eq_true, Bool.not_eq_true', decide_eq_true_eq] at h
  exact ⟨hl, batchOk_of h.1.1.1.2, h.1.2, h.1.1.2, h.2, h.1.1.1.1, h.1.1.1.2⟩
theorem jr_zero (w : World) (base : Nat) : JR w base (.agg #[.slice none 0 0, .slice none 0 0, .int .i64 0]) zJn.l zJn.q zJn.g :=
  ⟨none, 0, none, 0, rfl, ownsRow_nil w base _ _, ownsRow_nil w base _ _⟩
def openJ (j : Jn) (b n : Int) : Jn × Int :=
  if rightJ j.l j.q j.g = false ∨ wi b 1 = false ∨ n < 1 ∨ 40 < n then (zJn, 1)
  else if placeB j.q b = true then (zJn, 5)
  else if 120 < usedZ j.l j.q + n then (zJn, 180)
  else (⟨j.l, j.q.take (placeI j.q b) ++ ⟨b, n, 0⟩ :: j.q.drop (placeI j.q b), j.g⟩, 0)
theorem usedFrom_ge : ∀ (q : List S35) (n : Int), leftOk q → 0 ≤ n → 0 ≤ usedFrom n q
  | [], n, _, h => h
  | x :: q, n, hq, h => by
    have hx := hq x (by simp)
    exact usedFrom_ge q _ (fun y hy => hq y (List.mem_cons_of_mem _ hy)) (by unfold mn; split <;> omega)
theorem usedZ_ge (l : List S27) (q : List S35) (h : leftOk q) : 0 ≤ usedZ l q := usedFrom_ge q _ h (by unfold mn; split <;> omega)
theorem placeI_le : ∀ (q : List S35) (n : Int), placeI q n ≤ q.length
  | [], _ => Nat.le_refl _
  | x :: q, n => by
    unfold placeI
    split
    · have := placeI_le q n
      simpa using this
    · simp
theorem size3_25 (a b c : Value) : (Tryd.prog.info? 25).map (·.size) = some (#[a, b, c] : Array Value).size := (show (Tryd.prog.info? 25).map (·.size) = some 3 by kernel_rfl)
set_option maxHeartbeats 8000000 in
set_option maxRecDepth 100000 in
theorem open_calls (A0 : Option Addr) (c0 : Nat) (A1 : Option Addr) (c1 : Nat) (j : Jn) (b n : Int) (w : World) (h0 : j.l.length ≤ c0 ∧ Kd.C k27 w A0 j.l.length j.l) (h1 : j.q.length ≤ c1 ∧ Kd.C k35 w A1 j.q.length j.q) (hT : Tabs w) (hj : Jok j) :
    Calls Tryd.prog 19 #[.agg #[.slice A0 j.l.length c0, .slice A1 j.q.length c1, .int .i64 j.g], .int .i64 b, .int .i64 n] w fun e w' => ∃ v, e = .returned (.tuple #[v, .int .i64 (openJ j b n).2]) ∧ JR w' w.heap.size v (openJ j b n).1.l (openJ j b n).1.q (openJ j b n).1.g ∧ Below w.heap.size w w' := by
  obtain ⟨R, hR⟩ : ∃ R, R = openJ j b n := ⟨_, rfl⟩
  rw [← hR]
  have HRR := Lib.hid hR
  have HA := Lib.hid h0
  have HB := Lib.hid h1
  have HT := Lib.hid hT
  have HJ := Lib.hid hj
  clear hR h0 h1 hT hj
  go_enter Tryd.func19, Tryd.ntmps19
  go_wp2_with (go_at_call 14; refine (fun (h : Hid _) => h.out) ?_)
  refine Lib.hid ?_
  have HS0 := Lib.hid (show w.heap.size + 1 < ((w.alloc (.cells #[.slice A0 j.l.length c0, .slice A1 j.q.length c1, .int .i64 j.g] 25)).alloc (.cells #[.slice none 0 0, .slice none 0 0, .int .i64 0] 25)).heap.size by simp)
  have HX0 := Lib.hid (show ((w.alloc (.cells #[.slice A0 j.l.length c0, .slice A1 j.q.length c1, .int .i64 j.g] 25)).alloc (.cells #[.slice none 0 0, .slice none 0 0, .int .i64 0] 25)).heap[w.heap.size]? = some (.cells #[.slice A0 j.l.length c0, .slice A1 j.q.length c1, .int .i64 j.g] 25 (0, 0)) from (Below.heap_alloc _ _ _ (by simp)).trans (heap_alloc_new _ _))
  have HX1 := Lib.hid (show ((w.alloc (.cells #[.slice A0 j.l.length c0, .slice A1 j.q.length c1, .int .i64 j.g] 25)).alloc (.cells #[.slice none 0 0, .slice none 0 0, .int .i64 0] 25)).heap[w.heap.size + 1]? = some (.cells #[.slice none 0 0, .slice none 0 0, .int .i64 0] 25 (0, 0)) from by
    have := heap_alloc_new (w.alloc (.cells #[.slice A0 j.l.length c0, .slice A1 j.q.length c1, .int .i64 j.g] 25)) (.cells #[.slice none 0 0, .slice none 0 0, .int .i64 0] 25)
    simpa using this)
  have HO0 := Lib.hid (((Only.refl [] w).alloc (.cells #[.slice A0 j.l.length c0, .slice A1 j.q.length c1, .int .i64 j.g] 25)).alloc (.cells #[.slice none 0 0, .slice none 0 0, .int .i64 0] 25))
  generalize (w.alloc (.cells #[.slice A0 j.l.length c0, .slice A1 j.q.length c1, .int .i64 j.g] 25)).alloc (.cells #[.slice none 0 0, .slice none 0 0, .int .i64 0] 25) = W0 at *
  generalize hb : w.heap.size = wb at *
  have HBB := Lib.hid hb
  clear hb
  refine (right_calls A0 c0 A1 c1 j W0 ⟨HA.out.1, Kd.C_below HA.out.2 HO0.out.nil_below⟩ ⟨HB.out.1, Kd.C_below HB.out.2 HO0.out.nil_below⟩ (HT.out.below HO0.out.nil_below) HJ.out).mono ?_
  rintro e W1 ⟨rfl, hb1⟩
  have HO1 := Lib.hid (HO0.out.trans (Only.of_below hb1))
  have HY0 := Lib.hid ((Only.of_below hb1).heap HX0.out (by simp))
  have HY1 := Lib.hid ((Only.of_below hb1).heap HX1.out (by simp))
  clear hb1 HX0 HX1 HO0
  unfold openJ at HRR
  cases hr : rightJ j.l j.q j.g
  · have HR0 := Lib.hid (HRR.out.trans (if_pos (.inl hr)))
    clear hr HRR
    go_wp2_with (first
      | (with_reducible refine wpList_store_new rfl 25 (.tmp 6) (.tmp 27) rfl (wb + 1) #[.slice none 0 0, .slice none 0 0, .int .i64 0] rfl rfl 25 _ HY1.out (size3_25 _ _ _) rfl (by simp [Value.oneCell']) ?_; intro w9 hh9 ho9))
    refine bodyPost_ret (results_row rfl _ _ (wb + 1) _ _ _ _ rfl hh9.out Tryd.underlying25 rfl (size3_25 _ _ _)) rfl ?_
    rw [HR0.out]
    exact ⟨_, rfl, jr_zero _ _, (((HO1.out.mono (T := [wb + 1]) (by simp)).trans ho9).pop (by rw [HBB.out]; omega)).nil_below⟩
  obtain ⟨hL, hBt, hRi, hG, hU, hE, hOd⟩ := right_parts hr
  have hU0 := usedZ_ge j.l j.q hL
  have hrr := HRR.out
  rw [hr] at hrr
  have HRR := Lib.hid hrr
  clear hrr
  go_wp2_with (go_at_call 38; refine (within_any b 1 W1).mono ?_; rintro e W2 ⟨rfl, hb2⟩; have HO2 := Lib.hid (Only.of_below hb2); clear hb2; refine (fun (h : Hid _) => h.out) ?_)
  refine Lib.hid ?_
  have HZ0 := Lib.hid (HO2.out.heap HY0.out (by simp))
  have HZ1 := Lib.hid (HO2.out.heap HY1.out (by simp))
  have HW2 := Lib.hid (HO1.out.trans HO2.out)
  clear HY0 HY1 HO1 HO2
  cases hwi : wi b 1
  · have HR0 := Lib.hid (HRR.out.trans (if_pos (.inr (.inl hwi))))
    clear hwi HRR
    go_wp2_with (first
      | (with_reducible refine wpList_store_new rfl 25 (.tmp 6) (.tmp 27) rfl (wb + 1) #[.slice none 0 0, .slice none 0 0, .int .i64 0] rfl rfl 25 _ HZ1.out (size3_25 _ _ _) rfl (by simp [Value.oneCell']) ?_; intro w9 hh9 ho9))
    refine bodyPost_ret (results_row rfl _ _ (wb + 1) _ _ _ _ rfl hh9.out Tryd.underlying25 rfl (size3_25 _ _ _)) rfl ?_
    rw [HR0.out]
    exact ⟨_, rfl, jr_zero _ _, (((HW2.out.mono (T := [wb + 1]) (by simp)).trans ho9).pop (by rw [HBB.out]; omega)).nil_below⟩
  by_cases hn1 : n < 1
  · have HR0 := Lib.hid (HRR.out.trans (if_pos (.inr (.inr (.inl hn1)))))
    clear hwi HRR
    go_wp2_with (first
      | (with_reducible refine wpList_store_new rfl 25 (.tmp 6) (.tmp 27) rfl (wb + 1) #[.slice none 0 0, .slice none 0 0, .int .i64 0] rfl rfl 25 _ HZ1.out (size3_25 _ _ _) rfl (by simp [Value.oneCell']) ?_; intro w9 hh9 ho9))
    refine bodyPost_ret (results_row rfl _ _ (wb + 1) _ _ _ _ rfl hh9.out Tryd.underlying25 rfl (size3_25 _ _ _)) rfl ?_
    rw [HR0.out]
    exact ⟨_, rfl, jr_zero _ _, (((HW2.out.mono (T := [wb + 1]) (by simp)).trans ho9).pop (by rw [HBB.out]; omega)).nil_below⟩
  by_cases hn2 : 40 < n
  · have HR0 := Lib.hid (HRR.out.trans (if_pos (.inr (.inr (.inr hn2)))))
    clear hwi HRR
    go_wp2_with (first
      | (with_reducible refine wpList_store_new rfl 25 (.tmp 6) (.tmp 27) rfl (wb + 1) #[.slice none 0 0, .slice none 0 0, .int .i64 0] rfl rfl 25 _ HZ1.out (size3_25 _ _ _) rfl (by simp [Value.oneCell']) ?_; intro w9 hh9 ho9))
    refine bodyPost_ret (results_row rfl _ _ (wb + 1) _ _ _ _ rfl hh9.out Tryd.underlying25 rfl (size3_25 _ _ _)) rfl ?_
    rw [HR0.out]
    exact ⟨_, rfl, jr_zero _ _, (((HW2.out.mono (T := [wb + 1]) (by simp)).trans ho9).pop (by rw [HBB.out]; omega)).nil_below⟩
  have hn3 : 1 ≤ n := by omega
  have hn4 : n ≤ 40 := by omega
  have HRR := Lib.hid (HRR.out.trans (if_neg (by rw [hwi]; simp; omega)))
  have hbb : 0 ≤ b ∧ b ≤ 1099511627776 := by
    unfold wi at hwi
    simp only [Bool.and_eq_true, decide_eq_true_eq] at hwi
    omega
  obtain ⟨hb0, hb9⟩ := hbb
  have HOWN := Lib.hid (own_any A0 c0 A1 c1 j.l j.q j.g W2 (Kd.C_below HA.out.2 HW2.out.nil_below) (Kd.C_below HB.out.2 HW2.out.nil_below) HJ.out.2.1 HJ.out.2.2)
  go_wp2_with (first
    | (with_reducible refine wpList_load_at rfl 25 (.tmp 3) rfl ⟨wb, 0, none⟩ rfl _ _ (cellsAt_row HZ0.out) Tryd.underlying25 rfl (by kernel_rfl) ?_)
    | (go_at_call 30; refine HOWN.out.mono ?_; rintro e W3 ⟨bp, B0, d0, B1, d1, rfl, hbk, ho3⟩; refine (fun (h : Hid _) => h.out) ?_))
  refine Lib.hid ?_
  have HBK := Lib.hid hbk
  have HY1 := Lib.hid (ho3.heap HZ1.out (by simp))
  have HW3 := Lib.hid (HW2.out.trans ho3)
  have HZ2 := HZ1
  have HW2S := Lib.hid (show w.heap.size ≤ W2.heap.size from HW2.out.size)
  have HBP := Lib.hid (show wb + 1 < bp from Nat.lt_of_lt_of_le (heap_lt HZ1.out) hbk.hb)
  clear hbk ho3 HZ0 HZ1 HW2 HOWN
  have HPL := Lib.hid (place_any bp j.l.length d0 B0 B1 d1 j.q j.g b W3 HBK.out.row HBK.out.reads.2.2 (by have := HJ.out.2.2; omega) hRi hBt hb0 hb9)
  go_wp2_with (go_at_call 33; refine HPL.out.mono ?_; rintro e W4 ⟨rfl, hb4⟩; refine (fun (h : Hid _) => h.out) ?_)
  refine Lib.hid ?_
  have HBK4 := Lib.hid (HBK.out.below hb4)
  have HZ1 := Lib.hid ((Only.of_below hb4).heap HY1.out (by simp))
  have HW4 := Lib.hid (HW3.out.trans (Only.of_below hb4))
  have HS34 := Lib.hid hb4.size
  clear hb4 HBK HY1 HW3 HPL
  cases hpb : placeB j.q b
  rotate_left
  · have HR0 := Lib.hid (HRR.out.trans (if_pos hpb))
    clear hpb HRR
    go_wp2_with (first
      | (with_reducible refine wpList_store_new rfl 25 (.tmp 6) (.tmp 38) rfl (wb + 1) #[.slice none 0 0, .slice none 0 0, .int .i64 0] rfl rfl 25 _ HZ1.out (size3_25 _ _ _) rfl (by simp [Value.oneCell']) ?_; intro w9 hh9 ho9))
    refine bodyPost_ret (results_row rfl _ _ (wb + 1) _ _ _ _ rfl hh9.out Tryd.underlying25 rfl (size3_25 _ _ _)) rfl ?_
    rw [HR0.out]
    exact ⟨_, rfl, jr_zero _ _, (((HW4.out.mono (T := [wb + 1]) (by simp)).trans ho9).pop (by rw [HBB.out]; omega)).nil_below⟩
  have HRR := Lib.hid (HRR.out.trans (if_neg (by rw [hpb]; simp)))
  have HUS := Lib.hid (used_any bp j.l.length d0 B0 B1 d1 j.q j.g W4 HBK4.out.row HBK4.out.reads.2.2 hL (by have := HJ.out.2.1; omega) (by have := HJ.out.2.2; omega))
  clear hpb
  have HPI := Lib.hid (placeI_le j.q b)
  unfold usedZ at hU hU0 HRR
  generalize usedFrom (mn (j.l.length : Int) 121) j.q = uz at *
  go_wp2_with (go_at_call 34; refine HUS.out.mono ?_; rintro e W5 ⟨rfl, hb5⟩; refine (fun (h : Hid _) => h.out) ?_)
  refine Lib.hid ?_
  have HBK5 := Lib.hid (HBK4.out.below hb5)
  have HY1 := Lib.hid ((Only.of_below hb5).heap HZ1.out (by simp))
  have HW5 := Lib.hid (HW4.out.trans (Only.of_below hb5))
  clear hb5 HBK4 HZ1 HW4 HUS
  by_cases hful : 120 < uz + n
  · have HR0 := Lib.hid (HRR.out.trans (if_pos hful))
    clear HRR
    go_wp2_with (first
      | (with_reducible refine wpList_store_new rfl 25 (.tmp 6) (.tmp 45) rfl (wb + 1) #[.slice none 0 0, .slice none 0 0, .int .i64 0] rfl rfl 25 _ HY1.out (size3_25 _ _ _) rfl (by simp [Value.oneCell']) ?_; intro w9 hh9 ho9))
    refine bodyPost_ret (results_row rfl _ _ (wb + 1) _ _ _ _ rfl hh9.out Tryd.underlying25 rfl (size3_25 _ _ _)) rfl ?_
    rw [HR0.out]
    exact ⟨_, rfl, jr_zero _ _, (((HW5.out.mono (T := [wb + 1]) (by simp)).trans ho9).pop (by rw [HBB.out]; omega)).nil_below⟩
  have hful' : uz + n ≤ 120 := by omega
  have HRR := Lib.hid (HRR.out.trans (if_neg hful))
  clear hful
  have a1 : W5.cell? ⟨bp, 1, none⟩ = some (.slice B1 j.q.length d1) := (cell_of_row W5 bp 1 _ _ _ HBK5.out.row).trans rfl
  go_wp2_with (go_at_call 39; refine (fun (h : Hid _) => h.out) ?_)
  refine Lib.hid ?_
  obtain ⟨i, hi⟩ : ∃ i, i = placeI j.q b := ⟨_, rfl⟩
  rw [← hi] at HPI HRR ⊢
  clear hi a1
  have HV6 := Lib.hid (heap_alloc_new W5 (.cells #[.int .i64 b, .int .i64 n, .int .i64 0] 35))
  have hb6 := (Below.refl W5.heap.size W5).alloc (Nat.le_refl _) (.cells #[.int .i64 b, .int .i64 n, .int .i64 0] 35)
  have HBK6 := Lib.hid (HBK5.out.below hb6)
  have HZ1 := Lib.hid ((Only.of_below hb6).heap HY1.out (by simp))
  have HW6 := Lib.hid (HW5.out.trans (Only.of_below hb6))
  have HLT := Lib.hid (show ∀ k, (Value.slice B1 j.q.length d1).ownBlock = some k → k < W5.heap.size from fun k hk => (ownsRow_lt HBK5.out.oq hk).2)
  have hwb6 : W2.heap.size ≤ (W5.alloc (.cells #[.int .i64 b, .int .i64 n, .int .i64 0] 35)).heap.size := Nat.le_trans HBK6.out.hb (Nat.le_of_lt (heap_lt HBK6.out.row))
  generalize W5.alloc (.cells #[.int .i64 b, .int .i64 n, .int .i64 0] 35) = W6 at *
  refine (insert_any _ j.q.length i W2.heap.size (qRow j.q) [.int .i64 b, .int .i64 n, .int .i64 0] W5.heap.size W6 HBK6.out.oq (qRow_one _) rfl (by simp [Value.oneCell']) HV6.out (fun h => by have := HLT.out _ h; omega) HPI.out (by have := HJ.out.2.2; omega) hwb6).mono ?_
  rintro e W7 ⟨v7, rfl, hown7, hk7, ho7⟩
  have hml : ∀ k, k ∈ (Value.slice B1 j.q.length d1).ownBlock.toList → (Value.slice B1 j.q.length d1).ownBlock = some k := fun k hk => by simpa using hk
  have HR7 := Lib.hid (ho7.heap HBK6.out.row (fun h => HBK6.out.nq (hml _ h)))
  have HL7 := Lib.hid (ownsRow_only HBK6.out.ol ho7 (fun k hk h => HBK6.out.nlq k hk (hml _ h)))
  have HQ7 := Lib.hid hown7
  have HY7 := Lib.hid (ho7.heap HZ1.out (fun h => by have := (ownsRow_lt HBK6.out.oq (hml _ h)).1; have := HBK6.out.hb; have := heap_lt HZ2.out; omega))
  have HW7 := Lib.hid (HW6.out.then ho7 (fun k hk => .inr (by have := (ownsRow_lt HBK6.out.oq (hml _ hk)).1; have := HW2S.out; omega)))
  have HNB := Lib.hid (show v7.ownBlock ≠ some bp from fun h => by
    rcases hk7 _ h with h | h
    · exact HBK6.out.nq h
    · have := heap_lt HBK6.out.row; omega)
  have HNL := Lib.hid (HBK6.out.nl)
  have HNLW := Lib.hid (show (Value.slice B0 j.l.length d0).ownBlock ≠ some (wb + 1) from fun h => by have := (ownsRow_lt HBK6.out.ol h).1; have := heap_lt HZ2.out; omega)
  have HNBW := Lib.hid (show v7.ownBlock ≠ some (wb + 1) from fun h => by
    rcases hk7 _ h with h | h
    · have := (ownsRow_lt HBK6.out.oq h).1; have := heap_lt HZ2.out; omega
    · have := heap_lt HZ1.out; omega)
  clear HBK5 HBK6 HY1 HZ1 HW5 HW6 HV6 HLT hown7 hk7 ho7 hml
  obtain ⟨A7, c7, rfl⟩ := slice_of_own HQ7.out
  go_wp2_with (first
    | (with_reducible refine wpList_store_in rfl 23 (.tmp 60) (.tmp 57) rfl bp 1 _ rfl rfl [.slice A7 (j.q.length + 1) c7] rfl 56 [.slice B0 j.l.length d0, .slice B1 j.q.length d1, .int .i64 j.g] HR7.out (by kernel_rfl) (by simp) (by simp [Value.oneCell']) ?_; intro W8 hr8 ho8; refine (fun (h : Hid _) => h.out) ?_))
  refine Lib.hid ?_
  have HR8 := Lib.hid (show W8.heap[bp]? = some (.cells #[.slice B0 j.l.length d0, .slice A7 (j.q.length + 1) c7, .int .i64 j.g] 56 (0, 0)) from hr8.out)
  have HL8 := Lib.hid (ownsRow_only HL7.out ho8.out (fun k hk h => by simp at h; subst h; exact HNL.out hk))
  have HQ8 := Lib.hid (ownsRow_only HQ7.out ho8.out (fun k hk h => by simp at h; subst h; exact HNB.out hk))
  have HY8 := Lib.hid (ho8.out.heap HY7.out (by simp; have := HBP.out; omega))
  have HW8 := Lib.hid (HW7.out.then ho8.out (fun k hk => .inr (by simp at hk; subst hk; have := HBP.out; have := HBB.out; omega)))
  clear HR7 HL7 HQ7 HY7 HW7 hr8 ho8
  go_wp2_with (first
    | (with_reducible refine wpList_load_at rfl 25 (.tmp 63) rfl ⟨bp, 0, none⟩ rfl _ _ (cellsAt_row HR8.out) Tryd.underlying25 rfl (by kernel_rfl) ?_)
    | (with_reducible refine wpList_store_new rfl 25 (.tmp 6) (.tmp 64) rfl (wb + 1) #[.slice B0 j.l.length d0, .slice A7 (j.q.length + 1) c7, .int .i64 j.g] rfl rfl 25 _ HY8.out (size3_25 _ _ _) rfl (by simp [Value.oneCell']) ?_; intro w9 hh9 ho9))
  refine bodyPost_ret (results_row rfl _ _ (wb + 1) _ _ _ _ rfl hh9.out Tryd.underlying25 rfl (size3_25 _ _ _)) rfl ?_
  rw [HRR.out]
  have hz9 := ((HW8.out.mono (T := [wb + 1]) (by simp)).trans ho9).pop (show w.heap.size ≤ wb + 1 by rw [HBB.out]; omega)
  refine ⟨_, rfl, ?_, hz9.nil_below⟩
  obtain ⟨q', hq'⟩ : ∃ q', q' = j.q.take i ++ ⟨b, n, 0⟩ :: j.q.drop i := ⟨_, rfl⟩
  have hql : q'.length = j.q.length + 1 := by rw [hq', List.length_append, List.length_take, List.length_cons, List.length_drop]; have := HPI.out; omega
  have hqr : (qRow j.q).take (i * 3) ++ [.int .i64 b, .int .i64 n, .int .i64 0] ++ (qRow j.q).drop (i * 3) = qRow q' := by
    rw [hq', qRow_append, qRow_take, qRow_drop, List.append_assoc]; rfl
  have hl9 := ownsRow_only HL8.out ho9 (fun k hk h => by simp at h; subst h; exact HNLW.out hk)
  have hq9 := ownsRow_only HQ8.out ho9 (fun k hk h => by simp at h; subst h; exact HNBW.out hk)
  rw [hqr, ← hql] at hq9
  show JR w9 _ _ j.l (j.q.take i ++ ⟨b, n, 0⟩ :: j.q.drop i) j.g
  rw [← hq', ← hql]
  exact ⟨B0, d0, A7, c7, rfl, ownsRow_mono hl9 HW2S.out, ownsRow_mono hq9 HW2S.out⟩
end Go.Proofs.YtghpmpjoedbpcaaDoor.Print
/-! ### EJDel -/
namespace Go.Proofs.YtghpmpjoedbpcaaDoor.Print
open Go.RowKit Go.Proofs.YtghpmpjoedbpcaaDoorW.PrintWords Go.Proofs.YtghpmpjoedbpcaaDoorW.PrintLast Go.Proofs.YtghpmpjoedbpcaaDoorW.PrintMore
set_option linter.unusedSimpArgs false
set_option linter.unusedVariables false
set_option maxHeartbeats 8000000 in
set_option maxRecDepth 100000 in
theorem delown_e (v0 : Value) (n i j base : Nat) (xs : List Value) (w : World) (hown : w.ownsRow base 27 6 v0 n xs) (h1 : ∀ u ∈ xs, u.oneCell' = true) (hij : i ≤ j) (hj : j ≤ n) (hn : n ≤ 1000000000) :
    Calls Tryd.prog 45 #[v0, .int .i64 i, .int .i64 j] w fun e w' => ∃ v, e = .returned v ∧ w'.ownsRow base 27 6 v (n - (j - i)) (xs.take (i * 6) ++ xs.drop (j * 6)) ∧ v.ownBlock = v0.ownBlock ∧ Only v0.ownBlock.toList w w' := by
  have hxl := hown.1
  rcases Nat.lt_or_ge i j with hlt | hge
  · rcases hown.2 with ⟨_, hz⟩ | ⟨g, c, cur0, rfl, hgb, hg0, hnc, hcm, hcs, htk⟩
    · omega
    obtain ⟨cur, rfl⟩ : ∃ cur : List Value, cur0 = cur.toArray := ⟨cur0.toList, by simp⟩
    have hcl : cur.length = c * 6 := by simpa using hcs
    have htk2 : cur.take (n * 6) = xs := by simpa using htk
    · unfold maxLen at hcm
      have hc : c ≤ 9223372036854775807 := by omega
      refine (delete_e g c i j n cur w hg0 hcl (by rw [htk2]; exact h1) hnc hc hlt hj).mono ?_
      rintro e w' ⟨cur', rfl, hg', hcl', htk', ho'⟩
      refine ⟨_, rfl, ⟨?_, .inr ⟨g, c, _, rfl, hgb, hg', by omega, by unfold maxLen; omega, by simpa using hcl', ?_⟩⟩, rfl, ho'⟩
      · rw [List.length_append, List.length_take, List.length_drop]; omega
      · show cur'.take _ = _
        rw [htk', ← htk2, List.take_take, Nat.min_eq_left (by omega), List.drop_take]
        congr 2
        omega
  · obtain rfl : i = j := by omega
    have HO := Lib.hid hown
    obtain ⟨A, c, rfl, hnc, _⟩ := ownsRow_slice hown
    have hi0 : (0 : Int) ≤ i := by omega
    have e : xs.take (i * 6) ++ xs.drop (i * 6) = xs := List.take_append_drop _ _
    rw [e, Nat.sub_self, Nat.sub_zero]
    clear hown h1 hxl e
    go_enter Tryd.func45, Tryd.ntmps45
    go_wp2_with (with_reducible refine wpList_cutN 27 6 Tryd.underlying22 size_27 A n c rfl i i n (bounds_lhm w n c _ _ _ _ _ _ i i n rfl rfl rfl (by omega) (by omega) (by omega)) ?_)
    go_ret
    exact ⟨_, rfl, HO.out, rfl, Only.refl _ _⟩
set_option maxHeartbeats 8000000 in
set_option maxRecDepth 100000 in
theorem delown_q (v0 : Value) (n i j base : Nat) (xs : List Value) (w : World) (hown : w.ownsRow base 35 3 v0 n xs) (h1 : ∀ u ∈ xs, u.oneCell' = true) (hij : i ≤ j) (hj : j ≤ n) (hn : n ≤ 1000000000) :
    Calls Tryd.prog 43 #[v0, .int .i64 i, .int .i64 j] w fun e w' => ∃ v, e = .returned v ∧ w'.ownsRow base 35 3 v (n - (j - i)) (xs.take (i * 3) ++ xs.drop (j * 3)) ∧ v.ownBlock = v0.ownBlock ∧ Only v0.ownBlock.toList w w' := by
  have hxl := hown.1
  rcases Nat.lt_or_ge i j with hlt | hge
  · rcases hown.2 with ⟨_, hz⟩ | ⟨g, c, cur0, rfl, hgb, hg0, hnc, hcm, hcs, htk⟩
    · omega
    obtain ⟨cur, rfl⟩ : ∃ cur : List Value, cur0 = cur.toArray := ⟨cur0.toList, by simp⟩
    have hcl : cur.length = c * 3 := by simpa using hcs
    have htk2 : cur.take (n * 3) = xs := by simpa using htk
    · unfold maxLen at hcm
      have hc : c ≤ 9223372036854775807 := by omega
      refine (delete_q g c i j n cur w hg0 hcl (by rw [htk2]; exact h1) hnc hc hlt hj).mono ?_
      rintro e w' ⟨cur', rfl, hg', hcl', htk', ho'⟩
      refine ⟨_, rfl, ⟨?_, .inr ⟨g, c, _, rfl, hgb, hg', by omega, by unfold maxLen; omega, by simpa using hcl', ?_⟩⟩, rfl, ho'⟩
      · rw [List.length_append, List.length_take, List.length_drop]; omega
      · show cur'.take _ = _
        rw [htk', ← htk2, List.take_take, Nat.min_eq_left (by omega), List.drop_take]
        congr 2
        omega
  · obtain rfl : i = j := by omega
    have HO := Lib.hid hown
    obtain ⟨A, c, rfl, hnc, _⟩ := ownsRow_slice hown
    have hi0 : (0 : Int) ≤ i := by omega
    have e : xs.take (i * 3) ++ xs.drop (i * 3) = xs := List.take_append_drop _ _
    rw [e, Nat.sub_self, Nat.sub_zero]
    clear hown h1 hxl e
    go_enter Tryd.func43, Tryd.ntmps43
    go_wp2_with (with_reducible refine wpList_cutN 35 3 Tryd.underlying23 size_35 A n c rfl i i n (bounds_lhm w n c _ _ _ _ _ _ i i n rfl rfl rfl (by omega) (by omega) (by omega)) ?_)
    go_ret
    exact ⟨_, rfl, HO.out, rfl, Only.refl _ _⟩
end Go.Proofs.YtghpmpjoedbpcaaDoor.Print
/-! ### EJClose -/
namespace Go.Proofs.YtghpmpjoedbpcaaDoor.Print
open Go.RowKit Go.Proofs.YtghpmpjoedbpcaaDoorW.PrintWords Go.Proofs.YtghpmpjoedbpcaaDoorW.PrintLast Go.Proofs.YtghpmpjoedbpcaaDoorW.PrintMore
set_option linter.unusedSimpArgs false
set_option linter.unusedVariables false
theorem placeB_lt {q : List S35} {n : Int} (h : placeB q n = true) : placeI q n < q.length := by
  rcases Nat.lt_or_ge (placeI q n) q.length with h9 | h9
  · exact h9
  · unfold placeB at h
    rw [List.drop_eq_nil_of_le h9] at h
    cases h
def closeJ (j : Jn) (b : Int) : Jn × Int :=
  if rightJ j.l j.q j.g = false ∨ wi b 1 = false then (zJn, 1)
  else if placeB j.q b = false then (zJn, 4)
  else (⟨j.l, j.q.take (placeI j.q b) ++ j.q.drop (placeI j.q b + 1), j.g⟩, 0)
set_option maxHeartbeats 8000000 in
set_option maxRecDepth 100000 in
theorem close_calls (A0 : Option Addr) (c0 : Nat) (A1 : Option Addr) (c1 : Nat) (j : Jn) (b : Int) (w : World) (h0 : j.l.length ≤ c0 ∧ Kd.C k27 w A0 j.l.length j.l) (h1 : j.q.length ≤ c1 ∧ Kd.C k35 w A1 j.q.length j.q) (hT : Tabs w) (hj : Jok j) :
    Calls Tryd.prog 21 #[.agg #[.slice A0 j.l.length c0, .slice A1 j.q.length c1, .int .i64 j.g], .int .i64 b] w fun e w' => ∃ v, e = .returned (.tuple #[v, .int .i64 (closeJ j b).2]) ∧ JR w' w.heap.size v (closeJ j b).1.l (closeJ j b).1.q (closeJ j b).1.g ∧ Below w.heap.size w w' := by
  obtain ⟨R, hR⟩ : ∃ R, R = closeJ j b := ⟨_, rfl⟩
  rw [← hR]
  have HRR := Lib.hid hR
  have HA := Lib.hid h0
  have HB := Lib.hid h1
  have HT := Lib.hid hT
  have HJ := Lib.hid hj
  clear hR h0 h1 hT hj
  go_enter Tryd.func21, Tryd.ntmps21
  go_wp2_with (go_at_call 14; refine (fun (h : Hid _) => h.out) ?_)
  refine Lib.hid ?_
  have HS0 := Lib.hid (show w.heap.size + 1 < ((w.alloc (.cells #[.slice A0 j.l.length c0, .slice A1 j.q.length c1, .int .i64 j.g] 25)).alloc (.cells #[.slice none 0 0, .slice none 0 0, .int .i64 0] 25)).heap.size by simp)
  have HX0 := Lib.hid (show ((w.alloc (.cells #[.slice A0 j.l.length c0, .slice A1 j.q.length c1, .int .i64 j.g] 25)).alloc (.cells #[.slice none 0 0, .slice none 0 0, .int .i64 0] 25)).heap[w.heap.size]? = some (.cells #[.slice A0 j.l.length c0, .slice A1 j.q.length c1, .int .i64 j.g] 25 (0, 0)) from (Below.heap_alloc _ _ _ (by simp)).trans (heap_alloc_new _ _))
  have HX1 := Lib.hid (show ((w.alloc (.cells #[.slice A0 j.l.length c0, .slice A1 j.q.length c1, .int .i64 j.g] 25)).alloc (.cells #[.slice none 0 0, .slice none 0 0, .int .i64 0] 25)).heap[w.heap.size + 1]? = some (.cells #[.slice none 0 0, .slice none 0 0, .int .i64 0] 25 (0, 0)) from by
    have := heap_alloc_new (w.alloc (.cells #[.slice A0 j.l.length c0, .slice A1 j.q.length c1, .int .i64 j.g] 25)) (.cells #[.slice none 0 0, .slice none 0 0, .int .i64 0] 25)
    simpa using this)
  have HO0 := Lib.hid (((Only.refl [] w).alloc (.cells #[.slice A0 j.l.length c0, .slice A1 j.q.length c1, .int .i64 j.g] 25)).alloc (.cells #[.slice none 0 0, .slice none 0 0, .int .i64 0] 25))
  generalize (w.alloc (.cells #[.slice A0 j.l.length c0, .slice A1 j.q.length c1, .int .i64 j.g] 25)).alloc (.cells #[.slice none 0 0, .slice none 0 0, .int .i64 0] 25) = W0 at *
  generalize hb : w.heap.size = wb at *
  have HBB := Lib.hid hb
  clear hb
  refine (right_calls A0 c0 A1 c1 j W0 ⟨HA.out.1, Kd.C_below HA.out.2 HO0.out.nil_below⟩ ⟨HB.out.1, Kd.C_below HB.out.2 HO0.out.nil_below⟩ (HT.out.below HO0.out.nil_below) HJ.out).mono ?_
  rintro e W1 ⟨rfl, hb1⟩
  have HO1 := Lib.hid (HO0.out.trans (Only.of_below hb1))
  have HY0 := Lib.hid ((Only.of_below hb1).heap HX0.out (by simp))
  have HY1 := Lib.hid ((Only.of_below hb1).heap HX1.out (by simp))
  clear hb1 HX0 HX1 HO0
  unfold closeJ at HRR
  cases hr : rightJ j.l j.q j.g
  · have HR0 := Lib.hid (HRR.out.trans (if_pos (.inl hr)))
    clear hr HRR
    go_wp2_with (first
      | (with_reducible refine wpList_store_new rfl 25 (.tmp 4) (.tmp 17) rfl (wb + 1) #[.slice none 0 0, .slice none 0 0, .int .i64 0] rfl rfl 25 _ HY1.out (size3_25 _ _ _) rfl (by simp [Value.oneCell']) ?_; intro w9 hh9 ho9))
    refine bodyPost_ret (results_row rfl _ _ (wb + 1) _ _ _ _ rfl hh9.out Tryd.underlying25 rfl (size3_25 _ _ _)) rfl ?_
    rw [HR0.out]
    exact ⟨_, rfl, jr_zero _ _, (((HO1.out.mono (T := [wb + 1]) (by simp)).trans ho9).pop (by rw [HBB.out]; omega)).nil_below⟩
  obtain ⟨hL, hBt, hRi, hG, hU, hE, hOd⟩ := right_parts hr
  have hU0 := usedZ_ge j.l j.q hL
  have hrr := HRR.out
  rw [hr] at hrr
  have HRR := Lib.hid hrr
  clear hrr
  go_wp2_with (go_at_call 38; refine (within_any b 1 W1).mono ?_; rintro e W2 ⟨rfl, hb2⟩; have HO2 := Lib.hid (Only.of_below hb2); clear hb2; refine (fun (h : Hid _) => h.out) ?_)
  refine Lib.hid ?_
  have HZ0 := Lib.hid (HO2.out.heap HY0.out (by simp))
  have HZ1 := Lib.hid (HO2.out.heap HY1.out (by simp))
  have HW2 := Lib.hid (HO1.out.trans HO2.out)
  clear HY0 HY1 HO1 HO2
  cases hwi : wi b 1
  · have HR0 := Lib.hid (HRR.out.trans (if_pos (.inr hwi)))
    clear hwi HRR
    go_wp2_with (first
      | (with_reducible refine wpList_store_new rfl 25 (.tmp 4) (.tmp 17) rfl (wb + 1) #[.slice none 0 0, .slice none 0 0, .int .i64 0] rfl rfl 25 _ HZ1.out (size3_25 _ _ _) rfl (by simp [Value.oneCell']) ?_; intro w9 hh9 ho9))
    refine bodyPost_ret (results_row rfl _ _ (wb + 1) _ _ _ _ rfl hh9.out Tryd.underlying25 rfl (size3_25 _ _ _)) rfl ?_
    rw [HR0.out]
    exact ⟨_, rfl, jr_zero _ _, (((HW2.out.mono (T := [wb + 1]) (by simp)).trans ho9).pop (by rw [HBB.out]; omega)).nil_below⟩
  have HRR := Lib.hid (HRR.out.trans (if_neg (by rw [hwi]; simp)))
  have hbb : 0 ≤ b ∧ b ≤ 1099511627776 := by
    unfold wi at hwi
    simp only [Bool.and_eq_true, decide_eq_true_eq] at hwi
    omega
  obtain ⟨hb0, hb9⟩ := hbb
  have HOWN := Lib.hid (own_any A0 c0 A1 c1 j.l j.q j.g W2 (Kd.C_below HA.out.2 HW2.out.nil_below) (Kd.C_below HB.out.2 HW2.out.nil_below) HJ.out.2.1 HJ.out.2.2)
  go_wp2_with (first
    | (with_reducible refine wpList_load_at rfl 25 (.tmp 2) rfl ⟨wb, 0, none⟩ rfl _ _ (cellsAt_row HZ0.out) Tryd.underlying25 rfl (by kernel_rfl) ?_)
    | (go_at_call 30; refine HOWN.out.mono ?_; rintro e W3 ⟨bp, B0, d0, B1, d1, rfl, hbk, ho3⟩; refine (fun (h : Hid _) => h.out) ?_))
  refine Lib.hid ?_
  have HBK := Lib.hid hbk
  have HY1 := Lib.hid (ho3.heap HZ1.out (by simp))
  have HW3 := Lib.hid (HW2.out.trans ho3)
  have HZ2 := HZ1
  have HW2S := Lib.hid (show w.heap.size ≤ W2.heap.size from HW2.out.size)
  have HBP := Lib.hid (show wb + 1 < bp from Nat.lt_of_lt_of_le (heap_lt HZ1.out) hbk.hb)
  clear hbk ho3 HZ0 HZ1 HW2 HOWN
  have HPL := Lib.hid (place_any bp j.l.length d0 B0 B1 d1 j.q j.g b W3 HBK.out.row HBK.out.reads.2.2 (by have := HJ.out.2.2; omega) hRi hBt hb0 hb9)
  go_wp2_with (go_at_call 33; refine HPL.out.mono ?_; rintro e W4 ⟨rfl, hb4⟩; refine (fun (h : Hid _) => h.out) ?_)
  refine Lib.hid ?_
  have HBK4 := Lib.hid (HBK.out.below hb4)
  have HZ1 := Lib.hid ((Only.of_below hb4).heap HY1.out (by simp))
  have HW4 := Lib.hid (HW3.out.trans (Only.of_below hb4))
  have HS34 := Lib.hid hb4.size
  clear hb4 HBK HY1 HW3 HPL
  cases hpb : placeB j.q b
  · have HR0 := Lib.hid (HRR.out.trans (if_pos hpb))
    clear hpb HRR
    go_wp2_with (first
      | (with_reducible refine wpList_store_new rfl 25 (.tmp 4) (.tmp 28) rfl (wb + 1) #[.slice none 0 0, .slice none 0 0, .int .i64 0] rfl rfl 25 _ HZ1.out (size3_25 _ _ _) rfl (by simp [Value.oneCell']) ?_; intro w9 hh9 ho9))
    refine bodyPost_ret (results_row rfl _ _ (wb + 1) _ _ _ _ rfl hh9.out Tryd.underlying25 rfl (size3_25 _ _ _)) rfl ?_
    rw [HR0.out]
    exact ⟨_, rfl, jr_zero _ _, (((HW4.out.mono (T := [wb + 1]) (by simp)).trans ho9).pop (by rw [HBB.out]; omega)).nil_below⟩
  have HRR := Lib.hid (HRR.out.trans (if_neg (by rw [hpb]; simp)))
  have hlt := placeB_lt hpb
  have HPI := Lib.hid (placeI_le j.q b)
  clear hpb
  obtain ⟨i, hi⟩ : ∃ i, i = placeI j.q b := ⟨_, rfl⟩
  rw [← hi] at HPI HRR hlt
  have hqb := HJ.out.2.2
  have hdn : j.q.length - (i + 1 - i) = j.q.length - 1 := by omega
  have HDL := Lib.hid (delown_q _ j.q.length i (i + 1) W2.heap.size (qRow j.q) W4 HBK4.out.oq (qRow_one _) (by omega) (by omega) (by omega))
  rw [hdn] at HDL
  rw [show ((i + 1 : Nat) : Int) = (i : Int) + 1 by omega] at HDL
  have a1 : W4.cell? ⟨bp, 1, none⟩ = some (.slice B1 j.q.length d1) := (cell_of_row W4 bp 1 _ _ _ HBK4.out.row).trans rfl
  rw [← hi]
  clear hdn hi
  have hi0 : (0 : Int) ≤ i := by omega
  have hi9 : (i : Int) ≤ 1000000000 := by omega
  go_wp2_with (go_at_call 43; refine HDL.out.mono ?_; rintro e W7 ⟨v7, rfl, hown7, hk7, ho7⟩; refine (fun (h : Hid _) => h.out) ?_)
  refine Lib.hid ?_
  clear a1
  have hml : ∀ k, k ∈ (Value.slice B1 j.q.length d1).ownBlock.toList → (Value.slice B1 j.q.length d1).ownBlock = some k := fun k hk => by simpa using hk
  have HR7 := Lib.hid (ho7.heap HBK4.out.row (fun h => HBK4.out.nq (hml _ h)))
  have HL7 := Lib.hid (ownsRow_only HBK4.out.ol ho7 (fun k hk h => HBK4.out.nlq k hk (hml _ h)))
  have HQ7 := Lib.hid hown7
  have HY7 := Lib.hid (ho7.heap HZ1.out (fun h => by have := (ownsRow_lt HBK4.out.oq (hml _ h)).1; have := HBK4.out.hb; have := heap_lt HZ2.out; omega))
  have HW7 := Lib.hid (HW4.out.then ho7 (fun k hk => .inr (by have := (ownsRow_lt HBK4.out.oq (hml _ hk)).1; have := HW2S.out; omega)))
  have HNB := Lib.hid (show v7.ownBlock ≠ some bp from fun h => HBK4.out.nq (hk7 ▸ h))
  have HNL := Lib.hid (HBK4.out.nl)
  have HNLW := Lib.hid (show (Value.slice B0 j.l.length d0).ownBlock ≠ some (wb + 1) from fun h => by have := (ownsRow_lt HBK4.out.ol h).1; have := heap_lt HZ2.out; omega)
  have HNBW := Lib.hid (show v7.ownBlock ≠ some (wb + 1) from fun h => by
    have := (ownsRow_lt HBK4.out.oq (hk7 ▸ h)).1; have := heap_lt HZ2.out; omega)
  clear HBK4 HZ1 HW4 hown7 hk7 ho7 hml HDL
  obtain ⟨A7, c7, rfl⟩ := slice_of_own HQ7.out
  go_wp2_with (first
    | (with_reducible refine wpList_store_in rfl 23 (.tmp 41) (.tmp 38) rfl bp 1 _ rfl rfl [.slice A7 (j.q.length - 1) c7] rfl 56 [.slice B0 j.l.length d0, .slice B1 j.q.length d1, .int .i64 j.g] HR7.out (by kernel_rfl) (by simp) (by simp [Value.oneCell']) ?_; intro W8 hr8 ho8; refine (fun (h : Hid _) => h.out) ?_))
  refine Lib.hid ?_
  have HR8 := Lib.hid (show W8.heap[bp]? = some (.cells #[.slice B0 j.l.length d0, .slice A7 (j.q.length - 1) c7, .int .i64 j.g] 56 (0, 0)) from hr8.out)
  have HL8 := Lib.hid (ownsRow_only HL7.out ho8.out (fun k hk h => by simp at h; subst h; exact HNL.out hk))
  have HQ8 := Lib.hid (ownsRow_only HQ7.out ho8.out (fun k hk h => by simp at h; subst h; exact HNB.out hk))
  have HY8 := Lib.hid (ho8.out.heap HY7.out (by simp; have := HBP.out; omega))
  have HW8 := Lib.hid (HW7.out.then ho8.out (fun k hk => .inr (by simp at hk; subst hk; have := HBP.out; have := HBB.out; omega)))
  clear HR7 HL7 HQ7 HY7 HW7 hr8 ho8
  go_wp2_with (first
    | (with_reducible refine wpList_load_at rfl 25 (.tmp 44) rfl ⟨bp, 0, none⟩ rfl _ _ (cellsAt_row HR8.out) Tryd.underlying25 rfl (by kernel_rfl) ?_)
    | (with_reducible refine wpList_store_new rfl 25 (.tmp 4) (.tmp 45) rfl (wb + 1) #[.slice B0 j.l.length d0, .slice A7 (j.q.length - 1) c7, .int .i64 j.g] rfl rfl 25 _ HY8.out (size3_25 _ _ _) rfl (by simp [Value.oneCell']) ?_; intro w9 hh9 ho9))
  refine bodyPost_ret (results_row rfl _ _ (wb + 1) _ _ _ _ rfl hh9.out Tryd.underlying25 rfl (size3_25 _ _ _)) rfl ?_
  rw [HRR.out]
  have hz9 := ((HW8.out.mono (T := [wb + 1]) (by simp)).trans ho9).pop (show w.heap.size ≤ wb + 1 by rw [HBB.out]; omega)
  refine ⟨_, rfl, ?_, hz9.nil_below⟩
  obtain ⟨q', hq'⟩ : ∃ q', q' = j.q.take i ++ j.q.drop (i + 1) := ⟨_, rfl⟩
  have hql : q'.length = j.q.length - 1 := by rw [hq', List.length_append, List.length_take, List.length_drop]; have := HPI.out; omega
  have hqr : (qRow j.q).take (i * 3) ++ (qRow j.q).drop ((i + 1) * 3) = qRow q' := by
    rw [hq', qRow_append, qRow_take, qRow_drop]
  have hl9 := ownsRow_only HL8.out ho9 (fun k hk h => by simp at h; subst h; exact HNLW.out hk)
  have hq9 := ownsRow_only HQ8.out ho9 (fun k hk h => by simp at h; subst h; exact HNBW.out hk)
  rw [hqr, ← hql] at hq9
  show JR w9 _ _ j.l (j.q.take i ++ j.q.drop (i + 1)) j.g
  rw [← hq', ← hql]
  exact ⟨B0, d0, A7, c7, rfl, ownsRow_mono hl9 HW2S.out, ownsRow_mono hq9 HW2S.out⟩
end Go.Proofs.YtghpmpjoedbpcaaDoor.Print
