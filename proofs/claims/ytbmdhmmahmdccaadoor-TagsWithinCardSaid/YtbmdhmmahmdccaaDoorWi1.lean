import Derived.Test.YtbmdhmmahmdccaaDoorWi0
import Derived.ArgAppend
import Derived.Below
import Derived.BigQuiet
import Derived.ChangeArms
import Derived.Deep.AppendLies
import Derived.Deep.CutBlock
import Derived.Deep.DeepCutAuto
import Derived.Deep.Draws
import Derived.Deep.LoopGhost
import Derived.Deep.OwnRows
import Derived.Deep.QuietTactic
import Derived.Deep.RegionHeld3
import Derived.Deep.Slices
import Derived.Great.BuildSlice
import Derived.Ground.NamesProg
import Derived.Ground.SlgnProg
import Derived.KernelRfl
import Derived.Laws.BitsLemmas
import Derived.Laws.BytesArg
import Derived.Laws.CopyOwn
import Derived.Laws.IdiomCopy
import Derived.Laws.MakeOwn
import Derived.Laws.OwnMore
import Derived.Laws.RangeAny
import Derived.Laws.Rows
import Derived.Laws.Slices
import Derived.Lib.AppendStr
import Derived.Lib.ConvBytes
import Derived.Lib.DecodeN
import Derived.Lib.Hide
import Derived.Lib.LaidU8T
import Derived.Lib.OthersKept
import Derived.Lib.RuneCount
import Derived.Lib.SliceRun
import Derived.Lib.TrimUEq
import Derived.Lib.ValidLaws
import Derived.Maps.AppendAt
import Derived.OrdersHeld
import Derived.OwnWalk
import Derived.RegionTactic
import Derived.RowKit
import Derived.RowKit3
import Derived.Shelf.SlicesE.Clone
import Derived.Shelf.Small.Strs
import Derived.Shelf.Strings.Search1
import Derived.Shelf.Unicode.ValidAny
import Derived.Shelf.Utf8.RuneCount
import Derived.SizedLaws
import Derived.Tactics
import Derived.Test.YtbmdhmmahmdccaaDoorProg
import Derived.WalkKit
import Derived.WideLaws
set_option linter.unusedVariables false
set_option linter.unusedSimpArgs false
namespace Go.Proofs.YtbmdhmmahmdccaaDoorW.PrintWords
end Go.Proofs.YtbmdhmmahmdccaaDoorW.PrintWords
namespace Go.Proofs.YtbmdhmmahmdccaaDoorW.PrintLast
end Go.Proofs.YtbmdhmmahmdccaaDoorW.PrintLast
namespace Go.Proofs.YtbmdhmmahmdccaaDoorW.PrintMore
end Go.Proofs.YtbmdhmmahmdccaaDoorW.PrintMore
/-! ### Shelf -/
namespace Go.Proofs
open Go.Shelf
def Tryd.lays137_ren : Go.Shelf.Ren := ⟨fun | 137 => 50 | 217 => 51 | 266 => 52 | n => n, fun | 9 => 9 | 5 => 5 | 3 => 3 | n => n, fun | n => n⟩
theorem Tryd.lays137 : Go.Proofs.Lays.n137 Tryd.prog Tryd.lays137_ren := {
  mixed := by kernel_rfl
  f137 := Tryd.func50.trans (congrArg some (by kernel_rfl))
  f217 := Tryd.func51.trans (congrArg some (by kernel_rfl))
  f266 := Tryd.func52.trans (congrArg some (by kernel_rfl))
  t3 := Tryd.underlying3
  a3 := Tryd.isAgg3
  z3 := Tryd.sizeOf3
  v3 := Tryd.zeroValue3
  t5 := Tryd.underlying5
  a5 := Tryd.isAgg5
  z5 := Tryd.sizeOf5
  v5 := Tryd.zeroValue5
  t9 := Tryd.underlying9
  a9 := Tryd.isAgg9
  z9 := Tryd.sizeOf9
  v9 := Tryd.zeroValue9 }
open Go.RowKit in
/-- strings.IndexByte: "IndexByte returns the index of the first instance of c in s, or -1 if c is not present in s.": IT RETURNS 'Lib.indexByte s c'; the world is as it was. (LAID: no walk: one application.) -/
theorem Tryd.strings_IndexByte (s : ByteArray) (c : Int) (w : World) :
    Calls Tryd.prog 50 #[.string s, .int .u8 c] w fun e w' => e = .returned (.int .i64 (Lib.indexByte s.data.toList c.toNat.toUInt8)) ∧ w' = w := Any.strings_IndexByte Tryd.lays137 s c w
def Tryd.lays195_ren : Go.Shelf.Ren := ⟨fun | 195 => 40 | n => n, fun | 9 => 9 | 3 => 3 | 0 => 0 | 4 => 4 | n => n, fun | n => n⟩
theorem Tryd.lays195 : Go.Proofs.Lays.n195 Tryd.prog Tryd.lays195_ren := {
  mixed := by kernel_rfl
  f195 := Tryd.func40.trans (congrArg some (by kernel_rfl))
  t0 := Tryd.underlying0
  a0 := Tryd.isAgg0
  z0 := Tryd.sizeOf0
  v0 := Tryd.zeroValue0
  t3 := Tryd.underlying3
  a3 := Tryd.isAgg3
  z3 := Tryd.sizeOf3
  v3 := Tryd.zeroValue3
  t4 := Tryd.underlying4
  a4 := Tryd.isAgg4
  z4 := Tryd.sizeOf4
  v4 := Tryd.zeroValue4
  t9 := Tryd.underlying9
  a9 := Tryd.isAgg9
  z9 := Tryd.sizeOf9
  v9 := Tryd.zeroValue9 }
open Go.RowKit in
/-- unicode/utf8.RuneCountInString: "RuneCountInString is like RuneCount but its input is a string." ("RuneCount returns the number of runes in p. Erroneous and short encodings are treated as single runes of width 1 byte."): EVERY STRING, valid UTF-8 or not: 'Lib.runeCount s' (plain Lean over the model's own 'Utf8.decode'; 'Lib.runeCount_le': at most len(s); 'Lib.runeCount_ascii': on ASCII: len(s)). THE ONE CONDITION: len(s) below 2^63 - 1 (the counter does not wrap): the form's reach pays it. THE WORLD BEHIND THE CALL: ONE BLOCK MORE: the model's iterator over s, at its end: all else as it was. (LAID: no walk: one application.) -/
theorem Tryd.utf8_RuneCountInString (s : ByteArray) (w : World) (hs : s.size < 9223372036854775807) :
    Calls Tryd.prog 40 #[.string s] w fun e w' => e = .returned (.int .i64 (Lib.runeCount s)) ∧ ∃ pos, w' = w.iter s pos := Any.utf8_RuneCountInString Tryd.lays195 s w hs
def Tryd.laysValid_ren : Go.Shelf.Ren := ⟨fun | 196 => 38 | 259 => 47 | n => n, fun | 9 => 9 | 4 => 4 | 3 => 3 | 5 => 5 | 12 => 12 | 119 => 74 | 0 => 0 | 46 => 78 | 139 => 77 | 138 => 76 | 53 => 82 | n => n, fun | 3 => 0 | 4 => 1 | n => n⟩
theorem Tryd.laysValid : Go.Proofs.Lays.n196 Tryd.prog Tryd.laysValid_ren := {
  mixed := by kernel_rfl
  f196 := Tryd.func38.trans (congrArg some (by kernel_rfl))
  f259 := Tryd.func47.trans (congrArg some (by kernel_rfl))
  t0 := Tryd.underlying0
  a0 := Tryd.isAgg0
  z0 := Tryd.sizeOf0
  v0 := Tryd.zeroValue0
  t3 := Tryd.underlying3
  a3 := Tryd.isAgg3
  z3 := Tryd.sizeOf3
  v3 := Tryd.zeroValue3
  t4 := Tryd.underlying4
  a4 := Tryd.isAgg4
  z4 := Tryd.sizeOf4
  v4 := Tryd.zeroValue4
  t5 := Tryd.underlying5
  a5 := Tryd.isAgg5
  z5 := Tryd.sizeOf5
  v5 := Tryd.zeroValue5
  t9 := Tryd.underlying9
  a9 := Tryd.isAgg9
  z9 := Tryd.sizeOf9
  v9 := Tryd.zeroValue9
  t12 := Tryd.underlying12
  a12 := Tryd.isAgg12
  z12 := Tryd.sizeOf12
  v12 := Tryd.zeroValue12
  t46 := Tryd.underlying78
  a46 := Tryd.isAgg78
  z46 := Tryd.sizeOf78
  v46 := Tryd.zeroValue78
  t53 := Tryd.underlying82
  a53 := Tryd.isAgg82
  z53 := Tryd.sizeOf82
  v53 := Tryd.zeroValue82
  t119 := Tryd.underlying74
  a119 := Tryd.isAgg74
  z119 := Tryd.sizeOf74
  t138 := Tryd.underlying76
  a138 := Tryd.isAgg76
  z138 := Tryd.sizeOf76
  v138 := Tryd.zeroValue76
  t139 := Tryd.underlying77
  a139 := Tryd.isAgg77
  z139 := Tryd.sizeOf77
  v139 := Tryd.zeroValue77
  g3 := by kernel_rfl
  g4 := by kernel_rfl }
open Go.RowKit in
theorem Tryd.utf8_ValidString (s : ByteArray) (w : World) (hs : s.size ≤ 9223372036854775807) (hT : Lib.Utf8Tabs (Tryd.laysValid_ren.g 3) (Tryd.laysValid_ren.g 4) w) :
    Calls Tryd.prog 38 #[.string s] w fun e w' => e = .returned (.bool (Lib.validD s.data.toList)) ∧ Below w.heap.size w w' := Any.utf8_ValidString Tryd.laysValid s w hs hT
end Go.Proofs
/-! ### Tabs -/
namespace Go.Proofs.YtbmdhmmahmdccaaDoor
open Go.RowKit Go.Shelf
/-- The two tables lie in the world as Go's text lays them. -/
def Tabs (w : World) : Prop := Lib.Utf8Tabs (Tryd.laysValid_ren.g 3) (Tryd.laysValid_ren.g 4) w
theorem Tabs.u8 {w : World} (h : Tabs w) : Lib.Utf8Tabs (Tryd.laysValid_ren.g 3) (Tryd.laysValid_ren.g 4) w := h
theorem Tabs.below {w w' : World} (h : Tabs w) (hb : Below w.heap.size w w') : Tabs w' := by
  refine ⟨fun c hc => ?_, fun i hi => ?_⟩
  · have := h.1 c hc
    exact (hb.cell (World.block_lt_of_cell? w _ this)).trans this
  · have := h.2 i hi
    exact ⟨(hb.cell (World.block_lt_of_cell? w _ this.1)).trans this.1, (hb.cell (World.block_lt_of_cell? w _ this.2)).trans this.2⟩
end Go.Proofs.YtbmdhmmahmdccaaDoor
/-! ### Print0 -/
namespace Go.Proofs.YtbmdhmmahmdccaaDoor.Print
open Go.RowKit Go.Proofs.YtbmdhmmahmdccaaDoorW.PrintWords Go.Proofs.YtbmdhmmahmdccaaDoorW.PrintLast Go.Proofs.YtbmdhmmahmdccaaDoorW.PrintMore
attribute [local go_sem] max2_int min2_int max_two min_two
set_option linter.unusedVariables false
set_option linter.unusedSimpArgs false
def errW : Option Int → Value
  | none => .nilIface
  | some c => .iface 0 (.int .i64 c)
theorem errW_none : errW none = .nilIface := rfl
theorem errW_some (c : Int) : errW (some c) = .iface 0 (.int .i64 c) := rfl
theorem info3 : (Tryd.prog.info? 3).map (fun i => (i.zero, i.size, i.bytes)) = some (some (.int .i64 0), 1, 8) := by kernel_rfl
theorem info4 : (Tryd.prog.info? 4).map (fun i => (i.zero, i.size, i.bytes)) = some (some (.bool false), 1, 1) := by kernel_rfl
structure S48 where
  f0 : ByteArray
  f1 : Bool
  f2 : Int
  f3 : Int
def z48 : S48 := ⟨(⟨#[]⟩ : ByteArray), false, (0 : Int), (0 : Int)⟩
def k48 : Kd S48 := Kd.iso (Kd.pair Kd.string (Kd.pair Kd.bool (Kd.pair (Kd.int .i64) (Kd.int .i64)))) (fun x : S48 => (x.f0, x.f1, x.f2, x.f3))
theorem k48_open {w : World} {x : S48} {cs : List Value} (h : k48.K w x cs) : cs = [.string x.f0, .bool x.f1, .int .i64 x.f2, .int .i64 x.f3] := by
  obtain ⟨_, _, rfl, rfl, ⟨_, _, rfl, rfl, ⟨_, _, rfl, rfl, rfl⟩⟩⟩ := h
  exact rfl
theorem k48_mk (w : World) (x : S48)  : k48.K w x [.string x.f0, .bool x.f1, .int .i64 x.f2, .int .i64 x.f3] := ⟨[.string x.f0], [.bool x.f1, .int .i64 x.f2, .int .i64 x.f3], rfl, rfl, ⟨[.bool x.f1], [.int .i64 x.f2, .int .i64 x.f3], rfl, rfl, ⟨[.int .i64 x.f2], [.int .i64 x.f3], rfl, rfl, rfl⟩⟩⟩
theorem k48_mkM (w : World) (base : Nat) (ok : Nat → Prop) (x : S48)  : k48.M w base ok x [.string x.f0, .bool x.f1, .int .i64 x.f2, .int .i64 x.f3] := ⟨[.string x.f0], [.bool x.f1, .int .i64 x.f2, .int .i64 x.f3], rfl, rfl, ⟨[.bool x.f1], [.int .i64 x.f2, .int .i64 x.f3], rfl, rfl, ⟨[.int .i64 x.f2], [.int .i64 x.f3], rfl, rfl, rfl⟩⟩⟩
def rd_T48 (xs : List S48) (i : Int) : S48 := xs.getD i.toNat z48
theorem at_T48 {w : World} {A : Option Addr} {n : Nat} {xs : List S48} (h : Kd.C k48 w A n xs) (i : Int) (h0 : 0 ≤ i) (h1 : i < n) : ∃ ad , A = some ad ∧ w.cell? (ad.add (i.toNat * 4)) = some (.string (rd_T48 xs i).f0) ∧ w.cell? ⟨(ad.add (i.toNat * 4)).block, (ad.add (i.toNat * 4)).off + 1, none⟩ = some (.bool (rd_T48 xs i).f1) ∧ w.cell? ⟨(ad.add (i.toNat * 4)).block, (ad.add (i.toNat * 4)).off + 2, none⟩ = some (.int .i64 (rd_T48 xs i).f2) ∧ w.cell? ⟨(ad.add (i.toNat * 4)).block, (ad.add (i.toNat * 4)).off + 3, none⟩ = some (.int .i64 (rd_T48 xs i).f3) := by
  obtain ⟨ad, c, e, _, hK, hc0⟩ := Kd.C_get h z48 i h0 h1
  have hc : ∀ j u, c[j]? = some u → w.cell? (ad.add (i.toNat * 4 + j)) = some u := hc0
  obtain rfl := k48_open hK
  exact ⟨ad, e, hc 0 _ rfl, by rw [← add_field _ _ 1 (by omega)]; exact hc 1 _ rfl, by rw [← add_field _ _ 2 (by omega)]; exact hc 2 _ rfl, by rw [← add_field _ _ 3 (by omega)]; exact hc 3 _ rfl⟩
structure S46 where
  f0 : ByteArray
  f1 : Int
def z46 : S46 := ⟨(⟨#[]⟩ : ByteArray), (0 : Int)⟩
def k46 : Kd S46 := Kd.iso (Kd.pair Kd.string (Kd.int .i64)) (fun x : S46 => (x.f0, x.f1))
theorem k46_open {w : World} {x : S46} {cs : List Value} (h : k46.K w x cs) : cs = [.string x.f0, .int .i64 x.f1] := by
  obtain ⟨_, _, rfl, rfl, rfl⟩ := h
  exact rfl
theorem k46_mk (w : World) (x : S46)  : k46.K w x [.string x.f0, .int .i64 x.f1] := ⟨[.string x.f0], [.int .i64 x.f1], rfl, rfl, rfl⟩
def rd_T46 (xs : List S46) (i : Int) : S46 := xs.getD i.toNat z46
theorem at_T46 {w : World} {A : Option Addr} {n : Nat} {xs : List S46} (h : Kd.C k46 w A n xs) (i : Int) (h0 : 0 ≤ i) (h1 : i < n) : ∃ ad , A = some ad ∧ w.cell? (ad.add (i.toNat * 2)) = some (.string (rd_T46 xs i).f0) ∧ w.cell? ⟨(ad.add (i.toNat * 2)).block, (ad.add (i.toNat * 2)).off + 1, none⟩ = some (.int .i64 (rd_T46 xs i).f1) := by
  obtain ⟨ad, c, e, _, hK, hc0⟩ := Kd.C_get h z46 i h0 h1
  have hc : ∀ j u, c[j]? = some u → w.cell? (ad.add (i.toNat * 2 + j)) = some u := hc0
  obtain rfl := k46_open hK
  exact ⟨ad, e, hc 0 _ rfl, by rw [← add_field _ _ 1 (by omega)]; exact hc 1 _ rfl⟩
end Go.Proofs.YtbmdhmmahmdccaaDoor.Print
/-! ### LexPure -/
namespace Go.Proofs.YtbmdhmmahmdccaaDoor
/-- The signs. -/
def signs : List Int := [40, 41, 123, 125, 44, 59, 58, 61, 43, 45, 42, 47, 37, 60, 62, 33, 38, 124]
/-- What a rune is. -/
def classZ (r : Int) : Int :=
  if r = 32 ∨ r = 9 ∨ r = 13 ∨ r = 10 then 1
  else if (97 ≤ r ∧ r ≤ 122) ∨ (65 ≤ r ∧ r ≤ 90) ∨ r = 95 then 2
  else if 192 ≤ r ∧ r ≤ 591 ∧ r ≠ 215 ∧ r ≠ 247 then 2
  else if 48 ≤ r ∧ r ≤ 57 then 3
  else if r = 34 then 5
  else if r = 35 then 6
  else if r ∈ signs then 4 else 0
def wordyZ (r : Int) : Bool := classZ r == 2 || classZ r == 3
/-- Are all runes from a place on letters and digits? By at most so many. -/
def wordyFrom (s : ByteArray) : Nat → Nat → Bool
  | 0, _ => true
  | f + 1, p => if p < s.size then wordyZ (Utf8.decode s p).1 && wordyFrom s f (p + (Utf8.decode s p).2) else true
theorem wordyFrom_end (s : ByteArray) (f p : Nat) (h : ¬ p < s.size) : wordyFrom s f p = true := by
  cases f with
  | zero => rfl
  | succ f => simp [wordyFrom, h]
def wordyB (s : ByteArray) : Bool := wordyFrom s s.size 0 && decide (0 < s.size)
end Go.Proofs.YtbmdhmmahmdccaaDoor
/-! ### K -/
namespace Go.Proofs.YtbmdhmmahmdccaaDoor
open Go.RowKit
/-- Of the blocks that were there only those of S may have changed. -/
structure Only (S : List Nat) (w w' : World) : Prop where
  os : w'.os = w.os
  tape : w'.tape = w.tape
  output : w'.output = w.output
  size : w.heap.size ≤ w'.heap.size
  block : ∀ k, k < w.heap.size → k ∉ S → w'.heap[k]? = w.heap[k]?
theorem Only.refl (S : List Nat) (w : World) : Only S w w := ⟨rfl, rfl, rfl, Nat.le_refl _, fun _ _ _ => rfl⟩
theorem Only.trans {S : List Nat} {a b c : World} (h : Only S a b) (k : Only S b c) : Only S a c :=
  ⟨k.os.trans h.os, k.tape.trans h.tape, k.output.trans h.output, Nat.le_trans h.size k.size,
   fun i hi hn => (k.block i (Nat.lt_of_lt_of_le hi h.size) hn).trans (h.block i hi hn)⟩
/-- What is written newly in between does not count. -/
theorem Only.then {S T : List Nat} {a b c : World} (h : Only S a b) (k : Only T b c) (hT : ∀ i, i ∈ T → i ∈ S ∨ a.heap.size ≤ i) : Only S a c :=
  ⟨k.os.trans h.os, k.tape.trans h.tape, k.output.trans h.output, Nat.le_trans h.size k.size,
   fun i hi hn => (k.block i (Nat.lt_of_lt_of_le hi h.size) (fun ht => (hT i ht).elim hn (by omega))).trans (h.block i hi hn)⟩
theorem Only.mono {S T : List Nat} {a b : World} (h : Only S a b) (hT : ∀ i, i ∈ S → i ∈ T) : Only T a b :=
  ⟨h.os, h.tape, h.output, h.size, fun i hi hn => h.block i hi (fun hs => hn (hT i hs))⟩
theorem Only.alloc {S : List Nat} {a w : World} (h : Only S a w) (o : Obj) : Only S a (w.alloc o) :=
  h.trans ⟨rfl, rfl, rfl, by simp, fun k hk _ => Below.heap_alloc _ _ _ hk⟩
theorem Only.setCell {S : List Nat} {a w : World} (h : Only S a w) {p : Addr} (hp : p.block ∈ S ∨ a.heap.size ≤ p.block) (u : Value) : Only S a (w.setCell p u) :=
  h.then (T := [p.block]) ⟨rfl, rfl, rfl, by simp [World.setCell], fun k _ hn => Below.heap_setCell _ _ _ _ (by simpa using hn)⟩ (by simpa using hp)
theorem Only.setRow {S : List Nat} {a w : World} (h : Only S a w) {g : Nat} (hp : g ∈ S ∨ a.heap.size ≤ g) (cs : Array Value) : Only S a (w.setRow g cs) :=
  h.then (T := [g]) ⟨rfl, rfl, rfl, by simp [World.setRow], fun k _ hn => setRow_other w g k cs (by simpa using hn)⟩ (by simpa using hp)
theorem Only.grown {S : List Nat} {a w w' : World} {row : Option Nat} (h : Only S a w) (hg : w.grownBy w' row) (hr : ∀ k, row = some k → k ∈ S ∨ a.heap.size ≤ k) : Only S a w' :=
  h.then (T := row.toList) ⟨hg.os, hg.tape, hg.output, hg.size, fun k hk hn => hg.block k hk (fun e => hn (by rw [← e]; simp))⟩ (fun i hi => hr i (by simpa using hi))
theorem Only.below {S : List Nat} {a w : World} (h : Only S a w) {B : Nat} (hB : B ≤ a.heap.size) (hS : ∀ i, i ∈ S → B ≤ i) : Below B a w :=
  ⟨h.os, h.tape, h.output, h.size, fun k hk => h.block k (by omega) (fun hs => by have := hS k hs; omega)⟩
theorem Only.nil_below {a w : World} (h : Only [] a w) : Below a.heap.size a w := h.below (Nat.le_refl _) (by simp)
theorem Only.of_below {a w : World} (h : Below a.heap.size a w) : Only [] a w := ⟨h.os, h.tape, h.output, h.size, fun k hk _ => h.block k hk⟩
theorem Only.heap {S : List Nat} {a w : World} (h : Only S a w) {k : Nat} {o : Obj} (ho : a.heap[k]? = some o) (hk : k ∉ S) : w.heap[k]? = some o :=
  (h.block k (Array.getElem?_eq_some_iff.1 ho).1 hk).trans ho
theorem Only.cell {S : List Nat} {a w : World} (h : Only S a w) {p : Addr} {v : Value} (hc : a.cell? p = some v) (hp : p.block ∉ S) : w.cell? p = some v :=
  (World.cell?_of_block (w := a) (h.block p.block (block_lt_of_cell hc) hp)).trans hc
theorem Only.pop {S : List Nat} {g : Nat} {a w : World} (h : Only (g :: S) a w) (hg : a.heap.size ≤ g) : Only S a w :=
  ⟨h.os, h.tape, h.output, h.size, fun i hi hn => h.block i hi (by simp; exact ⟨by omega, hn⟩)⟩
theorem heap_lt {w : World} {g : Nat} {o : Obj} (h : w.heap[g]? = some o) : g < w.heap.size := (Array.getElem?_eq_some_iff.1 h).1
/-- The cells from an address on hold these values. -/
def CellsAt (w : World) (ad : Addr) (cs : List Value) : Prop := ∀ j v, cs[j]? = some v → w.cell? (ad.add j) = some v
theorem add_block (ad : Addr) (j : Nat) : (ad.add j).block = ad.block := by unfold Addr.add; split <;> rfl
theorem CellsAt.only {S : List Nat} {a w : World} {ad : Addr} {cs : List Value} (h : CellsAt a ad cs) (ho : Only S a w) (hp : ad.block ∉ S) : CellsAt w ad cs :=
  fun j v hj => ho.cell (h j v hj) (by rw [add_block]; exact hp)
section laws
variable {P : Program}
theorem run_loadVar_at (w : World) (ty : TypeId) (ad : Addr) (cs : List Value) (d : TypeDesc) (hc : CellsAt w ad cs)
    (hu : P.underlying ty = some d) (hd : (match d with | .struct _ | .array _ _ => true | _ => false) = true) (hi : (P.info? ty).map (·.size) = some cs.length) :
    (loadVar ty ad).run P w = .ok (.agg cs.toArray) w := by
  have hl : (loadCells ad cs.length).run P w = .ok cs.toArray w := run_loadCells_list (P := P) w ad cs hc
  cases hq : P.info? ty with
  | none => simp [hq] at hi
  | some i =>
    have hs : i.size = cs.length := by simpa [hq] using hi
    have hagg : (isAgg ty).run P w = .ok true w := by
      unfold isAgg
      rw [Sem.run_bind, run_underlying hu w]
      cases d <;> simp_all
    simp [loadVar, Sem.run_bind, hagg, sizeOf, typeInfo, hq, hs, hl]
/-- A struct or an array is loaded from wherever it lies. -/
theorem wpList_load_at {ops : Array Oper} {rest : List Oper} {o : Oper} {a : Act} {w : World} {Q : Exit → Act → World → Prop} (hgd : o.guard = none) (ty : TypeId) (x : Operand) (ho : o.op = .load ty x)
    (ad : Addr) (hx : a.eval x = .pointer (some ad)) (cs : List Value) (d : TypeDesc) (hc : CellsAt w ad cs)
    (hu : P.underlying ty = some d) (hd : (match d with | .struct _ | .array _ _ => true | _ => false) = true) (hi : (P.info? ty).map (·.size) = some cs.length)
    (h : wpList P ops Q rest (a.put o.dst (.agg cs.toArray)) w) : wpList P ops Q (o :: rest) a w := by
  refine wpList_plain hgd fun K hK => ?_
  unfold Oper.wp execOp
  simp only [ho, hx, Instr.loadAt, Instr.sureAddr, Sem.run_bind, Sem.run_pure, Result.andThen_ok, run_loadVar_at w ty ad cs d hc hu hd hi]
  exact hK _ _ h
/-- var x [n]T, or any variable in memory: a new block of its zero value; the world behind it by a name. -/
theorem wpList_alloc_new {ops : Array Oper} {rest : List Oper} {o : Oper} {a : Act} {w : World} {Q : Exit → Act → World → Prop} (hgd : o.guard = none) (t : TypeId) (ho : o.op = .alloc t)
    (z : Value) (size bytes : Nat) (hinfo : (P.info? t).map (fun i => (i.zero, i.size, i.bytes)) = some (some z, size, bytes))
    (h : ∀ w', Hid (w'.heap[w.heap.size]? = some (.cells z.cells t (0, 0))) → Hid (w'.heap.size = w.heap.size + 1) → Only [] w w' → wpList P ops Q rest (a.put o.dst (.pointer (some ⟨w.heap.size, 0, none⟩))) w') :
    wpList P ops Q (o :: rest) a w := by
  obtain ⟨i, h2, h3, h4, h5⟩ := info_parts hinfo
  refine wpList_plain hgd fun K hK => ?_
  have hrun : (Instr.alloc t true (.tuple #[])).run P w = .ok (.pointer (some ⟨w.heap.size, 0, none⟩)) (w.alloc (.cells z.cells t)) := by
    simp [Instr.alloc, zeroValue, typeInfo, h2, h3, newVar, newRow]
  unfold Oper.wp
  simp only [execOp, ho, Sem.run_bind, hrun, Result.andThen]
  exact hK _ _ (h _ (heap_alloc_new w _) (show _ = _ by simp) ((Only.refl _ _).alloc _))
/-- A struct or an array is stored over a whole block; the world behind it by a name. -/
theorem wpList_store_new {ops : Array Oper} {rest : List Oper} {o : Oper} {a : Act} {w : World} {Q : Exit → Act → World → Prop} (hgd : o.guard = none) (ty : TypeId) (x y : Operand) (ho : o.op = .store ty x y)
    (g : Nat) (cells : Array Value) (hx : a.eval x = .pointer (some ⟨g, 0, none⟩)) (hy : a.eval y = .agg cells)
    (t : TypeId) (old : Array Value) (hg : w.heap[g]? = some (.cells old t (0, 0))) (hi : (P.info? ty).map (·.size) = some cells.size)
    (hold : old.size = cells.size) (h1 : ∀ v ∈ cells.toList, v.oneCell' = true)
    (h : ∀ w', Hid (w'.heap[g]? = some (.cells cells t (0, 0))) → Only [g] w w' → wpList P ops Q rest (a.put o.dst undef) w') : wpList P ops Q (o :: rest) a w :=
  wpList_store_row hgd ty x y ho g cells hx hy t old hg hi hold (Array.all_eq_true_iff_forall_mem.2 (fun v hv => h1 v (by simpa using hv)))
    (h _ (setRow_heap w g old cells t _ hg) ((Only.refl _ _).setRow (by simp) _))
theorem cellsAt_row {w : World} {g : Nat} {cs : List Value} {t : TypeId} {fr : Nat × Nat} (h : w.heap[g]? = some (.cells cs.toArray t fr)) : CellsAt w ⟨g, 0, none⟩ cs := by
  intro j v hj
  have e : (⟨g, 0, none⟩ : Addr).add j = ⟨g, j, none⟩ := by unfold Addr.add; split <;> simp_all
  rw [e, cell_of_row w g j _ _ _ h, List.getElem?_toArray, hj]
end laws
end Go.Proofs.YtbmdhmmahmdccaaDoor
/-! ### Rd -/
namespace Go.Proofs.YtbmdhmmahmdccaaDoor
open Go.RowKit Go.Deep
/-- A reading: these cells, in this world, are this datum. -/
abbrev Rd (α : Type) := World → List Value → α → Prop
def rdInt (k : IntKind) : Rd Int := fun _ cs x => cs = [.int k x] ∧ (Lit.int k x).wf = true
def rdBool : Rd Bool := fun _ cs x => cs = [.bool x]
def rdStr : Rd ByteArray := fun _ cs x => cs = [.string x] ∧ x.size ≤ 140737488351232
def rdUnit : Rd Unit := fun _ _ _ => True
def rdPair {α β : Type} (n : Nat) (R : Rd α) (T : Rd β) : Rd (α × β) := fun w cs x => R w (cs.take n) x.1 ∧ T w (cs.drop n) x.2
/-- The elements from an address on. -/
def rdRow {α : Type} (n : Nat) (R : Rd α) (w : World) (A : Option Addr) (xs : List α) : Prop :=
  ∀ i x, xs[i]? = some x → ∃ ad es, A = some ad ∧ es.length = n ∧ CellsAt w (ad.add (i * n)) es ∧ R w es x
def rdSl {α : Type} (n bytes : Nat) (R : Rd α) : Rd (List α) := fun w cs xs =>
  ∃ A cap, cs = [.slice A xs.length cap] ∧ xs.length ≤ cap ∧ cap * bytes ≤ 140737488351232 ∧ cap ≤ 9223372036854775807 ∧ rdRow n R w A xs
theorem CellsAt.below {w w' : World} {ad : Addr} {cs : List Value} (h : CellsAt w ad cs) (hb : Below w.heap.size w w') : CellsAt w' ad cs :=
  fun j v hj => by have := h j v hj; exact (hb.cell (by exact block_lt_of_cell this)).trans this
/-- A field of a struct, as the walk spells its address. -/
theorem cellsAt_head {w : World} {ad : Addr} {cs : List Value} {v : Value} (h : CellsAt w ad cs) (hv : cs[0]? = some v) : w.cell? ad = some v := by
  have := h 0 v hv
  simpa [Addr.add] using this
theorem cellsAt_field {w : World} {ad : Addr} {cs : List Value} {v : Value} (h : CellsAt w ad cs) (j : Nat) (hj : 0 < j) (hv : cs[j]? = some v) : w.cell? ⟨ad.block, ad.off + j, none⟩ = some v := by
  have := h j v hv
  have e : ad.add j = ⟨ad.block, ad.off + j, none⟩ := by unfold Addr.add; rw [if_neg (by omega)]
  rwa [e] at this
section opens
variable {H : Type} {enc : TypeId × Value → H} {P : Program} {w : World}
/-- Whatever cells read as a datum of this type have this reading. -/
def Opens {α : Type} (enc : TypeId × Value → H) (P : Program) (w : World) (t : TypeId) (R : Rd α) : Prop :=
  ∀ fuel cs x, DataW.trod enc P w 0 (fun _ => true) true fuel t cs = some x → (x.1.weights P t).all (· ≤ reachBytes) = true → ∃ y, R w cs y
theorem opens_int {t : TypeId} {k : IntKind} (ht : P.underlying t = some (.int k)) : Opens enc P w t (rdInt k) := by
  intro fuel cs x h _
  obtain ⟨n, rfl, _, hw⟩ := DataW.trod_int ht h
  exact ⟨n, rfl, hw⟩
theorem opens_bool {t : TypeId} (ht : P.underlying t = some .bool) : Opens enc P w t rdBool := by
  intro fuel cs x h _
  obtain ⟨b, rfl, _⟩ := DataW.trod_bool ht h
  exact ⟨b, rfl⟩
theorem opens_str {t : TypeId} (ht : P.underlying t = some .string) : Opens enc P w t rdStr := by
  intro fuel cs x h hs
  obtain ⟨s, rfl, rfl, _⟩ := DataW.trod_string ht h
  refine ⟨s, rfl, ?_⟩
  simp only [DataW.weights, List.all_cons, List.all_nil, Bool.and_true, decide_eq_true_eq, Array.length_toList] at hs
  exact hs
theorem weightsAll_mem {e : TypeId} {d : DataW H} : ∀ {l : List (DataW H)}, d ∈ l → ∀ m, m ∈ d.weights P e → m ∈ DataW.weightsAll P e l
  | x :: l, hd, m, hm => by
    rw [DataW.weightsAll, List.mem_append]
    rcases List.mem_cons.1 hd with rfl | hd
    · exact .inl hm
    · exact .inr (weightsAll_mem hd m hm)
theorem opens_sl {α : Type} [Inhabited α] {t e : TypeId} {R : Rd α} {n bytes : Nat} (ht : P.underlying t = some (.slice e)) (hn : P.cellsOf e = n) (hb : P.bytesOf e = bytes) (hR : Opens enc P w e R) : Opens enc P w t (rdSl n bytes R) := by
  subst hn
  subst hb
  intro fuel cs x h hs
  rcases open_slice ht h with ⟨rfl, rfl⟩ | ⟨a, len, cap, m, k, D, Pl, rfl, _, hl, hm, hmm, rfl, hi⟩
  · exact ⟨[], none, 0, rfl, by simp, by simp, by simp, fun i x hx => by simp at hx⟩
  · simp only [if_true] at hmm
    subst hmm
    have hw : ∀ i, i < m → ((D i).weights P e).all (· ≤ reachBytes) = true := by
      intro i him
      rw [List.all_eq_true] at hs ⊢
      intro z hz
      refine hs z ?_
      simp only [DataW.weights, ht]
      refine List.mem_cons_of_mem _ ?_
      rw [List.mem_append]
      by_cases hil : i < len
      · exact .inl (weightsAll_mem (List.mem_map.2 ⟨i, List.mem_range.2 hil, rfl⟩) z hz)
      · exact .inr (weightsAll_mem (List.mem_map.2 ⟨i - len, List.mem_range.2 (by omega), by rw [show len + (i - len) = i by omega]⟩) z hz)
    have hcap : m * P.bytesOf e ≤ 140737488351232 := by
      rw [List.all_eq_true] at hs
      have := hs ((((List.range len).map D).length + ((List.range (m - len)).map fun j => D (len + j)).length) * P.bytesOf e) (by simp [DataW.weights, ht])
      simp only [List.length_map, List.length_range, decide_eq_true_eq] at this
      rw [show len + (m - len) = m by omega] at this
      exact this
    obtain ⟨f, hf⟩ := choose_lt (α := α) (n := len) (p := fun i y => ∃ es, es.length = P.cellsOf e ∧ CellsAt w (a.add (i * P.cellsOf e)) es ∧ R w es y) (fun i hil => by
      obtain ⟨es, hc, htr⟩ := hi i (by omega)
      obtain ⟨y, hy⟩ := hR k es _ htr (hw i (by omega))
      obtain ⟨_, hlen, hat⟩ := World.cells?_some hc
      refine ⟨y, es, hlen, fun j v hj => ?_, hy⟩
      have hjl := (List.getElem?_eq_some_iff.1 hj).1
      exact (hat j (by omega)).trans hj)
    refine ⟨(List.range len).map f, some a, m, by simp, by simpa using hl, hcap, by unfold maxLen at hm; omega, ?_⟩
    intro i y hy
    have hil : i < len := by have := (List.getElem?_eq_some_iff.1 hy).1; simpa using this
    rw [List.getElem?_map, List.getElem?_range hil] at hy
    cases hy
    obtain ⟨es, h1, h2, h3⟩ := hf i hil
    exact ⟨a, es, rfl, h1, h2, h3⟩
/-- The fields from one on. -/
def OpensFs {α : Type} (enc : TypeId × Value → H) (P : Program) (w : World) (off : Nat) (fs : List Field) (R : Rd α) : Prop :=
  ∀ (fuel : Nat) (cs : List Value) (ys : List (DataW H × List MemPlace)), ys.length = fs.length → (∀ (i : Nat) (f : Field), fs[i]? = some f → DataW.trod enc P w 0 (fun _ => true) true fuel f.type ((cs.drop f.offset).take (P.cellsOf f.type)) = ys[i]?) →
    (DataW.weightsEach P (fs.map (·.type)) (ys.map (·.1))).all (· ≤ reachBytes) = true → ∃ y, R w (cs.drop off) y
theorem opens_nil {off : Nat} : OpensFs enc P w off [] rdUnit := fun _ _ _ _ _ _ => ⟨(), trivial⟩
theorem opens_cons {α β : Type} {off n : Nat} {f : Field} {fs : List Field} {R : Rd α} {T : Rd β} (hoff : f.offset = off) (hn : P.cellsOf f.type = n) (hR : Opens enc P w f.type R) (hT : OpensFs enc P w (off + n) fs T) : OpensFs enc P w off (f :: fs) (rdPair n R T) := by
  subst hoff
  subst hn
  intro fuel cs ys hl hf hs
  match ys, hl with
  | y :: ys, hl =>
    have h0 := hf 0 f rfl
    simp only [List.getElem?_cons_zero] at h0
    have hs' : ((y.1.weights P f.type).all (· ≤ reachBytes) = true) ∧ (DataW.weightsEach P (fs.map (·.type)) (ys.map (·.1))).all (· ≤ reachBytes) = true := by
      simpa [DataW.weightsEach, List.all_append, Bool.and_eq_true] using hs
    obtain ⟨a, ha⟩ := hR fuel _ y h0 hs'.1
    obtain ⟨b, hb⟩ := hT fuel cs ys (by simpa using hl) (fun i g hg => by simpa using hf (i + 1) g (by simpa using hg)) hs'.2
    exact ⟨(a, b), ha, by rw [List.drop_drop]; exact hb⟩
theorem opens_struct {α : Type} {t : TypeId} {fs : Array Field} {R : Rd α} (ht : P.underlying t = some (.struct fs)) (hR : OpensFs enc P w 0 fs.toList R) : Opens enc P w t R := by
  intro fuel cs x h hs
  obtain ⟨ys, n, rfl, rfl, hlen, hyl, hf⟩ := DataW.trod_struct ht h
  have := hR n cs ys (by simpa using hyl) (fun i f hi => hf i f (by simpa using hi)) (by simpa [DataW.weights, ht] using hs)
  simpa using this
/-- An argument's reading. -/
theorem opens_arg {α : Type} {t : TypeId} {R : Rd α} {v : Value} {d : DataW H} {p : List MemPlace} (hR : Opens enc P w t R) (h : DataW.Trod enc P w 0 (fun _ => true) true t v d p) (hs : (d.weights P t).all (· ≤ reachBytes) = true) : ∃ y, R w v.cells.toList y := by
  obtain ⟨fuel, hf⟩ := h
  exact hR fuel _ _ hf hs
theorem weights_each {ts : List TypeId} {ds : List (DataW H)} (h : (DataW.weightsEach P ts ds).all (· ≤ reachBytes) = true) {j : Nat} {t : TypeId} {d : DataW H} (ht : ts[j]? = some t) (hd : ds[j]? = some d) : (d.weights P t).all (· ≤ reachBytes) = true := by
  rw [List.all_eq_true] at h ⊢
  exact fun z hz => h z (DataW.weights_mem_each ht hd z hz)
end opens
end Go.Proofs.YtbmdhmmahmdccaaDoor
/-! ### L -/
namespace Go.Proofs.YtbmdhmmahmdccaaDoor
namespace L
open Go.RowKit
section
variable {P : Program} {ops : Array Oper} {Q : Exit → Act → World → Prop} {md : Region.Mode}
/-- Whatever order is picked from here on, each operation that is carried out leaves what was there. -/
def wpGrow (P : Program) (md : Region.Mode) (ops : Array Oper) (Q : Exit → Act → World → Prop) (S : List Nat) (z : Nat) : Nat → Array Bool → Act → World → Prop
  | 0, listed, a, w => Region.ready md ops listed = [] ∧ Q .normal a w
  | fuel + 1, listed, a, w =>
    (Region.ready md ops listed = [] → Q .normal a w) ∧
    ∀ i ∈ Region.ready md ops listed, wpOp P ops Q i (fun a' w' => (i = z ∨ Only S w w') ∧ wpGrow P md ops Q S z fuel (listed.setIfInBounds i true) a' w') a w
theorem wpAny_of_grow {S : List Nat} {z : Nat} : ∀ (fuel : Nat) (listed : Array Bool) (a : Act) (w : World), wpGrow P md ops Q S z fuel listed a w → wpAny P md ops Q fuel listed a w
  | 0, _, _, _, h => h
  | fuel + 1, _, _, _, h => ⟨h.1, fun i hi => wpOp_mono (fun a' w' h' => wpAny_of_grow fuel _ a' w' h'.2) (h.2 i hi)⟩
theorem yields_weaker {S T : World → Prop} {o : Oper} {v : Value} {a : Act} (h : YieldsIf P ops S o v a) (hT : ∀ w, T w → S w) : YieldsIf P ops T o v a :=
  h.imp (fun ⟨hw, hv⟩ => ⟨hw, fun w hw' => hv w (hT w hw')⟩) id
/-- z waits for all others, at most over one in between. -/
def LastOp (md : Region.Mode) (ops : Array Oper) (z : Nat) : Prop := ∀ oz, ops[z]? = some oz → ∀ k, k < ops.size → k ≠ z →
  ∃ e ∈ oz.after, Region.binds md e = true ∧ (e.on = k ∨ ∃ om, ops[e.on]? = some om ∧ ∃ e' ∈ om.after, Region.binds md e' = true ∧ e'.on = k)
/-- What was carried out waited for what was carried out. -/
def Closed (md : Region.Mode) (ops : Array Oper) (listed : Array Bool) : Prop := ∀ j oj, ops[j]? = some oj → listed.getD j false = true → ∀ e ∈ oj.after, Region.binds md e = true → listed.getD e.on false = true
theorem getD_set_mono {l : Array Bool} {j k : Nat} (h : l.getD k false = true) : (l.setIfInBounds j true).getD k false = true := by
  rw [Array.getD_eq_getD_getElem?] at h ⊢
  rw [Array.getElem?_setIfInBounds]
  split
  · split <;> simp_all
  · exact h
theorem Closed.add {listed : Array Bool} {j : Nat} (h : Closed md ops listed) (hj : j ∈ Region.ready md ops listed) : Closed md ops (listed.setIfInBounds j true) := by
  intro k ok hk hl e he hb
  by_cases hkj : j = k
  · subst hkj
    obtain ⟨_, o, ho, hall⟩ := mem_ready.1 hj
    obtain rfl := Option.some.inj (ho.symm.trans hk)
    exact getD_set_mono (hall e he hb)
  · refine getD_set_mono (h k ok hk ?_ e he hb)
    rw [Array.getD_eq_getD_getElem?, Array.getElem?_setIfInBounds, if_neg hkj] at hl
    rw [Array.getD_eq_getD_getElem?]
    exact hl
theorem wpGrow_first {S : List Nat} {z : Nat} {i : Nat} {oi : Oper} {v : Value} (hz : LastOp md ops z) (hiz : i ≠ z) (hi : ops[i]? = some oi) (hsel : ∀ (j : Nat) (o : Oper) cs b, ops[j]? = some o → o.op ≠ .select cs b)
    (hQ : ∀ c a w, Q (.panic c) (a.put oi.dst v) w → Q (.panic c) a w) :
    ∀ (fuel : Nat) (listed : Array Bool) (a : Act) (w : World), Closed md ops listed →
      (∀ j oj, ops[j]? = some oj → j ≠ i → listed.getD j true = false → (∀ e ∈ oj.after, Region.binds md e = true → e.on ≠ i) → oi.apart ops oj = true) →
      i ∈ Region.ready md ops listed → YieldsIf P ops (fun w' => Only S w w') oi v a →
      wpGrow P md ops Q S z fuel (listed.setIfInBounds i true) (a.put oi.dst v) w → wpGrow P md ops Q S z (fuel + 1) listed a w := by
  intro fuel
  induction fuel with
  | zero =>
    intro listed a w _ _ hr hy H
    refine ⟨fun h => (by rw [h] at hr; cases hr), fun j hj => ?_⟩
    by_cases hji : j = i
    · subst hji; exact hy.wpOp hi (Only.refl S w) ⟨.inr (Only.refl S w), H⟩
    · have h1 := ready_mono hj hji
      rw [H.1] at h1
      cases h1
  | succ fuel ih =>
    intro listed a w hcl hfree hr hy H
    refine ⟨fun h => (by rw [h] at hr; cases hr), fun j hj => ?_⟩
    by_cases hji : j = i
    · subst hji; exact hy.wpOp hi (Only.refl S w) ⟨.inr (Only.refl S w), H⟩
    · have h1 := H.2 j (ready_mono hj hji)
      obtain ⟨hjun, oj, hoj, hall⟩ := mem_ready.1 hj
      have hnot : ∀ e ∈ oj.after, Region.binds md e = true → e.on ≠ i := fun e he hb heq => by
        have h1 := hall e he hb
        have h0 := (mem_ready.1 hr).1
        rw [heq] at h1
        rcases Nat.lt_or_ge i listed.size with h' | h'
        · simp [h'] at h0 h1; rw [h0] at h1; cases h1
        · simp [Array.getElem?_eq_none h'] at h1
      have h2 := wpOp_putIf hoj (hfree j oj hoj hji hjun hnot) (fun cs b => hsel i oi cs b hi) (fun cs b => hsel j oj cs b hoj) hQ hy h1
      have hfree' : ∀ k ok, ops[k]? = some ok → k ≠ i → (listed.setIfInBounds j true).getD k true = false →
          (∀ e ∈ ok.after, Region.binds md e = true → e.on ≠ i) → oi.apart ops ok = true := fun k ok hk hki hun hno => by
        refine hfree k ok hk hki ?_ hno
        by_cases hjk : j = k
        · subst hjk; exact hjun
        · rw [getD_set_ne true hjk] at hun; exact hun
      have hjz : j ≠ z := by
        rintro rfl
        obtain ⟨e, he, hb, hk⟩ := hz oj hoj i (Array.getElem?_eq_some_iff.1 hi).1 hiz
        rcases hk with hk | ⟨om, hom, e', he', hb', hk⟩
        · exact hnot e he hb hk
        · have h1 := hcl e.on om hom (hall e he hb) e' he' hb'
          have h0 := (mem_ready.1 hr).1
          rw [hk] at h1
          rcases Nat.lt_or_ge i listed.size with h' | h'
          · simp [h'] at h0 h1; rw [h0] at h1; cases h1
          · simp [Array.getElem?_eq_none h'] at h1
      refine wpOp_mono (fun a' w' h3 => ⟨h3.2.1, ih (listed.setIfInBounds j true) a' w' (hcl.add hj) hfree' (ready_mono hr (Ne.symm hji)) (yields_weaker h3.1 fun w'' h => (h3.2.1.resolve_left hjz).trans h) ?_⟩) h2
      rw [Array.setIfInBounds_comm _ _ hji]
      exact h3.2.2
/-- What matters of an operation for its place: what it waits for, which temporaries it looks at, which it fills. -/
abbrev Row := List Nat × List Nat × Option Nat
def rowOf (md : Region.Mode) (ops : Array Oper) (o : Oper) : Row := ((o.after.toList.filter (Region.binds md)).map (·.on), o.looksAt ops, o.dst)
def tabOf (md : Region.Mode) (ops : Array Oper) : List Row := ops.toList.map (rowOf md ops)
def apartT (x y : Row) : Bool :=
  (match x.2.2 with
   | some d => !y.2.1.contains d && y.2.2 != some d
   | none => true) &&
  (match y.2.2 with
   | some d => !x.2.1.contains d
   | none => true)
theorem apartT_spec {x y : Oper} (h : apartT (rowOf md ops x) (rowOf md ops y) = true) : x.apart ops y = true := h
def readyT (tab : List Row) (l : List Bool) (i : Nat) : Bool :=
  !l.getD i true && (match tab[i]? with
   | some r => r.1.all fun k => l.getD k false
   | none => false)
theorem readyT_spec (l : List Bool) (i : Nat) : readyT (tabOf md ops) l i = true ↔ i ∈ Region.ready md ops l.toArray := by
  rw [mem_ready]
  unfold readyT tabOf
  have e1 : l.toArray.getD i true = l.getD i true := by simp [List.getD_eq_getElem?_getD]
  have e2 : ∀ k, l.toArray.getD k false = l.getD k false := fun k => by simp [List.getD_eq_getElem?_getD]
  rw [e1, List.getElem?_map, Array.getElem?_toList]
  cases ho : ops[i]? with
  | none => simp
  | some o =>
    simp only [Option.map_some, Bool.and_eq_true, Bool.not_eq_true', List.all_eq_true, rowOf, List.mem_map, List.mem_filter]
    constructor
    · rintro ⟨h1, h2⟩
      exact ⟨h1, o, rfl, fun e he hb => by rw [e2]; exact h2 _ ⟨e, ⟨by simpa using he, hb⟩, rfl⟩⟩
    · rintro ⟨h1, o', ho', h2⟩
      cases ho'
      refine ⟨h1, ?_⟩
      rintro k ⟨e, ⟨he, hb⟩, rfl⟩
      have := h2 e (by simpa using he) hb
      rwa [e2] at this
def freeT (tab : List Row) (l : List Bool) (i : Nat) (x : Row) : List Row → Nat → Bool
  | [], _ => true
  | y :: r, j => (j == i || l.getD j true || y.1.contains i || apartT x y) && freeT tab l i x r (j + 1)
theorem freeT_spec (tab : List Row) (l : List Bool) (i : Nat) (x : Row) : ∀ (r : List Row) (j : Nat), freeT tab l i x r j = true → ∀ k y, r[k]? = some y → j + k = i ∨ l.getD (j + k) true = true ∨ y.1.contains i = true ∨ apartT x y = true
  | [], _, _, k, y, hk => by simp at hk
  | z :: r, j, h, k, y, hk => by
    simp only [freeT, Bool.and_eq_true, Bool.or_eq_true, beq_iff_eq] at h
    cases k with
    | zero =>
      simp at hk
      subst hk
      rcases h.1 with ((h1 | h1) | h1) | h1
      · exact .inl (by omega)
      · exact .inr (.inl (by simpa using h1))
      · exact .inr (.inr (.inl h1))
      · exact .inr (.inr (.inr h1))
    | succ k =>
      have := freeT_spec tab l i x r (j + 1) h.2 k y (by simpa using hk)
      rwa [show j + 1 + k = j + (k + 1) by omega] at this
def aloneT (tab : List Row) (l : List Bool) (i n : Nat) : Bool := (List.range n).all fun j => j == i || !readyT tab l j
/-- The numbers in the order in which they are taken; beside each: may it be taken first? does it come up alone? -/
def lastT (tab : List Row) (n z : Nat) : Bool := match tab[z]? with
  | some r => (List.range n).all fun k => k == z || r.1.any fun m => m == k || (match tab[m]? with | some q => q.1.contains k | none => false)
  | none => true
theorem tab_get {z : Nat} {oz : Oper} (hoz : ops[z]? = some oz) : (tabOf md ops)[z]? = some (rowOf md ops oz) := by unfold tabOf; rw [List.getElem?_map, Array.getElem?_toList, hoz]; rfl
theorem row_has {oz : Oper} {k : Nat} (h : k ∈ (rowOf md ops oz).1) : ∃ e ∈ oz.after, Region.binds md e = true ∧ e.on = k := by
  simp only [rowOf, List.mem_map, List.mem_filter] at h
  obtain ⟨e, ⟨he, hb⟩, heq⟩ := h
  exact ⟨e, by simpa using he, hb, heq⟩
theorem lastT_spec {z : Nat} (h : lastT (tabOf md ops) ops.size z = true) : LastOp md ops z := by
  intro oz hoz k hk hkz
  unfold lastT at h
  rw [tab_get hoz] at h
  simp only [List.all_eq_true, List.mem_range, Bool.or_eq_true, beq_iff_eq, List.any_eq_true] at h
  obtain ⟨m, hm, h2⟩ := (h k hk).resolve_left hkz
  obtain ⟨e, he, hb, rfl⟩ := row_has hm
  refine ⟨e, he, hb, ?_⟩
  rcases h2 with h2 | h2
  · exact .inl h2
  · cases ho : ops[e.on]? with
    | none =>
      have : (tabOf md ops)[e.on]? = none := by unfold tabOf; rw [List.getElem?_map, Array.getElem?_toList, ho]; rfl
      rw [this] at h2
      cases h2
    | some om =>
      rw [tab_get ho] at h2
      obtain ⟨e', he', hb', h3⟩ := row_has (List.contains_iff_mem.1 h2)
      exact .inr ⟨om, rfl, e', he', hb', h3⟩
def rowsT (tab : List Row) (n z : Nat) : List (Nat × Bool × Bool) → List Bool → Bool
  | [], l => (List.range n).all fun j => !readyT tab l j
  | (i, f, c) :: r, l =>
    readyT tab l i && (!f || (i != z && (match tab[i]? with | some x => freeT tab l i x tab 0 | none => false))) && (!c || aloneT tab l i n) && rowsT tab n z r (l.set i true)
/-- The walk through a region in one order. -/
def GrowL (P : Program) (ops : Array Oper) (Q : Exit → Act → World → Prop) (S : List Nat) (z : Nat) : List (Nat × Bool × Bool) → Act → World → Prop
  | [], a, w => Q .normal a w
  | (i, f, c) :: r, a, w => ∃ oi, ops[i]? = some oi ∧
      ((f = true ∧ ∃ v, YieldsIf P ops (fun w' => Only S w w') oi v a ∧ GrowL P ops Q S z r (a.put oi.dst v) w) ∨
       (c = true ∧ Region.wanted oi (yielded ops a.tmps) = true ∧ oi.wp P a w (fun a' w' => (i = z ∨ Only S w w') ∧ GrowL P ops Q S z r a' w') Q))
theorem ready_lt {l : Array Bool} {j : Nat} (h : j ∈ Region.ready md ops l) : j < ops.size := by
  obtain ⟨_, o, ho, _⟩ := mem_ready.1 h
  exact (Array.getElem?_eq_some_iff.1 ho).1
theorem grow_of_rows {S : List Nat} {z : Nat} (hz : LastOp md ops z) (hsel : Region.noSelect ops = true) (hQ : ∀ c (a : Act) d v w, Q (.panic c) (a.put d v) w → Q (.panic c) a w) :
    ∀ (T : List (Nat × Bool × Bool)) (l : List Bool), rowsT (tabOf md ops) ops.size z T l = true → Closed md ops l.toArray → ∀ a w, GrowL P ops Q S z T a w → wpGrow P md ops Q S z T.length l.toArray a w
  | [], l, hT, _, a, w, h => by
    refine ⟨?_, h⟩
    rw [List.eq_nil_iff_forall_not_mem]
    intro j hj
    simp only [rowsT, List.all_eq_true, List.mem_range, Bool.not_eq_true'] at hT
    have := hT j (ready_lt hj)
    rw [(readyT_spec l j).2 hj] at this
    cases this
  | (i, f, c) :: r, l, hT, hcl, a, w, h => by
    simp only [rowsT, Bool.and_eq_true, Bool.or_eq_true, Bool.not_eq_true'] at hT
    obtain ⟨⟨⟨hrd, hf⟩, hc⟩, hr⟩ := hT
    obtain ⟨oi, hi, h⟩ := h
    have hcl' : Closed md ops (l.set i true).toArray := by
      have := hcl.add ((readyT_spec l i).1 hrd)
      simpa using this
    have hset : l.toArray.setIfInBounds i true = (l.set i true).toArray := by simp
    rcases h with ⟨hft, v, hy, hg⟩ | ⟨hct, hw, hwp⟩
    · have hfr := hf.resolve_left (by rw [hft]; simp)
      have htab : (tabOf md ops)[i]? = some (rowOf md ops oi) := by unfold tabOf; rw [List.getElem?_map, Array.getElem?_toList, hi]; rfl
      rw [htab] at hfr
      simp only [bne_iff_ne, ne_eq] at hfr
      refine wpGrow_first hz hfr.1 hi (Region.noSelect_spec hsel) (fun c a w => hQ c a _ _ w) r.length _ a w hcl (fun j oj hj hne hun hno => ?_) ((readyT_spec l i).1 hrd) hy ?_
      · have htj : (tabOf md ops)[j]? = some (rowOf md ops oj) := by unfold tabOf; rw [List.getElem?_map, Array.getElem?_toList, hj]; rfl
        have hl : l.getD j true = false := by simpa [List.getD_eq_getElem?_getD] using hun
        rcases freeT_spec _ l i _ _ 0 hfr.2 j _ htj with h1 | h1 | h1 | h1
        · exact absurd (by omega) hne
        · rw [Nat.zero_add, hl] at h1; cases h1
        · exfalso
          simp only [rowOf, List.contains_iff_mem, List.mem_map, List.mem_filter] at h1
          obtain ⟨e, ⟨he, hb⟩, heq⟩ := h1
          exact hno e (by simpa using he) hb heq
        · exact apartT_spec h1
      · rw [hset]
        exact grow_of_rows hz hsel hQ r _ hr hcl' _ _ hg
    · have hal := hc.resolve_left (by rw [hct]; simp)
      refine ⟨fun h0 => ?_, fun j hj => ?_⟩
      · have := (readyT_spec l i).1 hrd
        rw [h0] at this
        cases this
      · have hji : j = i := by
          simp only [aloneT, List.all_eq_true, List.mem_range, Bool.or_eq_true, beq_iff_eq, Bool.not_eq_true'] at hal
          rcases hal j (ready_lt hj) with h1 | h1
          · exact h1
          · rw [(readyT_spec l j).2 hj] at h1; cases h1
        subst hji
        rw [hset]
        unfold wpOp
        simp only [hi, hw, if_true]
        exact .inl (Oper.wp_mono (fun a' w' h => ⟨h.1, grow_of_rows hz hsel hQ r _ hr hcl' _ _ h.2⟩) hwp)
/-- The beginning. -/
theorem grow_start (S : List Nat) (z : Nat) (T : List (Nat × Bool × Bool)) {id : Nat} {a : Act} {w : World} (hm : P.follows .mixedOrders = true)
    (tab : List Row) (htab : tabOf .any ops = tab) (hs : Region.noSelect ops = true) {n : Nat} (hn : ops.size = n) (hT : (lastT tab n z && rowsT tab n z T (List.replicate n false) && T.length == n) = true)
    (hQ : ∀ c (a : Act) t v w, Q (.panic c) (a.put (some t) v) w → Q (.panic c) a w)
    (h : ∀ w1, Only [] w w1 → GrowL P ops Q S z T a w1) : (Code.region id ops true).wp P Q a w := by
  subst htab
  subst hn
  simp only [Bool.and_eq_true, beq_iff_eq] at hT
  obtain ⟨⟨h2, h1⟩, h3⟩ := hT
  have ho : Only [] w { w with drawn := w.drawn + 1 } := ⟨rfl, rfl, rfl, Nat.le_refl _, fun _ _ _ => rfl⟩
  refine wp_region_any hm (wpAny_of_grow (S := S) (z := z) _ _ _ _ ?_)
  have := grow_of_rows (S := S) (z := z) (lastT_spec h2) hs (fun c a d v w h => by cases d with | none => exact h | some t => exact hQ c a t v w h) T _ h1 (fun j oj _ hl => by exfalso; rw [Array.getD_eq_getD_getElem?, List.getElem?_toArray, List.getElem?_replicate] at hl; split at hl <;> simp at hl) a _ (h _ ho)
  rw [h3, List.toArray_replicate] at this
  exact this
section
variable {S : List Nat} {z : Nat} {i : Nat} {f c : Bool} {oi : Oper} {r : List (Nat × Bool × Bool)} {a : Act} {w : World}
theorem growl_off (hi : ops[i]? = some oi) (hw : Region.wanted oi (yielded ops a.tmps) = false) (h : GrowL P ops Q S z r (a.put oi.dst undef) w) : GrowL P ops Q S z ((i, true, c) :: r) a w :=
  ⟨oi, hi, .inl ⟨rfl, _, .inr ⟨hw, rfl⟩, h⟩⟩
theorem growl_on {v : Value} (hi : ops[i]? = some oi) (hw : Region.wanted oi (yielded ops a.tmps) = true) (hy : ∀ w', Only S w w' → (execOp a.eval oi).run P w' = .ok (.value v) w')
    (h : GrowL P ops Q S z r (a.put oi.dst v) w) : GrowL P ops Q S z ((i, true, c) :: r) a w :=
  ⟨oi, hi, .inl ⟨rfl, _, .inl ⟨hw, hy⟩, h⟩⟩
theorem growl_alone (hi : ops[i]? = some oi) (hw : Region.wanted oi (yielded ops a.tmps) = true) (h : oi.wp P a w (fun a' w' => (i = z ∨ Only S w w') ∧ GrowL P ops Q S z r a' w') Q) : GrowL P ops Q S z ((i, f, true) :: r) a w :=
  ⟨oi, hi, .inr ⟨rfl, hw, h⟩⟩
end
def lk : List (Nat × Value) → Nat → Option Value
  | [], _ => none
  | (t, v) :: r, k => if k = t then some v else lk r k
def puts (a : Act) : List (Nat × Value) → Act
  | [] => a
  | (t, v) :: r => (puts a r).put (some t) v
def evE (a : Act) (env : List (Nat × Value)) : Operand → Value
  | .tmp t => match lk env t with
    | some v => v
    | none => a.eval (.tmp t)
  | x => a.eval x
theorem puts_size (a : Act) : ∀ env, (puts a env).tmps.size = a.tmps.size
  | [] => rfl
  | (t, v) :: r => by simp [puts, Act.put, puts_size a r]
theorem puts_get (a : Act) (k : Nat) : ∀ env : List (Nat × Value), (∀ p ∈ env, p.1 < a.tmps.size) → (puts a env).tmps[k]? = (lk env k).or a.tmps[k]?
  | [], _ => by simp [puts, lk]
  | (t, v) :: r, h => by
    have ht : t < a.tmps.size := h (t, v) (by simp)
    have ih := puts_get a k r (fun p hp => h p (by simp [hp]))
    show ((puts a r).tmps.setIfInBounds t v)[k]? = _
    rw [Array.getElem?_setIfInBounds]
    by_cases hk : t = k
    · subst hk
      rw [if_pos rfl, if_pos (by rw [puts_size]; exact ht)]
      simp [lk]
    · rw [if_neg hk, ih]
      simp [lk, Ne.symm hk]
theorem puts_eval (a : Act) (env : List (Nat × Value)) (h : ∀ p ∈ env, p.1 < a.tmps.size) : (puts a env).eval = evE a env := by
  funext x
  cases x with
  | tmp t =>
    show (puts a env).tmps.getD t undef = evE a env (.tmp t)
    rw [Array.getD_eq_getD_getElem?, puts_get a t env h]
    simp only [evE]
    cases hl : lk env t with
    | none => simp [Act.eval]
    | some v => simp
  | _ => rfl
/-- Is the operation carried out? -/
def wantE (ops : Array Oper) (env : List (Nat × Value)) (o : Oper) : Option Bool :=
  match o.guard with
  | none => some true
  | some (j, want) => match (ops[j]?).bind (·.dst) with
    | none => none
    | some d => match lk env d with
      | some (.bool b) => some (b == want)
      | some .nilIface => none
      | some (.tuple _) => some false
      | _ => none
theorem wantE_spec {env : List (Nat × Value)} {o : Oper} {b : Bool} (a : Act) (h : ∀ p ∈ env, p.1 < a.tmps.size) (hw : wantE ops env o = some b) : Region.wanted o (yielded ops (puts a env).tmps) = b := by
  unfold wantE at hw
  unfold Region.wanted
  cases hg : o.guard with
  | none => rw [hg] at hw; simpa using hw
  | some p =>
    obtain ⟨j, want⟩ := p
    rw [hg] at hw
    simp only at hw ⊢
    unfold yielded
    cases hd : (ops[j]?).bind (·.dst) with
    | none => rw [hd] at hw; cases hw
    | some d =>
      rw [hd] at hw
      simp only [Option.bind_some] at hw ⊢
      rw [puts_get a d env h]
      cases hl : lk env d with
      | none => rw [hl] at hw; simp at hw
      | some v =>
        rw [hl] at hw
        cases v <;> simp at hw ⊢ <;> simp [hw]
/-- The walk at a frame of which these temporaries were filled in the region. -/
def GrowE (P : Program) (ops : Array Oper) (Q : Exit → Act → World → Prop) (S : List Nat) (z : Nat) (T : List (Nat × Bool × Bool)) (a : Act) (N : Nat) (env : List (Nat × Value)) (w : World) : Prop :=
  a.tmps.size = N → (∀ p ∈ env, p.1 < N) → GrowL P ops Q S z T (puts a env) w
theorem growe_start {S : List Nat} {z : Nat} {T : List (Nat × Bool × Bool)} {a : Act} {w : World} {N : Nat} (hN : a.tmps.size = N) (h : GrowE P ops Q S z T a N [] w) : GrowL P ops Q S z T a w :=
  h hN (by simp)
theorem more_lt {d N : Nat} {v : Value} {env : List (Nat × Value)} (hd : d < N) (he : ∀ p ∈ env, p.1 < N) : ∀ p ∈ (d, v) :: env, p.1 < N := by
  intro p hp
  rcases List.mem_cons.1 hp with rfl | hp
  · exact hd
  · exact he p hp
section
variable {S : List Nat} {z : Nat} {i : Nat} {f c : Bool} {oi : Oper} {d : Nat} {T : List (Nat × Bool × Bool)} {a : Act} {w : World} {N : Nat} {env : List (Nat × Value)}
theorem ge_off (hi : ops[i]? = some oi) (hdst : oi.dst = some d) (hd : decide (d < N) = true) (hw : wantE ops env oi = some false) (h : GrowE P ops Q S z T a N ((d, undef) :: env) w) : GrowE P ops Q S z ((i, true, c) :: T) a N env w := by
  intro hN he
  subst hN
  refine growl_off hi (wantE_spec a he hw) ?_
  rw [hdst]
  exact h rfl (more_lt (of_decide_eq_true hd) he)
theorem ge_val {v : Value} (hi : ops[i]? = some oi) (hdst : oi.dst = some d) (hd : decide (d < N) = true) (hw : wantE ops env oi = some true) (hy : ∀ w', Only S w w' → (execOp (evE a env) oi).run P w' = .ok (.value v) w')
    (h : GrowE P ops Q S z T a N ((d, v) :: env) w) : GrowE P ops Q S z ((i, true, c) :: T) a N env w := by
  intro hN he
  subst hN
  refine growl_on hi (wantE_spec a he hw) (by rw [puts_eval a env he]; exact hy) ?_
  rw [hdst]
  exact h rfl (more_lt (of_decide_eq_true hd) he)
/-- What an operation copies. -/
def copies : Op → Option Operand
  | .move x | .assign x => some x
  | _ => none
theorem ge_move {v : Value} {x : Operand} (hi : ops[i]? = some oi) (hdst : oi.dst = some d) (hd : decide (d < N) = true) (hw : wantE ops env oi = some true) (hx : copies oi.op = some x) (hv : evE a env x = v)
    (h : GrowE P ops Q S z T a N ((d, v) :: env) w) : GrowE P ops Q S z ((i, true, c) :: T) a N env w := by
  refine ge_val hi hdst hd hw (fun w' _ => ?_) h
  subst hv
  unfold copies at hx
  unfold execOp
  split at hx
  · cases hx; rename_i heq; rw [heq]; rfl
  · cases hx; rename_i heq; rw [heq]; rfl
  · cases hx
theorem ge_pick {b : Bool} {v : Value} {x y y2 : Operand} (hi : ops[i]? = some oi) (hdst : oi.dst = some d) (hd : decide (d < N) = true) (hw : wantE ops env oi = some true) (hx : oi.op = .pick x y y2) (hb : evE a env x = .bool b)
    (hv : (if b = true then evE a env y else evE a env y2) = v) (h : GrowE P ops Q S z T a N ((d, v) :: env) w) : GrowE P ops Q S z ((i, true, c) :: T) a N env w := by
  refine ge_val hi hdst hd hw (fun w' _ => ?_) h
  subst hv
  unfold execOp
  rw [hx]
  simp only [hb, asBool]
  cases b <;> rfl
/-- A call of a Go function, that comes up alone. -/
theorem ge_call {g : FuncId} {xs : Array Operand} {tys : Array TypeId} {vs : Array Value} (hi : ops[i]? = some oi) (hdst : oi.dst = some d) (hd : decide (d < N) = true) (hw : wantE ops env oi = some true)
    (hx : oi.op = .call { callee := .value (.func g), args := xs, argTypes := tys }) (hvs : xs.map (evE a env) = vs) (hcf : (callFunc g vs).run P w = .ok (.enter g vs) w)
    (h : Calls P g vs w fun e w' => ∃ v, e = .returned v ∧ Only S w w' ∧ GrowE P ops Q S z T a N ((d, v) :: env) w') : GrowE P ops Q S z ((i, f, true) :: T) a N env w := by
  intro hN he
  subst hN
  refine growl_alone hi (wantE_spec a he hw) ?_
  unfold Oper.wp execOp
  rw [puts_eval a env he, hx]
  have hr : (do let d ← resolve (evE a env) { callee := .value (.func g), args := xs, argTypes := tys } oi.type; invoke d.target d.args).run P w = .ok (.enter g vs) w := by
    simp only [resolve, Sem.run_bind, hvs]
    have e1 : (evE a env (.func g)) = .func (.func g) #[] #[] := rfl
    rw [e1]
    simp only [Deferred.ofValue]
    simp [invoke, hcf]
  rw [hr]
  simp only [Oper.upon]
  refine Calls.mono h fun e w' ⟨v, he', ho, hg⟩ => ?_
  subst he'
  refine ⟨.inr ho, ?_⟩
  rw [hdst]
  exact hg rfl (more_lt (of_decide_eq_true hd) he)
/-- An operation that makes memory and comes up alone. -/
theorem ge_mem {v : Value} {w' : World} (hi : ops[i]? = some oi) (hdst : oi.dst = some d) (hd : decide (d < N) = true) (hw : wantE ops env oi = some true) (hy : (execOp (evE a env) oi).run P w = .ok (.value v) w')
    (ho : Only S w w') (h : GrowE P ops Q S z T a N ((d, v) :: env) w') : GrowE P ops Q S z ((i, f, true) :: T) a N env w := by
  intro hN he
  subst hN
  refine growl_alone hi (wantE_spec a he hw) ?_
  unfold Oper.wp
  rw [puts_eval a env he, hy]
  simp only [Oper.upon]
  refine ⟨.inr ho, ?_⟩
  rw [hdst]
  exact h rfl (more_lt (of_decide_eq_true hd) he)
/-- The operation that waits for all others. -/
theorem ge_last {w' : World} (hi : ops[z]? = some oi) (hdst : oi.dst = none) (hw : wantE ops env oi = some true) (hy : (execOp (evE a env) oi).run P w = .ok .skip w')
    (h : Q .normal (puts a env) w') : GrowE P ops Q S z ((z, f, true) :: []) a N env w := by
  intro hN he
  subst hN
  refine growl_alone hi (wantE_spec a he hw) ?_
  unfold Oper.wp
  rw [puts_eval a env he, hy]
  simp only [Oper.upon]
  refine ⟨.inl trivial, ?_⟩
  rw [hdst]
  exact h
theorem ge_done (h : Q .normal (puts a env) w) : GrowE P ops Q S z [] a N env w := fun _ _ => h
end
end
end L
/-- A slice of the call's own stays what it is. -/
theorem ownsRow_only {w w' : World} {base : Nat} {e : TypeId} {size : Nat} {v : Value} {n : Nat} {xs : List Value} {S : List Nat} (h : w.ownsRow base e size v n xs) (ho : Only S w w') (hS : ∀ k, v.ownBlock = some k → k ∉ S) : w'.ownsRow base e size v n xs := by
  refine ⟨h.1, ?_⟩
  rcases h.2 with hn | ⟨g, cap, cur, hv, hb, hg, rest⟩
  · exact .inl hn
  · exact .inr ⟨g, cap, cur, hv, hb, ho.heap hg (hS g (by rw [hv]; rfl)), rest⟩
end Go.Proofs.YtbmdhmmahmdccaaDoor
/-! ### A -/
namespace Go.Proofs.YtbmdhmmahmdccaaDoor
open Go.RowKit
section
variable {P : Program}
theorem run_append_row (w : World) (t ty : TypeId) (base : Nat) (e : TypeId) (size bytes : Nat) (z : Value) (ht : P.underlying t = some (.slice e)) (hinfo : (P.info? e).map (fun i => (i.zero, i.size, i.bytes)) = some (some z, size, bytes))
    (hzs : z.cells.size = size) (hsz : 0 < size) (v : Value) (n : Nat) (xs : List Value) (hown : w.ownsRow base e size v n xs)
    (A : Option Addr) (m c : Nat) (news : List Value) (hl : news.length = m * size) (hA : 0 < m → ∃ ad, A = some ad ∧ CellsAt w ad news) (h1 : ∀ u ∈ news, u.oneCell' = true)
    (h63 : n + m ≤ maxLen) (hbytes : (n + m) * bytes ≤ 140737488355328) (hbase : base ≤ w.heap.size) :
    ∃ A' c' w', (Builtin.append_ #[t, t] ty #[v, .slice A m c]).run P w = .ok (.slice A' (n + m) c') w' ∧ w'.ownsRow base e size (.slice A' (n + m) c') (n + m) (xs ++ news) ∧ Only v.ownBlock.toList w w' ∧
      (∀ k, (Value.slice A' (n + m) c').ownBlock = some k → v.ownBlock = some k ∨ w.heap.size ≤ k) := by
  obtain ⟨i, h2, h3, h4, h5⟩ := info_parts hinfo
  rcases Nat.eq_zero_or_pos m with hm | hm
  · subst hm
    obtain rfl : news = [] := List.eq_nil_of_length_eq_zero (by omega)
    rw [List.append_nil, Nat.add_zero]
    rcases hown.2 with ⟨rfl, rfl⟩ | ⟨g, cap, cur, rfl, hb, hg, hnc, _⟩
    · refine ⟨none, 0, w, ?_, hown, Only.refl _ _, fun k hk => .inl hk⟩
      cases A <;> simp [Builtin.append_, run_underlying ht, sizeOf, typeInfo, h2, Builtin.lenOf, Builtin.firstCells, loadCells, loadCellsFrom]
    · refine ⟨_, _, w, ?_, hown, Only.refl _ _, fun k hk => .inl hk⟩
      cases A <;> simp [Builtin.append_, run_underlying ht, sizeOf, typeInfo, h2, Builtin.lenOf, Builtin.firstCells, loadCells, loadCellsFrom, storeCells, hnc]
  · obtain ⟨ad, rfl, hc⟩ := hA hm
    obtain ⟨g, cap, w', hr, h6, h7, h8, h9⟩ := run_append_lies (P := P) w t ty base e i z size bytes ht h2 h3 h4 h5 hzs hsz v n xs hown ad m c news hl hc h1 hm h63 hbytes hbase _ rfl
    refine ⟨_, _, w', hr, h6, (Only.refl _ _).grown h7 (fun k hk => .inl (by rw [hk]; simp)), fun k hk => ?_⟩
    obtain rfl : g = k := by simpa [Value.ownBlock] using hk
    exact h8.imp id (fun h => by omega)
theorem wpList_append_row {ops : Array Oper} {rest : List Oper} {o : Oper} {a : Act} {w : World} {Q : Exit → Act → World → Prop} (hgd : o.guard = none) (s x : Operand) (t : TypeId)
    (ho : o.op = .call { callee := .builtin .append, args := #[s, x], argTypes := #[t, t] })
    (base : Nat) (e : TypeId) (size bytes : Nat) (z : Value) (ht : P.underlying t = some (.slice e)) (hinfo : (P.info? e).map (fun i => (i.zero, i.size, i.bytes)) = some (some z, size, bytes))
    (hzs : z.cells.size = size) (hsz : 0 < size) (v : Value) (n : Nat) (xs : List Value) (hs : a.eval s = v) (hown : w.ownsRow base e size v n xs)
    (A : Option Addr) (m c : Nat) (news : List Value) (hx : a.eval x = .slice A m c) (hl : news.length = m * size) (hA : 0 < m → ∃ ad, A = some ad ∧ CellsAt w ad news) (h1 : ∀ u ∈ news, u.oneCell' = true)
    (h63 : n + m ≤ maxLen) (hbytes : (n + m) * bytes ≤ 140737488355328) (hbase : base ≤ w.heap.size)
    (h : ∀ A' c' w', w'.ownsRow base e size (.slice A' (n + m) c') (n + m) (xs ++ news) → Only v.ownBlock.toList w w' → (∀ k, (Value.slice A' (n + m) c').ownBlock = some k → v.ownBlock = some k ∨ w.heap.size ≤ k) →
      wpList P ops Q rest (a.put o.dst (.slice A' (n + m) c')) w') : wpList P ops Q (o :: rest) a w := by
  refine wpList_plain hgd fun K hK => ?_
  obtain ⟨A', c', w', hr, h2, h3, h4⟩ := run_append_row (P := P) w t o.type base e size bytes z ht hinfo hzs hsz v n xs hown A m c news hl hA h1 h63 hbytes hbase
  unfold Oper.wp execOp
  simp only [ho, resolve, invoke, builtin, Sem.run_bind, Sem.run_pure, Result.andThen_ok, List.map_toArray, List.map_cons, List.map_nil, hs, hx, hr]
  exact hK _ _ (h A' c' w' h2 h3 h4)
end
end Go.Proofs.YtbmdhmmahmdccaaDoor
/-! ### Own -/
namespace Go.Proofs.YtbmdhmmahmdccaaDoor
open Go.RowKit
set_option linter.unusedSimpArgs false
set_option linter.unusedVariables false
theorem ownsRow_lt {w : World} {base : Nat} {e : TypeId} {size : Nat} {v : Value} {n : Nat} {xs : List Value} (h : w.ownsRow base e size v n xs) {k : Nat} (hk : v.ownBlock = some k) : base ≤ k ∧ k < w.heap.size := by
  rcases h.2 with ⟨rfl, _⟩ | ⟨g, cap, cur, rfl, hb, hg, _⟩
  · cases hk
  · obtain rfl : g = k := by simpa [Value.ownBlock] using hk
    exact ⟨hb, heap_lt hg⟩
end Go.Proofs.YtbmdhmmahmdccaaDoor
/-! ### Kd -/
namespace Go.Proofs.YtbmdhmmahmdccaaDoor
open Go.RowKit Go.Proofs.YtbmdhmmahmdccaaDoorW.PrintWords
theorem Kd.C_cells {α : Type} {d : Kd α} {w : World} {A : Option Addr} {n : Nat} {xs : List α} (h : Kd.C d w A n xs) (k : Nat) (hk : k < xs.length) :
    ∃ ad cs, A = some ad ∧ cs.length = d.sz ∧ d.K w xs[k] cs ∧ CellsAt w (ad.add (k * d.sz)) cs := by
  have hn := h.1
  obtain ⟨ad, he, hc⟩ := h.2.2 (by omega)
  obtain ⟨c, h1, h2, h3⟩ := hc k _ (List.getElem?_eq_getElem hk)
  refine ⟨ad, c, he, h1, h2, fun j v hj => ?_⟩
  rw [Go.Deep.add_add]
  exact h3 j v hj
theorem getD_at {α : Type} (xs : List α) (z : α) (k : Nat) (hk : k < xs.length) : xs.getD ((k : Int)).toNat z = xs[k] := by
  rw [Int.toNat_natCast, List.getD_eq_getElem?_getD, List.getElem?_eq_getElem hk]
  rfl
/-- A row that is read has its cells one behind the other. -/
theorem Kd.C_flat {α : Type} {d : Kd α} {w : World} {A : Option Addr} {xs : List α} (h : Kd.C d w A xs.length xs) :
    ∃ news, Reps (d.K w) d.sz xs news ∧ (0 < xs.length → ∃ ad, A = some ad ∧ CellsAt w ad news) ∧ ∀ u ∈ news, u.oneCell' = true := by
  by_cases h0 : 0 < xs.length
  · obtain ⟨ad, he, _⟩ := h.2.2 h0
    subst he
    obtain ⟨inner, hr, hc⟩ := ReadsRow.inner_ h
    refine ⟨inner, hr, fun _ => ⟨ad, rfl, hc⟩, fun u hu => ?_⟩
    obtain ⟨i, hi, rfl⟩ := List.getElem_of_mem hu
    have hl := hr.1
    have hsz : 0 < d.sz := by
      rcases Nat.eq_zero_or_pos d.sz with e | e
      · rw [e, Nat.mul_zero] at hl; omega
      · exact e
    have hi2 : i / d.sz < xs.length := by rw [Nat.div_lt_iff_lt_mul hsz]; omega
    have hK := hr.2 (i / d.sz) _ (List.getElem?_eq_getElem hi2)
    refine d.K_one hK _ ?_
    refine List.mem_of_getElem? (i := i % d.sz) ?_
    rw [List.getElem?_take, if_pos (Nat.mod_lt _ hsz), List.getElem?_drop, Nat.mul_comm, Nat.div_add_mod, List.getElem?_eq_getElem hi]
  · obtain rfl : xs = [] := List.eq_nil_of_length_eq_zero (by omega)
    exact ⟨[], Reps.none _ _, fun h => absurd h (by simp), fun u hu => by simp at hu⟩
/-- What was made of the cells of a row of flat values is a row of one's own. -/
theorem Kd.R_of_own {α : Type} {d : Kd α} {e : Nat} {w w' : World} {base : Nat} {xs : List α} {news : List Value} {v : Value} (hM : ∀ x cs, d.K w x cs → d.M w' base (fun k => True ∧ some k ≠ v.ownBlock) x cs) (hr : Reps (d.K w) d.sz xs news)
    (ho : w'.ownsRow base e d.sz v xs.length news) : Kd.R d e w' base (fun _ => True) v xs := ⟨fun _ _ => trivial, news, ho, hr.imp_ hM⟩
/-- A row of one's own of flat values, as its cells. -/
theorem own_of_R {α : Type} {enc : α → Value} {h1 : ∀ x, (enc x).oneCell' = true} {e : Nat} {w : World} {base : Nat} {ok : Nat → Prop} {v : Value} {xs : List α} (h : Kd.R (Kd.scalar enc h1) e w base ok v xs) : w.ownsRow base e 1 v xs.length (xs.map enc) := by
  obtain ⟨_, inner, ho, hr⟩ := h
  have e1 : inner = xs.map enc := by
    refine List.ext_getElem? (fun j => ?_)
    have hl : inner.length = xs.length := by have := hr.1; rwa [show (Kd.scalar enc h1).sz = 1 from rfl, Nat.mul_one] at this
    rcases Nat.lt_or_ge j xs.length with hj | hj
    · have h2 := hr.2 j _ (List.getElem?_eq_getElem hj)
      have h3 : (inner.drop (j * 1)).take 1 = [enc xs[j]] := h2
      rw [Nat.mul_one] at h3
      have h4 := congrArg (fun l : List Value => l[0]?) h3
      simp only [List.getElem?_take, List.getElem?_drop, Nat.add_zero, List.getElem?_cons_zero] at h4
      rw [if_pos (by omega)] at h4
      rw [h4, List.getElem?_map, List.getElem?_eq_getElem hj]
      rfl
    · rw [List.getElem?_eq_none (by omega), List.getElem?_eq_none (by simpa using hj)]
  rw [← e1]
  exact ho
theorem R_of_ownsRow {α : Type} {enc : α → Value} {h1 : ∀ x, (enc x).oneCell' = true} {e : Nat} {w : World} {base : Nat} {v : Value} {xs : List α} (h : w.ownsRow base e 1 v xs.length (xs.map enc)) : Kd.R (Kd.scalar enc h1) e w base (fun _ => True) v xs := by
  refine Kd.R_of_own (d := Kd.scalar enc h1) (w := w) (news := xs.map enc) (fun x cs hx => hx) ⟨by show (xs.map enc).length = xs.length * 1; simp, fun j p hj => ?_⟩ h
  show ((xs.map enc).drop (j * 1)).take 1 = [enc p]
  obtain ⟨hjl, rfl⟩ := List.getElem?_eq_some_iff.1 hj
  rw [Nat.mul_one, List.drop_eq_getElem_cons (by simpa using hjl)]
  simp
theorem ownsRow_poke {w w' : World} {base g cap n k : Nat} {e : TypeId} {cur : Array Value} {xs : List Value} {u : Value} (h : w.ownsRow base e 1 (.slice (some ⟨g, 0, none⟩) n cap) n xs) (hg : w.heap[g]? = some (.cells cur e (0, 0)))
    (hg' : w'.heap[g]? = some (.cells (cur.setIfInBounds k u) e (0, 0))) (hk : k < n) : w'.ownsRow base e 1 (.slice (some ⟨g, 0, none⟩) n cap) n (xs.set k u) := by
  obtain ⟨h1, h2⟩ := h
  rcases h2 with ⟨h2, _⟩ | ⟨g2, cap2, cur2, e2, hb, hh, hn, hc, hs, ht⟩
  · cases h2
  · injection e2 with e2 e3 e4
    injection e2 with e2
    injection e2 with e2
    subst e2
    subst e4
    rw [hg] at hh
    injection hh with hh
    injection hh with hh
    subst hh
    refine ⟨by simpa using h1, .inr ⟨g, cap, _, rfl, hb, hg', hn, hc, by simpa using hs, ?_⟩⟩
    rw [← ht, Array.toList_setIfInBounds, List.take_set]
/-- A row of one's own that is not empty: its block. -/
theorem ownsRow_block {w : World} {base : Nat} {e : TypeId} {v : Value} {n : Nat} {xs : List Value} (h : w.ownsRow base e 1 v n xs) (hn : 0 < n) :
    ∃ g cap cur, v = .slice (some ⟨g, 0, none⟩) n cap ∧ base ≤ g ∧ w.heap[g]? = some (.cells cur e (0, 0)) ∧ n ≤ cur.size := by
  rcases h.2 with ⟨_, h2⟩ | ⟨g, cap, cur, e1, hb, hh, hc, _, hs, _⟩
  · omega
  · exact ⟨g, cap, cur, e1, hb, hh, by rw [hs]; omega⟩
/-- A literal's block, read. -/
theorem Kd.C_lit {α : Type} {d : Kd α} {w : World} {b e : Nat} {xs : List α} {inner : List Value} (hg : w.heap[b]? = some (.cells inner.toArray e (0, 0))) (hr : Reps (d.K w) d.sz xs inner) (hm : xs.length ≤ 1000000000) : Kd.C d w (some ⟨b, 0, none⟩) xs.length xs := by
  refine ⟨rfl, by omega, fun _ => ⟨_, rfl, fun j p hj => ⟨(inner.drop (j * d.sz)).take d.sz, ?_, hr.2 j p hj, fun i u hu => ?_⟩⟩⟩
  · exact d.K_len (hr.2 j p hj)
  · rw [List.getElem?_take] at hu
    split at hu
    · rw [List.getElem?_drop] at hu
      exact cellsAt_row hg (j * d.sz + i) u hu
    · cases hu
end Go.Proofs.YtbmdhmmahmdccaaDoor
/-! ### EFind -/
namespace Go.Proofs.YtbmdhmmahmdccaaDoor.Print
open Go.RowKit Go.Proofs.YtbmdhmmahmdccaaDoorW.PrintWords Go.Proofs.YtbmdhmmahmdccaaDoorW.PrintLast Go.Proofs.YtbmdhmmahmdccaaDoorW.PrintMore
set_option linter.unusedSimpArgs false
set_option linter.unusedVariables false
/-- Where from a place on the first element is of which something holds. -/
def firstFrom {α : Type} (p : α → Bool) : Nat → List α → Int
  | _, [] => -1
  | i, x :: l => if p x then (i : Int) else firstFrom p (i + 1) l
theorem firstFrom_drop {α : Type} (p : α → Bool) (l : List α) (k : Nat) (hk : k < l.length) : firstFrom p k (l.drop k) = if p l[k] then (k : Int) else firstFrom p (k + 1) (l.drop (k + 1)) := by
  rw [List.drop_eq_getElem_cons hk]
  rfl
def tagIs (a : ByteArray) (t : S48) : Bool := t.f0.toList == a.toList
def tags_Find.f (l0 : List S48) (a1 : ByteArray) : Option Int := if l0.length ≤ 140737488355328 then some (firstFrom (tagIs a1) 0 l0) else none
theorem find_clo (t : S48) (a : ByteArray) (g : Nat) (w : World) (hg : w.cell? ⟨g, 0, none⟩ = some (.string a)) :
    Calls Tryd.prog 35 #[.agg #[.string t.f0, .bool t.f1, .int .i64 t.f2, .int .i64 t.f3], .pointer (some ⟨g, 0, none⟩)] w fun e w' => e = .returned (.bool (tagIs a t)) ∧ Below w.heap.size w w' := by
  obtain ⟨b, hb⟩ : ∃ b, b = tagIs a t := ⟨_, rfl⟩
  have HB := Lib.hid hb
  rw [← hb]
  clear hb
  have hlt := World.block_lt_of_cell? w _ hg
  have hg2 : (w.alloc (.cells #[.string t.f0, .bool t.f1, .int .i64 t.f2, .int .i64 t.f3] 48)).cell? ⟨g, 0, none⟩ = some (.string a) := by
    exact (((Below.refl w.heap.size w).alloc (Nat.le_refl _) _).cell hlt).trans hg
  clear hg
  go_enter Tryd.func35, Tryd.ntmps35
  go_wp2
  go_ret
  exact ⟨by rw [HB.out]; rfl, (Below.refl _ _).alloc (Nat.le_refl _) _⟩
set_option maxHeartbeats 8000000 in
set_option maxRecDepth 100000 in
theorem index_any (A0 : Option Addr) (c0 : Nat) (l0 : List S48) (a : ByteArray) (g : Nat) (w : World) (hr : Kd.C k48 w A0 l0.length l0) (hl : l0.length ≤ 140737488355328) (hg : w.cell? ⟨g, 0, none⟩ = some (.string a)) :
    Calls Tryd.prog 34 #[.slice A0 l0.length c0, .func (.func 35) #[] #[.pointer (some ⟨g, 0, none⟩)]] w fun e w' => e = .returned (.int .i64 (firstFrom (tagIs a) 0 l0)) ∧ Below w.heap.size w w' := by
  obtain ⟨V, hV⟩ : ∃ V, V = firstFrom (tagIs a) 0 l0 := ⟨_, rfl⟩
  rw [← hV]
  have HV := Lib.hid hV
  have HR := Lib.hid hr
  have HG := Lib.hid hg
  have hlt := World.block_lt_of_cell? w _ hg
  clear hV hr hg
  have hu := Tryd.underlying48
  go_enter Tryd.func34, Tryd.ntmps34
  go_wp2
  go_loopw [5, 8] (fun _ i wr => ∃ k : Nat, k ≤ l0.length ∧ i = .int .i64 k ∧ Hid (V = firstFrom (tagIs a) k (l0.drop k)) ∧ Hid (Below w.heap.size w wr)) (fun _ i _ => l0.length - (intOf i).toNat)
  case atStart => exact ⟨0, by omega, rfl, HV, Below.refl _ _⟩
  case round =>
    obtain ⟨k, hk, rfl, hv, hb⟩ := hrel
    by_cases hlt2 : k < l0.length
    · have hlt' : (k : Int) < l0.length := by omega
      have hk0 : (0 : Int) ≤ k := by omega
      have hv' := hv.out
      rw [firstFrom_drop _ _ _ hlt2] at hv'
      obtain ⟨ad, cs, rfl, _, hK, hcs⟩ := Kd.C_cells (Kd.C_below HR.out hb.out) k hlt2
      obtain rfl := k48_open hK
      have HC := Lib.hid (show CellsAt wr (ad.add (k * 4)) _ from hcs)
      have hgc := (hb.out.cell (p := ⟨g, 0, none⟩) hlt).trans HG.out
      have HGC := Lib.hid hgc
      clear hcs hK hgc
      generalize l0[k] = t at *
      have HV2 := Lib.hid hv'
      clear hv hv'
      go_wp2_with (first
        | (with_reducible refine wpList_load_at rfl 48 (.tmp 14) rfl (ad.add (k * 4)) rfl _ _ HC.out Tryd.underlying48 rfl (by kernel_rfl) ?_)
        | (go_at_call 35; refine (find_clo t a g _ HGC.out).mono ?_; rintro e w1 ⟨rfl, hb1⟩; have HB1 := Lib.hid (below_then hb.out hb.out.size hb1); clear hb1))
      · rename_i ht
        go_ret
        exact ⟨by rw [HV2.out, if_pos ht]; rfl, HB1.out⟩
      · rename_i ht
        go_roundw
        case rel => exact ⟨k + 1, by omega, by go_num, Lib.hid (by rw [HV2.out, if_neg (by rw [ht]; simp)]), HB1⟩
        case measure => simp [intOf]; omega
    · have hlt' : (l0.length : Int) ≤ k := by omega
      have hv' := hv.out
      rw [List.drop_eq_nil_of_le (by omega)] at hv'
      have HV2 := Lib.hid hv'
      clear hv hv'
      go_wp2
      go_ret
      exact ⟨by rw [HV2.out]; rfl, hb.out⟩
set_option maxHeartbeats 8000000 in
set_option maxRecDepth 100000 in
theorem tags_Find.calls (A0 : Option Addr) (c0 : Nat) (l0 : List S48) (a1 : ByteArray) (r : Int) (w : World) (hr0 : Kd.C k48 w A0 l0.length l0) (hc0 : l0.length ≤ c0) (h : tags_Find.f l0 a1 = some r) :
    Calls Tryd.prog 16 #[.slice A0 l0.length c0, .string a1] w fun e w' => e = .returned (.int .i64 r) ∧ Below w.heap.size w w' := by
  unfold tags_Find.f at h
  split at h
  case isFalse => cases h
  rename_i hl
  obtain rfl := Option.some.inj h
  clear h
  obtain ⟨V, hV⟩ : ∃ V, V = firstFrom (tagIs a1) 0 l0 := ⟨_, rfl⟩
  rw [← hV]
  have HV := Lib.hid hV
  have HR := Lib.hid (Kd.C_alloc hr0 (.cells #[.string a1] 9))
  have HG := Lib.hid (show (w.alloc (.cells #[.string a1] 9)).cell? ⟨w.heap.size, 0, none⟩ = some (.string a1) from (cell_of_row _ _ 0 _ _ _ (heap_alloc_new w _)).trans rfl)
  have hmf : ∀ (fn : Fn) (first cap : Array Value) (w : World), (Instr.makeFunc fn first cap).run Tryd.prog w = .ok (.func fn first cap) w := fun _ _ _ _ => rfl
  clear hV hr0
  go_enter Tryd.func16, Tryd.ntmps16
  go_wp2_with (go_at_call 34; refine (index_any A0 c0 l0 a1 w.heap.size _ HR.out hl HG.out).mono ?_; rintro e w1 ⟨rfl, hb1⟩; have HB1 := Lib.hid (below_then ((Below.refl w.heap.size w).alloc (Nat.le_refl _) (.cells #[.string a1] 9)) (by simp) hb1); clear hb1)
  go_ret
  exact ⟨by rw [HV.out]; rfl, HB1.out⟩
end Go.Proofs.YtbmdhmmahmdccaaDoor.Print
/-! ### ELib -/
namespace Go.Proofs.YtbmdhmmahmdccaaDoor.Print
open Go.RowKit Go.Proofs.YtbmdhmmahmdccaaDoorW.PrintWords Go.Proofs.YtbmdhmmahmdccaaDoorW.PrintLast Go.Proofs.YtbmdhmmahmdccaaDoorW.PrintMore
def strings_IndexByte.f (a0 : ByteArray) (a1 : Int) : Option Int := some (Lib.indexByte a0.data.toList a1.toNat.toUInt8)
theorem strings_IndexByte.calls (a0 : ByteArray) (a1 : Int) (r : Int) (w : World) (h : strings_IndexByte.f a0 a1 = some r) :
    Calls Tryd.prog 50 #[.string a0, .int .u8 a1] w fun e w' => e = .returned (.int .i64 r) ∧ Drawn0 w w' := by
  obtain rfl := Option.some.inj h
  exact (Tryd.strings_IndexByte a0 a1 w).mono fun _ _ ⟨he, hw⟩ => ⟨he, hw ▸ Drawn0.refl _⟩
def utf8_ValidString.f (a0 : ByteArray) : Option Bool := if a0.size ≤ 9223372036854775807 then some (Lib.validD a0.data.toList) else none
theorem utf8_ValidString.calls (a0 : ByteArray) (r : Bool) (w : World) (hT : Tabs w) (h : utf8_ValidString.f a0 = some r) :
    Calls Tryd.prog 38 #[.string a0] w fun e w' => e = .returned (.bool r) ∧ Below w.heap.size w w' := by
  unfold utf8_ValidString.f at h
  split at h
  · obtain rfl := Option.some.inj h
    exact Tryd.utf8_ValidString a0 w ‹_› hT.u8
  · cases h
def utf8_RuneCountInString.f (a0 : ByteArray) : Option Int := if a0.size < 9223372036854775807 then some (Lib.runeCount a0) else none
theorem utf8_RuneCountInString.calls (a0 : ByteArray) (r : Int) (w : World) (h : utf8_RuneCountInString.f a0 = some r) :
    Calls Tryd.prog 40 #[.string a0] w fun e w' => e = .returned (.int .i64 r) ∧ Below w.heap.size w w' := by
  unfold utf8_RuneCountInString.f at h
  split at h
  · obtain rfl := Option.some.inj h
    exact (Tryd.utf8_RuneCountInString a0 w ‹_›).mono fun _ _ ⟨he, pos, hw⟩ => ⟨he, hw ▸ (Below.refl _ _).alloc (Nat.le_refl _) _⟩
  · cases h
end Go.Proofs.YtbmdhmmahmdccaaDoor.Print
/-! ### Print2 -/
namespace Go.Proofs.YtbmdhmmahmdccaaDoor.Print
open Go.RowKit Go.Proofs.YtbmdhmmahmdccaaDoorW.PrintWords Go.Proofs.YtbmdhmmahmdccaaDoorW.PrintLast Go.Proofs.YtbmdhmmahmdccaaDoorW.PrintMore
attribute [local go_sem] max2_int min2_int max_two min_two
set_option linter.unusedVariables false
set_option linter.unusedSimpArgs false
mutual
def lex_Class.j0 : Nat → Int → Bool → Option (Int)
  | 0, _, _ => none
  | k + 1, x0, x3 => if x3 = true then (some 1) else (if x0 ≥ 97 then (lex_Class.j1 k x0 (decide (x0 ≤ 122))) else (lex_Class.j1 k x0 false))
def lex_Class.j1 : Nat → Int → Bool → Option (Int)
  | 0, _, _ => none
  | k + 1, x0, x12 => if x12 = true then (lex_Class.j2 k x0 x12) else (if x0 ≥ 65 then (if x0 ≤ 90 then (lex_Class.j2 k x0 (decide (x0 ≤ 90))) else (lex_Class.j2 k x0 (x0 == 95))) else (lex_Class.j2 k x0 (x0 == 95)))
def lex_Class.j2 : Nat → Int → Bool → Option (Int)
  | 0, _, _ => none
  | k + 1, x0, x12 => if x12 = true then (some 2) else (if x0 ≥ 192 then (if x0 ≤ 591 then (if x0 = 215 then (lex_Class.j3 k x0 false) else (lex_Class.j3 k x0 (x0 != 247))) else (lex_Class.j3 k x0 false)) else (lex_Class.j3 k x0 false))
def lex_Class.j3 : Nat → Int → Bool → Option (Int)
  | 0, _, _ => none
  | k + 1, x0, x27 => if x27 = true then (some 2) else (if x0 ≥ 48 then (lex_Class.j4 k x0 (decide (x0 ≤ 57))) else (lex_Class.j4 k x0 false))
def lex_Class.j4 : Nat → Int → Bool → Option (Int)
  | 0, _, _ => none
  | k + 1, x0, x42 => if x42 = true then (some 3) else (if x0 = 34 then (some 5) else (if x0 = 35 then (some 6) else (if x0 > 32 then (if x0 < 127 then ((strings_IndexByte.f (⟨#[40, 41, 123, 125, 44, 59, 58, 61, 43, 45, 42, 47, 37, 60, 62, 33, 38, 124]⟩ : ByteArray) ((x0) % 256)).bind fun t101 => (if t101 ≥ 0 then (some 4) else (some 0))) else (some 0)) else (some 0))))
end
def lex_Class.f (k : Nat) (a0 : Int) : Option (Int) := if a0 = 32 then (lex_Class.j0 k a0 (a0 == 32)) else (if a0 = 9 then (lex_Class.j0 k a0 (a0 == 9)) else (if a0 = 13 then (lex_Class.j0 k a0 (a0 == 13)) else (lex_Class.j0 k a0 (a0 == 10))))
set_option maxHeartbeats 8000000 in
set_option maxRecDepth 100000 in
theorem lex_Class.calls (k : Nat) (a0 : Int) (r : Int) (w : World) (h : lex_Class.f k a0 = some r) :
    Calls Tryd.prog 48 #[.int .i32 a0] w fun e w' => e = .returned (.int .i64 r) ∧ Drawn0 w w' := by
  have H : (if a0 = 32 then (lex_Class.j0 k a0 (a0 == 32)) else (if a0 = 9 then (lex_Class.j0 k a0 (a0 == 9)) else (if a0 = 13 then (lex_Class.j0 k a0 (a0 == 13)) else (lex_Class.j0 k a0 (a0 == 10))))) = some r := h
  clear h
  have HC2 := Aside0.mk H
  clear H
  go_enter Tryd.func48, Tryd.ntmps48
  go_upto_if 3 with (fail)
  go_cut [3] (fun v3 wc => ∃ (kq : Nat) (x3_1 : Bool), v3 = .bool x3_1 ∧ Aside0 (lex_Class.j0 kq a0 x3_1 = some r) ∧ Aside0 (kq ≤ k) ∧ Drawn0 w wc)
  case first =>
    have H := HC2.out
    clear HC2
    by_cases c3 : a0 = 32
    · rw [if_pos c3] at H
      have c3b0 : (a0 == 32) = true := beq_iff_eq.mpr c3
      have c3b1 : (a0 != 32) = false := bne_eq_false_iff_eq.mpr c3
      clear c3
      (first | rw [c3b0] | (simp only [i64_w, i32_w]; rw [c3b0]) | skip)
      have H' := Aside0.mk H
      clear H
      go_wp2
      go_meet
      case rel => exact ⟨_, ((a0 == 32)), (by first | rfl | (simp; done) | (simp [*]; done)), H', ⟨by first | omega | exact Nat.le_refl _⟩, by repeat (first | exact Drawn0.refl _ | apply Drawn0.step)⟩
    · rw [if_neg c3] at H
      have c3b0 : (a0 == 32) = false := beq_eq_false_iff_ne.mpr c3
      have c3b1 : (a0 != 32) = true := bne_iff_ne.mpr c3
      (first | rw [c3b0] | (simp only [i64_w, i32_w]; rw [c3b0]) | skip)
      by_cases c4 : a0 = 9
      · rw [if_pos c4] at H
        have c4b0 : (a0 == 9) = true := beq_iff_eq.mpr c4
        have c4b1 : (a0 != 9) = false := bne_eq_false_iff_eq.mpr c4
        clear c4
        have H' := Aside0.mk H
        clear H
        go_wp2
        go_meet
        case rel => exact ⟨_, ((a0 == 9)), (by first | rfl | (simp; done) | (simp [*]; done)), H', ⟨by first | omega | exact Nat.le_refl _⟩, by repeat (first | exact Drawn0.refl _ | apply Drawn0.step)⟩
      · rw [if_neg c4] at H
        have c4b0 : (a0 == 9) = false := beq_eq_false_iff_ne.mpr c4
        have c4b1 : (a0 != 9) = true := bne_iff_ne.mpr c4
        by_cases c5 : a0 = 13
        · rw [if_pos c5] at H
          have c5b0 : (a0 == 13) = true := beq_iff_eq.mpr c5
          have c5b1 : (a0 != 13) = false := bne_eq_false_iff_eq.mpr c5
          clear c5
          have H' := Aside0.mk H
          clear H
          go_wp2
          go_meet
          case rel => exact ⟨_, ((a0 == 13)), (by first | rfl | (simp; done) | (simp [*]; done)), H', ⟨by first | omega | exact Nat.le_refl _⟩, by repeat (first | exact Drawn0.refl _ | apply Drawn0.step)⟩
        · rw [if_neg c5] at H
          have c5b0 : (a0 == 13) = false := beq_eq_false_iff_ne.mpr c5
          have c5b1 : (a0 != 13) = true := bne_iff_ne.mpr c5
          have H' := Aside0.mk H
          clear H
          go_wp2
          go_meet
          case rel => exact ⟨_, ((a0 == 10)), (by first | rfl | (simp; done) | (simp [*]; done)), H', ⟨by first | omega | exact Nat.le_refl _⟩, by repeat (first | exact Drawn0.refl _ | apply Drawn0.step)⟩
  case rest =>
    clear HC2
    try clear p2
    try clear c3
    try clear c3b0
    try clear c3b1
    try clear c4
    try clear c4b0
    try clear c4b1
    try clear c5
    try clear c5b0
    try clear c5b1
    obtain ⟨kq, x3_1, rfl, HA, HJ1, ⟨mc1, rfl⟩⟩ := hcut
    cases kq with
    | zero => exact absurd HA.out (by simp [lex_Class.j0])
    | succ kj1 =>
      have H := HA.out
      clear HA
      simp only [lex_Class.j0] at H
      by_cases c6 : x3_1 = true
      · subst c6
        have H1 : (some 1) = some r := by rw [if_pos rfl] at H; exact H
        clear H
        have H := H1
        clear H1
        obtain rfl := Option.some.inj H
        go_wp2
        go_ret
        exact ⟨by first | rfl | (simp; done) | (simp [*]; done), by repeat (first | exact Drawn0.refl _ | apply Drawn0.step)⟩
      · replace c6 := Bool.eq_false_iff.mpr c6
        subst c6
        have H1 : (if a0 ≥ 97 then (lex_Class.j1 kj1 a0 (decide (a0 ≤ 122))) else (lex_Class.j1 kj1 a0 false)) = some r := by rw [if_neg (show ¬ (false = true) by decide)] at H; exact H
        clear H
        have H := H1
        clear H1
        have HC7 := Aside0.mk H
        clear H
        go_upto_region 6 with (fail)
        go_cut [12] (fun v12 wc => ∃ (kq : Nat) (x12_6 : Bool), v12 = .bool x12_6 ∧ Aside0 (lex_Class.j1 kq a0 x12_6 = some r) ∧ Aside0 (kq ≤ kj1) ∧ Drawn0 w wc)
        case first =>
          have H := HC7.out
          clear HC7
          by_cases c8 : a0 ≥ 97
          · rw [if_pos c8] at H
            have c8b0 : decide (97 ≤ a0) = true := decide_eq_true c8
            clear c8
            (first | rw [c8b0] | (simp only [i64_w, i32_w]; rw [c8b0]) | skip)
            have H' := Aside0.mk H
            clear H
            go_wp2
            go_meet
            case rel => exact ⟨_, (decide (a0 ≤ 122)), (by first | rfl | (simp; done) | (simp [*]; done)), H', ⟨by have := HJ1.out; first | omega | exact Nat.le_refl _⟩, by repeat (first | exact Drawn0.refl _ | apply Drawn0.step)⟩
          · rw [if_neg c8] at H
            have c8b0 : decide (97 ≤ a0) = false := decide_eq_false c8
            clear c8
            (first | rw [c8b0] | (simp only [i64_w, i32_w]; rw [c8b0]) | skip)
            have H' := Aside0.mk H
            clear H
            go_wp2
            go_meet
            case rel => exact ⟨_, (false), (by first | rfl | (simp; done) | (simp [*]; done)), H', ⟨by have := HJ1.out; first | omega | exact Nat.le_refl _⟩, by repeat (first | exact Drawn0.refl _ | apply Drawn0.step)⟩
        case rest =>
          clear HC7
          try clear c1
          try clear p2
          try clear c3
          try clear c3b0
          try clear c3b1
          try clear c4
          try clear c4b0
          try clear c4b1
          try clear c5
          try clear c5b0
          try clear c5b1
          try clear c6
          try clear c8
          try clear c8b0
          try clear p2
          obtain ⟨kq, x12_6, rfl, HA, HJ6, ⟨mc6, rfl⟩⟩ := hcut
          cases kq with
          | zero => exact absurd HA.out (by simp [lex_Class.j1])
          | succ kj6 =>
            have H := HA.out
            clear HA
            simp only [lex_Class.j1] at H
            have HC9 := Aside0.mk H
            clear H
            go_upto_if 12 with (fail)
            go_cut [12] (fun v12 wc => ∃ (kq : Nat) (x12_8 : Bool), v12 = .bool x12_8 ∧ Aside0 (lex_Class.j2 kq a0 x12_8 = some r) ∧ Aside0 (kq ≤ kj6) ∧ Drawn0 w wc)
            case first =>
              have H := HC9.out
              clear HC9
              by_cases c10 : x12_6 = true
              · subst c10
                have H1 : (lex_Class.j2 kj6 a0 true) = some r := by rw [if_pos rfl] at H; exact H
                clear H
                have H := H1
                clear H1
                have H' := Aside0.mk H
                clear H
                go_wp2
                go_meet
                case rel => exact ⟨_, (true), (by first | rfl | (simp; done) | (simp [*]; done)), H', ⟨by have := HJ1.out; have := HJ6.out; first | omega | exact Nat.le_refl _⟩, by repeat (first | exact Drawn0.refl _ | apply Drawn0.step)⟩
              · replace c10 := Bool.eq_false_iff.mpr c10
                subst c10
                have H1 : (if a0 ≥ 65 then (if a0 ≤ 90 then (lex_Class.j2 kj6 a0 (decide (a0 ≤ 90))) else (lex_Class.j2 kj6 a0 (a0 == 95))) else (lex_Class.j2 kj6 a0 (a0 == 95))) = some r := by rw [if_neg (show ¬ (false = true) by decide)] at H; exact H
                clear H
                have H := H1
                clear H1
                by_cases c11 : a0 ≥ 65
                · rw [if_pos c11] at H
                  have c11b0 : decide (65 ≤ a0) = true := decide_eq_true c11
                  clear c11
                  (first | rw [c11b0] | (simp only [i64_w, i32_w]; rw [c11b0]) | skip)
                  by_cases c12 : a0 ≤ 90
                  · rw [if_pos c12] at H
                    have c12b0 : decide (a0 ≤ 90) = true := decide_eq_true c12
                    clear c12
                    have H' := Aside0.mk H
                    clear H
                    go_wp2
                    go_meet
                    case rel => exact ⟨_, (decide (a0 ≤ 90)), (by first | rfl | (simp; done) | (simp [*]; done)), H', ⟨by have := HJ1.out; have := HJ6.out; first | omega | exact Nat.le_refl _⟩, by repeat (first | exact Drawn0.refl _ | apply Drawn0.step)⟩
                  · rw [if_neg c12] at H
                    have c12b0 : decide (a0 ≤ 90) = false := decide_eq_false c12
                    clear c12
                    have H' := Aside0.mk H
                    clear H
                    go_wp2
                    go_meet
                    case rel => exact ⟨_, ((a0 == 95)), (by first | rfl | (simp; done) | (simp [*]; done)), H', ⟨by have := HJ1.out; have := HJ6.out; first | omega | exact Nat.le_refl _⟩, by repeat (first | exact Drawn0.refl _ | apply Drawn0.step)⟩
                · rw [if_neg c11] at H
                  have c11b0 : decide (65 ≤ a0) = false := decide_eq_false c11
                  clear c11
                  (first | rw [c11b0] | (simp only [i64_w, i32_w]; rw [c11b0]) | skip)
                  have H' := Aside0.mk H
                  clear H
                  go_wp2
                  go_meet
                  case rel => exact ⟨_, ((a0 == 95)), (by first | rfl | (simp; done) | (simp [*]; done)), H', ⟨by have := HJ1.out; have := HJ6.out; first | omega | exact Nat.le_refl _⟩, by repeat (first | exact Drawn0.refl _ | apply Drawn0.step)⟩
            case rest =>
              clear HC9
              try clear c1
              try clear p2
              try clear c3
              try clear c3b0
              try clear c3b1
              try clear c4
              try clear c4b0
              try clear c4b1
              try clear c5
              try clear c5b0
              try clear c5b1
              try clear c6
              try clear c8
              try clear c8b0
              try clear c10
              try clear c11
              try clear c11b0
              try clear c12
              try clear c12b0
              try clear p2
              obtain ⟨kq, x12_8, rfl, HA, HJ8, ⟨mc8, rfl⟩⟩ := hcut
              cases kq with
              | zero => exact absurd HA.out (by simp [lex_Class.j2])
              | succ kj8 =>
                have H := HA.out
                clear HA
                simp only [lex_Class.j2] at H
                by_cases c13 : x12_8 = true
                · subst c13
                  have H1 : (some 2) = some r := by rw [if_pos rfl] at H; exact H
                  clear H
                  have H := H1
                  clear H1
                  obtain rfl := Option.some.inj H
                  go_wp2
                  go_ret
                  exact ⟨by first | rfl | (simp; done) | (simp [*]; done), by repeat (first | exact Drawn0.refl _ | apply Drawn0.step)⟩
                · replace c13 := Bool.eq_false_iff.mpr c13
                  subst c13
                  have H1 : (if a0 ≥ 192 then (if a0 ≤ 591 then (if a0 = 215 then (lex_Class.j3 kj8 a0 false) else (lex_Class.j3 kj8 a0 (a0 != 247))) else (lex_Class.j3 kj8 a0 false)) else (lex_Class.j3 kj8 a0 false)) = some r := by rw [if_neg (show ¬ (false = true) by decide)] at H; exact H
                  clear H
                  have H := H1
                  clear H1
                  have HC14 := Aside0.mk H
                  clear H
                  go_upto_region 10 with (fail)
                  go_cut [27] (fun v27 wc => ∃ (kq : Nat) (x27_13 : Bool), v27 = .bool x27_13 ∧ Aside0 (lex_Class.j3 kq a0 x27_13 = some r) ∧ Aside0 (kq ≤ kj8) ∧ Drawn0 w wc)
                  case first =>
                    have H := HC14.out
                    clear HC14
                    by_cases c15 : a0 ≥ 192
                    · rw [if_pos c15] at H
                      have c15b0 : decide (192 ≤ a0) = true := decide_eq_true c15
                      clear c15
                      (first | rw [c15b0] | (simp only [i64_w, i32_w]; rw [c15b0]) | skip)
                      by_cases c16 : a0 ≤ 591
                      · rw [if_pos c16] at H
                        have c16b0 : decide (a0 ≤ 591) = true := decide_eq_true c16
                        clear c16
                        by_cases c17 : a0 = 215
                        · rw [if_pos c17] at H
                          have c17b0 : (a0 == 215) = true := beq_iff_eq.mpr c17
                          have c17b1 : (a0 != 215) = false := bne_eq_false_iff_eq.mpr c17
                          clear c17
                          have H' := Aside0.mk H
                          clear H
                          go_wp2
                          go_meet
                          case rel => exact ⟨_, (false), (by first | rfl | (simp; done) | (simp [*]; done)), H', ⟨by have := HJ1.out; have := HJ6.out; have := HJ8.out; first | omega | exact Nat.le_refl _⟩, by repeat (first | exact Drawn0.refl _ | apply Drawn0.step)⟩
                        · rw [if_neg c17] at H
                          have c17b0 : (a0 == 215) = false := beq_eq_false_iff_ne.mpr c17
                          have c17b1 : (a0 != 215) = true := bne_iff_ne.mpr c17
                          have H' := Aside0.mk H
                          clear H
                          go_wp2
                          go_meet
                          case rel => exact ⟨_, ((a0 != 247)), (by first | rfl | (simp; done) | (simp [*]; done)), H', ⟨by have := HJ1.out; have := HJ6.out; have := HJ8.out; first | omega | exact Nat.le_refl _⟩, by repeat (first | exact Drawn0.refl _ | apply Drawn0.step)⟩
                      · rw [if_neg c16] at H
                        have c16b0 : decide (a0 ≤ 591) = false := decide_eq_false c16
                        clear c16
                        have H' := Aside0.mk H
                        clear H
                        go_wp2
                        go_meet
                        case rel => exact ⟨_, (false), (by first | rfl | (simp; done) | (simp [*]; done)), H', ⟨by have := HJ1.out; have := HJ6.out; have := HJ8.out; first | omega | exact Nat.le_refl _⟩, by repeat (first | exact Drawn0.refl _ | apply Drawn0.step)⟩
                    · rw [if_neg c15] at H
                      have c15b0 : decide (192 ≤ a0) = false := decide_eq_false c15
                      clear c15
                      (first | rw [c15b0] | (simp only [i64_w, i32_w]; rw [c15b0]) | skip)
                      have H' := Aside0.mk H
                      clear H
                      go_wp2
                      go_meet
                      case rel => exact ⟨_, (false), (by first | rfl | (simp; done) | (simp [*]; done)), H', ⟨by have := HJ1.out; have := HJ6.out; have := HJ8.out; first | omega | exact Nat.le_refl _⟩, by repeat (first | exact Drawn0.refl _ | apply Drawn0.step)⟩
                  case rest =>
                    clear HC14
                    try clear c1
                    try clear p2
                    try clear c3
                    try clear c3b0
                    try clear c3b1
                    try clear c4
                    try clear c4b0
                    try clear c4b1
                    try clear c5
                    try clear c5b0
                    try clear c5b1
                    try clear c6
                    try clear c8
                    try clear c8b0
                    try clear c10
                    try clear c11
                    try clear c11b0
                    try clear c12
                    try clear c12b0
                    try clear c13
                    try clear c15
                    try clear c15b0
                    try clear c16
                    try clear c16b0
                    try clear c17
                    try clear c17b0
                    try clear c17b1
                    try clear p2
                    obtain ⟨kq, x27_13, rfl, HA, HJ13, ⟨mc13, rfl⟩⟩ := hcut
                    cases kq with
                    | zero => exact absurd HA.out (by simp [lex_Class.j3])
                    | succ kj13 =>
                      have H := HA.out
                      clear HA
                      simp only [lex_Class.j3] at H
                      by_cases c18 : x27_13 = true
                      · subst c18
                        have H1 : (some 2) = some r := by rw [if_pos rfl] at H; exact H
                        clear H
                        have H := H1
                        clear H1
                        obtain rfl := Option.some.inj H
                        go_wp2
                        go_ret
                        exact ⟨by first | rfl | (simp; done) | (simp [*]; done), by repeat (first | exact Drawn0.refl _ | apply Drawn0.step)⟩
                      · replace c18 := Bool.eq_false_iff.mpr c18
                        subst c18
                        have H1 : (if a0 ≥ 48 then (lex_Class.j4 kj13 a0 (decide (a0 ≤ 57))) else (lex_Class.j4 kj13 a0 false)) = some r := by rw [if_neg (show ¬ (false = true) by decide)] at H; exact H
                        clear H
                        have H := H1
                        clear H1
                        have HC19 := Aside0.mk H
                        clear H
                        go_upto_region 12 with (fail)
                        go_cut [42] (fun v42 wc => ∃ (kq : Nat) (x42_18 : Bool), v42 = .bool x42_18 ∧ Aside0 (lex_Class.j4 kq a0 x42_18 = some r) ∧ Aside0 (kq ≤ kj13) ∧ Drawn0 w wc)
                        case first =>
                          have H := HC19.out
                          clear HC19
                          by_cases c20 : a0 ≥ 48
                          · rw [if_pos c20] at H
                            have c20b0 : decide (48 ≤ a0) = true := decide_eq_true c20
                            clear c20
                            (first | rw [c20b0] | (simp only [i64_w, i32_w]; rw [c20b0]) | skip)
                            have H' := Aside0.mk H
                            clear H
                            go_wp2
                            go_meet
                            case rel => exact ⟨_, (decide (a0 ≤ 57)), (by first | rfl | (simp; done) | (simp [*]; done)), H', ⟨by have := HJ1.out; have := HJ6.out; have := HJ8.out; have := HJ13.out; first | omega | exact Nat.le_refl _⟩, by repeat (first | exact Drawn0.refl _ | apply Drawn0.step)⟩
                          · rw [if_neg c20] at H
                            have c20b0 : decide (48 ≤ a0) = false := decide_eq_false c20
                            clear c20
                            (first | rw [c20b0] | (simp only [i64_w, i32_w]; rw [c20b0]) | skip)
                            have H' := Aside0.mk H
                            clear H
                            go_wp2
                            go_meet
                            case rel => exact ⟨_, (false), (by first | rfl | (simp; done) | (simp [*]; done)), H', ⟨by have := HJ1.out; have := HJ6.out; have := HJ8.out; have := HJ13.out; first | omega | exact Nat.le_refl _⟩, by repeat (first | exact Drawn0.refl _ | apply Drawn0.step)⟩
                        case rest =>
                          clear HC19
                          try clear c1
                          try clear c2
                          try clear p2
                          try clear c3
                          try clear c3b0
                          try clear c3b1
                          try clear c4
                          try clear c4b0
                          try clear c4b1
                          try clear c5
                          try clear c5b0
                          try clear c5b1
                          try clear c6
                          try clear c8
                          try clear c8b0
                          try clear c10
                          try clear c11
                          try clear c11b0
                          try clear c12
                          try clear c12b0
                          try clear c13
                          try clear c15
                          try clear c15b0
                          try clear c16
                          try clear c16b0
                          try clear c17
                          try clear c17b0
                          try clear c17b1
                          try clear c18
                          try clear c20
                          try clear c20b0
                          try clear p2
                          obtain ⟨kq, x42_18, rfl, HA, HJ18, ⟨mc18, rfl⟩⟩ := hcut
                          cases kq with
                          | zero => exact absurd HA.out (by simp [lex_Class.j4])
                          | succ kj18 =>
                            have H := HA.out
                            clear HA
                            simp only [lex_Class.j4] at H
                            by_cases c21 : x42_18 = true
                            · subst c21
                              have H1 : (some 3) = some r := by rw [if_pos rfl] at H; exact H
                              clear H
                              have H := H1
                              clear H1
                              obtain rfl := Option.some.inj H
                              go_wp2
                              go_ret
                              exact ⟨by first | rfl | (simp; done) | (simp [*]; done), by repeat (first | exact Drawn0.refl _ | apply Drawn0.step)⟩
                            · replace c21 := Bool.eq_false_iff.mpr c21
                              subst c21
                              have H1 : (if a0 = 34 then (some 5) else (if a0 = 35 then (some 6) else (if a0 > 32 then (if a0 < 127 then ((strings_IndexByte.f (⟨#[40, 41, 123, 125, 44, 59, 58, 61, 43, 45, 42, 47, 37, 60, 62, 33, 38, 124]⟩ : ByteArray) ((a0) % 256)).bind fun t101 => (if t101 ≥ 0 then (some 4) else (some 0))) else (some 0)) else (some 0)))) = some r := by rw [if_neg (show ¬ (false = true) by decide)] at H; exact H
                              clear H
                              have H := H1
                              clear H1
                              by_cases c22 : a0 = 34
                              · rw [if_pos c22] at H
                                have c22b0 : (a0 == 34) = true := beq_iff_eq.mpr c22
                                have c22b1 : (a0 != 34) = false := bne_eq_false_iff_eq.mpr c22
                                clear c22
                                obtain rfl := Option.some.inj H
                                go_wp2
                                go_ret
                                exact ⟨by first | rfl | (simp; done) | (simp [*]; done), by repeat (first | exact Drawn0.refl _ | apply Drawn0.step)⟩
                              · rw [if_neg c22] at H
                                have c22b0 : (a0 == 34) = false := beq_eq_false_iff_ne.mpr c22
                                have c22b1 : (a0 != 34) = true := bne_iff_ne.mpr c22
                                by_cases c23 : a0 = 35
                                · rw [if_pos c23] at H
                                  have c23b0 : (a0 == 35) = true := beq_iff_eq.mpr c23
                                  have c23b1 : (a0 != 35) = false := bne_eq_false_iff_eq.mpr c23
                                  clear c23
                                  obtain rfl := Option.some.inj H
                                  go_wp2
                                  go_ret
                                  exact ⟨by first | rfl | (simp; done) | (simp [*]; done), by repeat (first | exact Drawn0.refl _ | apply Drawn0.step)⟩
                                · rw [if_neg c23] at H
                                  have c23b0 : (a0 == 35) = false := beq_eq_false_iff_ne.mpr c23
                                  have c23b1 : (a0 != 35) = true := bne_iff_ne.mpr c23
                                  by_cases c24 : a0 > 32
                                  · rw [if_pos c24] at H
                                    have c24b0 : decide (32 < a0) = true := decide_eq_true c24
                                    clear c24
                                    by_cases c25 : a0 < 127
                                    · rw [if_pos c25] at H
                                      have c25b0 : decide (a0 < 127) = true := decide_eq_true c25
                                      clear c25
                                      replace H := Option.bind_eq_some_iff.mp H
                                      obtain ⟨t101, A260, H⟩ := H
                                      replace H : (if t101 ≥ 0 then (some 4) else (some 0)) = some r := H
                                      have A26 := Aside0.mk A260
                                      clear A260
                                      by_cases c27 : t101 ≥ 0
                                      · rw [if_pos c27] at H
                                        have c27b0 : decide (0 ≤ t101) = true := decide_eq_true c27
                                        clear c27
                                        obtain rfl := Option.some.inj H
                                        go_wp2_with (first | (go_at_call 50; (with_reducible refine (strings_IndexByte.calls (⟨#[40, 41, 123, 125, 44, 59, 58, 61, 43, 45, 42, 47, 37, 60, 62, 33, 38, 124]⟩ : ByteArray) ((a0) % 256) t101 _ A26.out).mono ?_); rintro e w' ⟨rfl, ⟨nd, rfl⟩⟩))
                                        go_ret
                                        exact ⟨by first | rfl | (simp; done) | (simp [*]; done), by repeat (first | exact Drawn0.refl _ | apply Drawn0.step)⟩
                                      · rw [if_neg c27] at H
                                        have c27b0 : decide (0 ≤ t101) = false := decide_eq_false c27
                                        clear c27
                                        obtain rfl := Option.some.inj H
                                        go_wp2_with (first | (go_at_call 50; (with_reducible refine (strings_IndexByte.calls (⟨#[40, 41, 123, 125, 44, 59, 58, 61, 43, 45, 42, 47, 37, 60, 62, 33, 38, 124]⟩ : ByteArray) ((a0) % 256) t101 _ A26.out).mono ?_); rintro e w' ⟨rfl, ⟨nd, rfl⟩⟩))
                                        go_ret
                                        exact ⟨by first | rfl | (simp; done) | (simp [*]; done), by repeat (first | exact Drawn0.refl _ | apply Drawn0.step)⟩
                                    · rw [if_neg c25] at H
                                      have c25b0 : decide (a0 < 127) = false := decide_eq_false c25
                                      clear c25
                                      obtain rfl := Option.some.inj H
                                      go_wp2
                                      go_ret
                                      exact ⟨by first | rfl | (simp; done) | (simp [*]; done), by repeat (first | exact Drawn0.refl _ | apply Drawn0.step)⟩
                                  · rw [if_neg c24] at H
                                    have c24b0 : decide (32 < a0) = false := decide_eq_false c24
                                    clear c24
                                    obtain rfl := Option.some.inj H
                                    go_wp2
                                    go_ret
                                    exact ⟨by first | rfl | (simp; done) | (simp [*]; done), by repeat (first | exact Drawn0.refl _ | apply Drawn0.step)⟩
end Go.Proofs.YtbmdhmmahmdccaaDoor.Print
/-! ### EWordy -/
namespace Go.Proofs.YtbmdhmmahmdccaaDoor.Print
open Go.RowKit Go.Proofs.YtbmdhmmahmdccaaDoorW.PrintWords Go.Proofs.YtbmdhmmahmdccaaDoorW.PrintLast Go.Proofs.YtbmdhmmahmdccaaDoorW.PrintMore
set_option linter.unusedSimpArgs false
set_option linter.unusedVariables false
/-- A sign's index among the signs: where it is one. -/
theorem sign_index : ∀ r : Fin 127, 32 < r.val → ((0 : Int) ≤ Lib.indexByte (⟨#[40, 41, 123, 125, 44, 59, 58, 61, 43, 45, 42, 47, 37, 60, 62, 33, 38, 124]⟩ : ByteArray).data.toList (r.val).toUInt8 ↔ (r.val : Int) ∈ signs) := by decide +kernel
theorem lex_class_all (r : Int) (h1 : r ≤ 2147483647) (k : Nat) : lex_Class.f (k + 5) r = some (classZ r) := by
  have h4 : ∀ m, ¬ (r = 32 ∨ r = 9 ∨ r = 13 ∨ r = 10) → ¬ ((97 ≤ r ∧ r ≤ 122) ∨ (65 ≤ r ∧ r ≤ 90) ∨ r = 95) → ¬ (192 ≤ r ∧ r ≤ 591 ∧ r ≠ 215 ∧ r ≠ 247) → lex_Class.j4 (m + 1) r (decide (48 ≤ r ∧ r ≤ 57)) = some (classZ r) := by
    intro m c1 c2 c3
    unfold classZ
    rw [if_neg c1, if_neg c2, if_neg c3]
    simp only [lex_Class.j4, decide_eq_true_eq]
    by_cases c4 : 48 ≤ r ∧ r ≤ 57
    · rw [if_pos c4, if_pos c4]
    · rw [if_neg c4, if_neg c4]
      by_cases c5 : r = 34
      · rw [if_pos c5, if_pos c5]
      · rw [if_neg c5, if_neg c5]
        by_cases c6 : r = 35
        · rw [if_pos c6, if_pos c6]
        · rw [if_neg c6, if_neg c6]
          by_cases c7 : r > 32
          · rw [if_pos c7]
            by_cases c8 : r < 127
            · rw [if_pos c8]
              obtain ⟨n, rfl⟩ : ∃ n : Nat, r = n := ⟨r.toNat, by omega⟩
              have hs := sign_index ⟨n, by omega⟩ (by show 32 < n; omega)
              simp only at hs
              have e : ((n : Int) % 256).toNat = n := by omega
              simp only [strings_IndexByte.f, Option.bind_some, e, ge_iff_le]
              by_cases hm : (n : Int) ∈ signs
              · rw [if_pos (hs.2 hm), if_pos hm]
              · rw [if_neg (fun h => hm (hs.1 h)), if_neg hm]
            · rw [if_neg c8, if_neg]
              intro hm
              simp [signs] at hm
              omega
          · rw [if_neg c7, if_neg]
            intro hm
            simp [signs] at hm
            omega
  have h3 : ∀ m, ¬ (r = 32 ∨ r = 9 ∨ r = 13 ∨ r = 10) → ¬ ((97 ≤ r ∧ r ≤ 122) ∨ (65 ≤ r ∧ r ≤ 90) ∨ r = 95) → lex_Class.j3 (m + 2) r (decide (192 ≤ r ∧ r ≤ 591 ∧ r ≠ 215 ∧ r ≠ 247)) = some (classZ r) := by
    intro m c1 c2
    simp only [lex_Class.j3, decide_eq_true_eq]
    by_cases c3 : 192 ≤ r ∧ r ≤ 591 ∧ r ≠ 215 ∧ r ≠ 247
    · rw [if_pos c3]
      unfold classZ
      rw [if_neg c1, if_neg c2, if_pos c3]
    · rw [if_neg c3]
      by_cases c4 : r ≥ 48
      · rw [if_pos c4, ← h4 m c1 c2 c3]
        congr 1
        simp [c4]
      · rw [if_neg c4, ← h4 m c1 c2 c3]
        congr 1
        simp
        omega
  have h2 : ∀ m, ¬ (r = 32 ∨ r = 9 ∨ r = 13 ∨ r = 10) → lex_Class.j2 (m + 3) r (decide ((97 ≤ r ∧ r ≤ 122) ∨ (65 ≤ r ∧ r ≤ 90) ∨ r = 95)) = some (classZ r) := by
    intro m c1
    simp only [lex_Class.j2, decide_eq_true_eq]
    by_cases c2 : (97 ≤ r ∧ r ≤ 122) ∨ (65 ≤ r ∧ r ≤ 90) ∨ r = 95
    · rw [if_pos c2]
      unfold classZ
      rw [if_neg c1, if_pos c2]
    · rw [if_neg c2]
      have h := h3 m c1 c2
      by_cases d1 : r ≥ 192
      · rw [if_pos d1]
        by_cases d2 : r ≤ 591
        · rw [if_pos d2]
          by_cases d3 : r = 215
          · rw [if_pos d3, ← h]
            congr 1
            simp [d3]
          · rw [if_neg d3, ← h]
            congr 1
            by_cases d4 : r = 247
            · simp [d4]
            · have : (r != 247) = true := by simpa using d4
              rw [this]
              simp [d1, d2, d3, d4]
        · rw [if_neg d2, ← h]
          congr 1
          simp
          omega
      · rw [if_neg d1, ← h]
        congr 1
        simp
        omega
  have h1' : ∀ m, ¬ (r = 32 ∨ r = 9 ∨ r = 13 ∨ r = 10) → lex_Class.j1 (m + 4) r (decide (97 ≤ r ∧ r ≤ 122)) = some (classZ r) := by
    intro m c1
    simp only [lex_Class.j1, decide_eq_true_eq]
    have h := h2 m c1
    by_cases c2 : 97 ≤ r ∧ r ≤ 122
    · rw [if_pos c2, ← h]
      congr 1
      simp [c2]
    · rw [if_neg c2]
      by_cases d1 : r ≥ 65
      · rw [if_pos d1]
        by_cases d2 : r ≤ 90
        · rw [if_pos d2, ← h]
          congr 1
          have : decide (r ≤ 90) = true := decide_eq_true d2
          rw [this]
          simp
          omega
        · rw [if_neg d2, ← h]
          congr 1
          by_cases d3 : r = 95
          · simp [d3]
          · have : (r == 95) = false := by simpa using d3
            rw [this]
            simp
            omega
      · rw [if_neg d1, ← h]
        congr 1
        have : (r == 95) = false := by rw [beq_eq_false_iff_ne]; omega
        rw [this]
        simp
        omega
  have h0' : lex_Class.j0 (k + 5) r (decide (r = 32 ∨ r = 9 ∨ r = 13 ∨ r = 10)) = some (classZ r) := by
    simp only [lex_Class.j0, decide_eq_true_eq]
    by_cases c1 : r = 32 ∨ r = 9 ∨ r = 13 ∨ r = 10
    · rw [if_pos c1]
      unfold classZ
      rw [if_pos c1]
    · rw [if_neg c1]
      have h := h1' k c1
      by_cases d1 : r ≥ 97
      · rw [if_pos d1, ← h]
        congr 1
        simp [d1]
      · rw [if_neg d1, ← h]
        congr 1
        simp
        omega
  unfold lex_Class.f
  rw [← h0']
  by_cases e1 : r = 32
  · rw [if_pos e1]; congr 1; simp [e1]
  · rw [if_neg e1]
    by_cases e2 : r = 9
    · rw [if_pos e2]; congr 1; simp [e2]
    · rw [if_neg e2]
      by_cases e3 : r = 13
      · rw [if_pos e3]; congr 1; simp [e3]
      · rw [if_neg e3]; congr 1
        by_cases e4 : r = 10
        · simp [e4]
        · have : (r == 10) = false := by simpa using e4
          rw [this]; simp; omega
theorem lex_class_is (r : Int) (h0 : 0 ≤ r) (h1 : r ≤ 2147483647) (k : Nat) : lex_Class.f (k + 5) r = some (classZ r) := lex_class_all r h1 k
theorem lex_class_any (r : Int) (h0 : 0 ≤ r) (h1 : r ≤ 2147483647) (w : World) : Calls Tryd.prog 48 #[.int .i32 r] w fun e w' => e = .returned (.int .i64 (classZ r)) ∧ Drawn0 w w' :=
  lex_Class.calls 5 r (classZ r) w (lex_class_is r h0 h1 0)
theorem decode_le (s : ByteArray) (p : Nat) : (Utf8.decode s p).1 ≤ 2147483647 := by
  simp only [Utf8.decode, Utf8.runeError]
  repeat' split
  all_goals simp only
  all_goals (try omega)
  all_goals (have h1 := (s.get! (p + 1)).toNat_lt; have h0 := (s.get! (p + 0)).toNat_lt; omega)
theorem iterAt_heap (w : World) (k : Nat) (s : ByteArray) (q : Nat) (o : Obj) (h : w.heap[k]? = some o) : (w.iterAt k s q).heap[k]? = some (.stringIter s q) := by
  have := (Array.getElem?_eq_some_iff.1 h).1
  show (w.heap.setIfInBounds k _)[k]? = _
  simp [this]
theorem iterAt_below {a w : World} (k : Nat) (s : ByteArray) (q : Nat) (hb : Below a.heap.size a w) (hk : a.heap.size ≤ k) : Below a.heap.size a (w.iterAt k s q) := by
  refine ⟨hb.os, hb.tape, hb.output, ?_, fun i hi => ?_⟩
  · show a.heap.size ≤ (w.heap.setIfInBounds k _).size
    simp
    exact hb.size
  · show (w.heap.setIfInBounds k _)[i]? = _
    rw [Array.getElem?_setIfInBounds_ne (by omega)]
    exact hb.block i hi
def lex_wordy.f (a0 : ByteArray) : Option Bool := some (wordyB a0)
set_option maxHeartbeats 8000000 in
set_option maxRecDepth 100000 in
theorem lex_wordy.calls (a0 : ByteArray) (r : Bool) (w : World) (h : lex_wordy.f a0 = some r) :
    Calls Tryd.prog 39 #[.string a0] w fun e w' => e = .returned (.bool r) ∧ Below w.heap.size w w' := by
  obtain rfl := Option.some.inj h
  clear h
  obtain ⟨V, hV⟩ : ∃ V, V = wordyB a0 := ⟨_, rfl⟩
  rw [← hV]
  have HV := Lib.hid hV
  clear hV
  go_enter Tryd.func39, Tryd.ntmps39
  go_wp2
  obtain ⟨g, hg⟩ : ∃ g, g = w.heap.size := ⟨_, rfl⟩
  have HI := Lib.hid (show (w.iter a0 0).heap[g]? = some (.stringIter a0 0) by rw [hg]; exact World.iter_heap w a0 0)
  have HB := Lib.hid (show Below w.heap.size w (w.iter a0 0) from (Below.refl _ _).alloc (Nat.le_refl _) _)
  rw [← hg]
  have HG := Lib.hid (show w.heap.size ≤ g by omega)
  clear hg
  generalize w.iter a0 0 = w1 at *
  go_loopw [] (fun wr => ∃ (pos b : Nat), Hid (wr.heap[g]? = some (.stringIter a0 pos)) ∧ Hid (Below w.heap.size w wr) ∧ Hid (wordyFrom a0 a0.size 0 = wordyFrom a0 b pos) ∧ a0.size ≤ pos + b) (fun wr => a0.size - wr.iterPos g)
  case atStart => exact ⟨0, a0.size, HI, HB, rfl, by omega⟩
  case round =>
    obtain ⟨pos, b, hi, hb, hw, hle⟩ := hrel
    clear HI HB
    by_cases hp : pos < a0.size
    · have hnx : ∀ ty, (Instr.next (.pointer (some ⟨g, 0, none⟩)) true ty).run Tryd.prog wr = _ := fun ty => Lib.run_next_any_at wr g a0 pos ty hi.out hp
      have hwd := Lib.decode_width_pos a0 pos hp
      have hdl := decode_le a0 pos
      obtain ⟨b', rfl⟩ : ∃ b', b = b' + 1 := ⟨b - 1, by omega⟩
      have hw' := hw.out
      rw [show wordyFrom a0 (b' + 1) pos = (wordyZ (Utf8.decode a0 pos).1 && wordyFrom a0 b' (pos + (Utf8.decode a0 pos).2)) by simp [wordyFrom, hp]] at hw'
      have HW := Lib.hid hw'
      have HI2 := Lib.hid (iterAt_heap wr g a0 (pos + (Utf8.decode a0 pos).2) _ hi.out)
      have HB2 := Lib.hid (iterAt_below g a0 (pos + (Utf8.decode a0 pos).2) hb.out HG.out)
      have HP := Lib.hid (show wr.iterPos g = pos by unfold World.iterPos; rw [hi.out])
      clear hw hw'
      generalize wr.iterAt g a0 (pos + (Utf8.decode a0 pos).2) = w2 at *
      generalize (Utf8.decode a0 pos).2 = d2 at *
      generalize (Utf8.decode a0 pos).1 = d1 at *
      go_wp2_with (go_at_call 48; refine (lex_class_any (d1 : Int) (by omega) (by omega) _).mono ?_; rintro e w3 ⟨rfl, ⟨n3, rfl⟩⟩)
      all_goals first
        | (go_roundw
           case rel => exact ⟨pos + d2, b', HI2, Lib.hid (pw_below_drewN HB2.out n3), Lib.hid (by rw [HW.out]; simp_all [wordyZ]), by omega⟩
           case measure =>
             have e1 : (w2.drewN n3).iterPos g = pos + d2 := by
               have : (w2.drewN n3).heap[g]? = some (.stringIter a0 (pos + d2)) := HI2.out
               unfold World.iterPos; rw [this]
             rw [e1, HP.out]; omega)
        | (go_ret
           refine ⟨?_, pw_below_drewN HB2.out n3⟩
           rw [HV.out]
           unfold wordyB
           rw [HW.out]
           simp_all [wordyZ])
    · have hnx : ∀ ty, (Instr.next (.pointer (some ⟨g, 0, none⟩)) true ty).run Tryd.prog wr = _ := fun ty => Lib.run_next_end_at wr g a0 pos ty hi.out hp
      have hwe := hw.out
      rw [wordyFrom_end a0 b pos hp] at hwe
      have HW := Lib.hid hwe
      clear hw hwe
      go_wp2
      go_ret
      refine ⟨?_, hb.out⟩
      rw [HV.out]
      unfold wordyB
      rw [HW.out]
      have e : (!a0.toList.isEmpty) = decide (0 < a0.size) := by
        rw [ByteArray.toList_eq]
        have hsz : a0.size = a0.data.toList.length := by rw [Array.length_toList]; rfl
        rw [hsz]
        cases a0.data.toList <;> simp
      rw [← e]
      rfl
end Go.Proofs.YtbmdhmmahmdccaaDoor.Print
/-! ### Print5 -/
namespace Go.Proofs.YtbmdhmmahmdccaaDoor.Print
open Go.RowKit Go.Proofs.YtbmdhmmahmdccaaDoorW.PrintWords Go.Proofs.YtbmdhmmahmdccaaDoorW.PrintLast Go.Proofs.YtbmdhmmahmdccaaDoorW.PrintMore
attribute [local go_sem] max2_int min2_int max_two min_two
set_option linter.unusedVariables false
set_option linter.unusedSimpArgs false
def lex_Name.f (a0 : ByteArray) : Option (Bool) := (utf8_ValidString.f a0).bind fun t106 => (if t106 = true then ((lex_wordy.f a0).bind fun t107 => (if t107 = true then (if 0 < (a0.size : Int) then (if (bt a0 0) < 48 then ((utf8_RuneCountInString.f a0).bind fun t108 => (some (decide (t108 ≤ 12)))) else (if (bt a0 0) > 57 then ((utf8_RuneCountInString.f a0).bind fun t109 => (some (decide (t109 ≤ 12)))) else (some false))) else (none)) else (some false))) else (some false))
set_option maxHeartbeats 8000000 in
set_option maxRecDepth 100000 in
theorem lex_Name.calls (a0 : ByteArray) (r : Bool) (w : World) (hT : Tabs w) (h : lex_Name.f a0 = some r) :
    Calls Tryd.prog 32 #[.string a0] w fun e w' => e = .returned (.bool r) ∧ Below w.heap.size w w' := by
  have HB := Aside0.mk (Below.refl w.heap.size w)
  have H : ((utf8_ValidString.f a0).bind fun t106 => (if t106 = true then ((lex_wordy.f a0).bind fun t107 => (if t107 = true then (if 0 < (a0.size : Int) then (if (bt a0 0) < 48 then ((utf8_RuneCountInString.f a0).bind fun t108 => (some (decide (t108 ≤ 12)))) else (if (bt a0 0) > 57 then ((utf8_RuneCountInString.f a0).bind fun t109 => (some (decide (t109 ≤ 12)))) else (some false))) else (none)) else (some false))) else (some false))) = some r := h
  clear h
  replace H := Option.bind_eq_some_iff.mp H
  obtain ⟨t106, A20, H⟩ := H
  replace H : (if t106 = true then ((lex_wordy.f a0).bind fun t107 => (if t107 = true then (if 0 < (a0.size : Int) then (if (bt a0 0) < 48 then ((utf8_RuneCountInString.f a0).bind fun t108 => (some (decide (t108 ≤ 12)))) else (if (bt a0 0) > 57 then ((utf8_RuneCountInString.f a0).bind fun t109 => (some (decide (t109 ≤ 12)))) else (some false))) else (none)) else (some false))) else (some false)) = some r := H
  have A2 := Aside0.mk A20
  clear A20
  by_cases c3 : t106 = true
  · subst c3
    have H1 : ((lex_wordy.f a0).bind fun t107 => (if t107 = true then (if 0 < (a0.size : Int) then (if (bt a0 0) < 48 then ((utf8_RuneCountInString.f a0).bind fun t108 => (some (decide (t108 ≤ 12)))) else (if (bt a0 0) > 57 then ((utf8_RuneCountInString.f a0).bind fun t109 => (some (decide (t109 ≤ 12)))) else (some false))) else (none)) else (some false))) = some r := by rw [if_pos rfl] at H; exact H
    clear H
    have H := H1
    clear H1
    replace H := Option.bind_eq_some_iff.mp H
    obtain ⟨t107, A40, H⟩ := H
    replace H : (if t107 = true then (if 0 < (a0.size : Int) then (if (bt a0 0) < 48 then ((utf8_RuneCountInString.f a0).bind fun t108 => (some (decide (t108 ≤ 12)))) else (if (bt a0 0) > 57 then ((utf8_RuneCountInString.f a0).bind fun t109 => (some (decide (t109 ≤ 12)))) else (some false))) else (none)) else (some false)) = some r := H
    have A4 := Aside0.mk A40
    clear A40
    by_cases c5 : t107 = true
    · subst c5
      have H1 : (if 0 < (a0.size : Int) then (if (bt a0 0) < 48 then ((utf8_RuneCountInString.f a0).bind fun t108 => (some (decide (t108 ≤ 12)))) else (if (bt a0 0) > 57 then ((utf8_RuneCountInString.f a0).bind fun t109 => (some (decide (t109 ≤ 12)))) else (some false))) else (none)) = some r := by rw [if_pos rfl] at H; exact H
      clear H
      have H := H1
      clear H1
      by_cases c6 : 0 < (a0.size : Int)
      · rw [if_pos c6] at H
        have c6b0 : decide (0 < (a0.size : Int)) = true := decide_eq_true c6
        have c6b1 : decide (0 < a0.size) = true := decide_eq_true (by omega)
        clear c6
        by_cases c8 : (bt a0 0) < 48
        · rw [if_pos c8] at H
          have c8b0 : decide ((bt a0 0) < 48) = true := decide_eq_true c8
          clear c8
          replace H := Option.bind_eq_some_iff.mp H
          obtain ⟨t108, A90, H⟩ := H
          replace H : (some (decide (t108 ≤ 12))) = some r := H
          have A9 := Aside0.mk A90
          clear A90
          obtain rfl := Option.some.inj H
          go_enter Tryd.func32, Tryd.ntmps32
          go_wp2_with (first | ((with_reducible refine gate_callee (f := 38) rfl ?_); refine goesL_ (some 4) rfl rfl Tryd.func38 (by kernel_rfl) rfl #[.string a0] rfl (by (try simp only [List.map_toArray, List.map_cons, List.map_nil]); first | done | rfl | (simp only [List.length_drop, List.length_take]; rfl)) ?_; (with_reducible refine (utf8_ValidString.calls a0 true _ ?side1 A2.out).mono ?_); (case side1 => exact Tabs.below hT (by repeat (first | (with_reducible first | exact HB.out | apply below_alloc | apply pw_below_drewN | apply below_drew1) | exact HB.out))); rintro e w10 ⟨rfl, hb⟩; refine ⟨_, rfl, ?_⟩; have n0_ := Aside0.mk (below_step (by repeat (first | (with_reducible first | exact HB.out | apply below_alloc | apply pw_below_drewN | apply below_drew1) | exact HB.out)) hb); clear HB; have HB := n0_; clear n0_; (try clear hb); (try clear hb2); (try clear hk); (try clear hi)) | (go_at_call 39; (with_reducible refine (lex_wordy.calls a0 true _ A4.out).mono ?_); rintro e w11 ⟨rfl, hb⟩; have n0_ := Aside0.mk (below_step (by repeat (first | (with_reducible first | exact HB.out | apply below_alloc | apply pw_below_drewN | apply below_drew1) | exact HB.out)) hb); clear HB; have HB := n0_; clear n0_; (try clear hb); (try clear hb2); (try clear hk); (try clear hi); have p7 : 0 ≤ (0 : Int) := (by omega); have q7 : 0 < a0.size := (by have : (0 : Int) < (a0.size : Int) := of_decide_eq_true (by first | (with_reducible assumption) | assumption); omega); have hx7 : ∀ h : 0 < a0.size, ((a0[0]'h).toNat : Int) = bt a0 0 := bt_at a0 0; clear p7; have qi7 : (0 < (a0.size : Int)) = True := eq_true (of_decide_eq_true (by first | (with_reducible assumption) | assumption)); replace q7 := eq_true q7) | (go_at_call 40; (with_reducible refine (utf8_RuneCountInString.calls a0 t108 _ A9.out).mono ?_); rintro e w12 ⟨rfl, hb⟩; have n0_ := Aside0.mk (below_step (by repeat (first | (with_reducible first | exact HB.out | apply below_alloc | apply pw_below_drewN | apply below_drew1) | exact HB.out)) hb); clear HB; have HB := n0_; clear n0_; (try clear hb); (try clear hb2); (try clear hk); (try clear hi)))
          go_ret
          exact ⟨by first | rfl | (simp [errW_none, errW_some] <;> rfl) | (simp [*, errW_none, errW_some] <;> rfl), by repeat (first | (with_reducible first | exact HB.out | apply below_alloc | apply pw_below_drewN | apply below_drew1) | exact HB.out)⟩
        · rw [if_neg c8] at H
          have c8b0 : decide ((bt a0 0) < 48) = false := decide_eq_false c8
          clear c8
          by_cases c14 : (bt a0 0) > 57
          · rw [if_pos c14] at H
            have c14b0 : decide (57 < (bt a0 0)) = true := decide_eq_true c14
            clear c14
            replace H := Option.bind_eq_some_iff.mp H
            obtain ⟨t109, A150, H⟩ := H
            replace H : (some (decide (t109 ≤ 12))) = some r := H
            have A15 := Aside0.mk A150
            clear A150
            obtain rfl := Option.some.inj H
            go_enter Tryd.func32, Tryd.ntmps32
            go_wp2_with (first | ((with_reducible refine gate_callee (f := 38) rfl ?_); refine goesL_ (some 4) rfl rfl Tryd.func38 (by kernel_rfl) rfl #[.string a0] rfl (by (try simp only [List.map_toArray, List.map_cons, List.map_nil]); first | done | rfl | (simp only [List.length_drop, List.length_take]; rfl)) ?_; (with_reducible refine (utf8_ValidString.calls a0 true _ ?side1 A2.out).mono ?_); (case side1 => exact Tabs.below hT (by repeat (first | (with_reducible first | exact HB.out | apply below_alloc | apply pw_below_drewN | apply below_drew1) | exact HB.out))); rintro e w16 ⟨rfl, hb⟩; refine ⟨_, rfl, ?_⟩; have n0_ := Aside0.mk (below_step (by repeat (first | (with_reducible first | exact HB.out | apply below_alloc | apply pw_below_drewN | apply below_drew1) | exact HB.out)) hb); clear HB; have HB := n0_; clear n0_; (try clear hb); (try clear hb2); (try clear hk); (try clear hi)) | (go_at_call 39; (with_reducible refine (lex_wordy.calls a0 true _ A4.out).mono ?_); rintro e w17 ⟨rfl, hb⟩; have n0_ := Aside0.mk (below_step (by repeat (first | (with_reducible first | exact HB.out | apply below_alloc | apply pw_below_drewN | apply below_drew1) | exact HB.out)) hb); clear HB; have HB := n0_; clear n0_; (try clear hb); (try clear hb2); (try clear hk); (try clear hi); have p7 : 0 ≤ (0 : Int) := (by omega); have q7 : 0 < a0.size := (by have : (0 : Int) < (a0.size : Int) := of_decide_eq_true (by first | (with_reducible assumption) | assumption); omega); have hx7 : ∀ h : 0 < a0.size, ((a0[0]'h).toNat : Int) = bt a0 0 := bt_at a0 0; clear p7; have qi7 : (0 < (a0.size : Int)) = True := eq_true (of_decide_eq_true (by first | (with_reducible assumption) | assumption)); replace q7 := eq_true q7; have p13 : 0 ≤ (0 : Int) := (by omega); have q13 : 0 < a0.size := (by have : (0 : Int) < (a0.size : Int) := of_decide_eq_true (by first | (with_reducible assumption) | assumption); omega); have hx13 : ∀ h : 0 < a0.size, ((a0[0]'h).toNat : Int) = bt a0 0 := bt_at a0 0; clear p13; have qi13 : (0 < (a0.size : Int)) = True := eq_true (of_decide_eq_true (by first | (with_reducible assumption) | assumption)); replace q13 := eq_true q13) | (go_at_call 40; (with_reducible refine (utf8_RuneCountInString.calls a0 t109 _ A15.out).mono ?_); rintro e w18 ⟨rfl, hb⟩; have n0_ := Aside0.mk (below_step (by repeat (first | (with_reducible first | exact HB.out | apply below_alloc | apply pw_below_drewN | apply below_drew1) | exact HB.out)) hb); clear HB; have HB := n0_; clear n0_; (try clear hb); (try clear hb2); (try clear hk); (try clear hi)))
            go_ret
            exact ⟨by first | rfl | (simp [errW_none, errW_some] <;> rfl) | (simp [*, errW_none, errW_some] <;> rfl), by repeat (first | (with_reducible first | exact HB.out | apply below_alloc | apply pw_below_drewN | apply below_drew1) | exact HB.out)⟩
          · rw [if_neg c14] at H
            have c14b0 : decide (57 < (bt a0 0)) = false := decide_eq_false c14
            clear c14
            obtain rfl := Option.some.inj H
            go_enter Tryd.func32, Tryd.ntmps32
            go_wp2_with (first | ((with_reducible refine gate_callee (f := 38) rfl ?_); refine goesL_ (some 4) rfl rfl Tryd.func38 (by kernel_rfl) rfl #[.string a0] rfl (by (try simp only [List.map_toArray, List.map_cons, List.map_nil]); first | done | rfl | (simp only [List.length_drop, List.length_take]; rfl)) ?_; (with_reducible refine (utf8_ValidString.calls a0 true _ ?side1 A2.out).mono ?_); (case side1 => exact Tabs.below hT (by repeat (first | (with_reducible first | exact HB.out | apply below_alloc | apply pw_below_drewN | apply below_drew1) | exact HB.out))); rintro e w19 ⟨rfl, hb⟩; refine ⟨_, rfl, ?_⟩; have n0_ := Aside0.mk (below_step (by repeat (first | (with_reducible first | exact HB.out | apply below_alloc | apply pw_below_drewN | apply below_drew1) | exact HB.out)) hb); clear HB; have HB := n0_; clear n0_; (try clear hb); (try clear hb2); (try clear hk); (try clear hi)) | (go_at_call 39; (with_reducible refine (lex_wordy.calls a0 true _ A4.out).mono ?_); rintro e w20 ⟨rfl, hb⟩; have n0_ := Aside0.mk (below_step (by repeat (first | (with_reducible first | exact HB.out | apply below_alloc | apply pw_below_drewN | apply below_drew1) | exact HB.out)) hb); clear HB; have HB := n0_; clear n0_; (try clear hb); (try clear hb2); (try clear hk); (try clear hi); have p7 : 0 ≤ (0 : Int) := (by omega); have q7 : 0 < a0.size := (by have : (0 : Int) < (a0.size : Int) := of_decide_eq_true (by first | (with_reducible assumption) | assumption); omega); have hx7 : ∀ h : 0 < a0.size, ((a0[0]'h).toNat : Int) = bt a0 0 := bt_at a0 0; clear p7; have qi7 : (0 < (a0.size : Int)) = True := eq_true (of_decide_eq_true (by first | (with_reducible assumption) | assumption)); replace q7 := eq_true q7; have p13 : 0 ≤ (0 : Int) := (by omega); have q13 : 0 < a0.size := (by have : (0 : Int) < (a0.size : Int) := of_decide_eq_true (by first | (with_reducible assumption) | assumption); omega); have hx13 : ∀ h : 0 < a0.size, ((a0[0]'h).toNat : Int) = bt a0 0 := bt_at a0 0; clear p13; have qi13 : (0 < (a0.size : Int)) = True := eq_true (of_decide_eq_true (by first | (with_reducible assumption) | assumption)); replace q13 := eq_true q13))
            go_ret
            exact ⟨by first | rfl | (simp [errW_none, errW_some] <;> rfl) | (simp [*, errW_none, errW_some] <;> rfl), by repeat (first | (with_reducible first | exact HB.out | apply below_alloc | apply pw_below_drewN | apply below_drew1) | exact HB.out)⟩
      · rw [if_neg c6] at H
        exact absurd H (by simp)
    · replace c5 := Bool.eq_false_iff.mpr c5
      subst c5
      have H1 : (some false) = some r := by rw [if_neg (show ¬ (false = true) by decide)] at H; exact H
      clear H
      have H := H1
      clear H1
      obtain rfl := Option.some.inj H
      go_enter Tryd.func32, Tryd.ntmps32
      go_wp2_with (first | ((with_reducible refine gate_callee (f := 38) rfl ?_); refine goesL_ (some 4) rfl rfl Tryd.func38 (by kernel_rfl) rfl #[.string a0] rfl (by (try simp only [List.map_toArray, List.map_cons, List.map_nil]); first | done | rfl | (simp only [List.length_drop, List.length_take]; rfl)) ?_; (with_reducible refine (utf8_ValidString.calls a0 true _ ?side1 A2.out).mono ?_); (case side1 => exact Tabs.below hT (by repeat (first | (with_reducible first | exact HB.out | apply below_alloc | apply pw_below_drewN | apply below_drew1) | exact HB.out))); rintro e w21 ⟨rfl, hb⟩; refine ⟨_, rfl, ?_⟩; have n0_ := Aside0.mk (below_step (by repeat (first | (with_reducible first | exact HB.out | apply below_alloc | apply pw_below_drewN | apply below_drew1) | exact HB.out)) hb); clear HB; have HB := n0_; clear n0_; (try clear hb); (try clear hb2); (try clear hk); (try clear hi)) | (go_at_call 39; (with_reducible refine (lex_wordy.calls a0 false _ A4.out).mono ?_); rintro e w22 ⟨rfl, hb⟩; have n0_ := Aside0.mk (below_step (by repeat (first | (with_reducible first | exact HB.out | apply below_alloc | apply pw_below_drewN | apply below_drew1) | exact HB.out)) hb); clear HB; have HB := n0_; clear n0_; (try clear hb); (try clear hb2); (try clear hk); (try clear hi)))
      go_ret
      exact ⟨by first | rfl | (simp [errW_none, errW_some] <;> rfl) | (simp [*, errW_none, errW_some] <;> rfl), by repeat (first | (with_reducible first | exact HB.out | apply below_alloc | apply pw_below_drewN | apply below_drew1) | exact HB.out)⟩
  · replace c3 := Bool.eq_false_iff.mpr c3
    subst c3
    have H1 : (some false) = some r := by rw [if_neg (show ¬ (false = true) by decide)] at H; exact H
    clear H
    have H := H1
    clear H1
    obtain rfl := Option.some.inj H
    go_enter Tryd.func32, Tryd.ntmps32
    go_wp2_with (first | ((with_reducible refine gate_callee (f := 38) rfl ?_); refine goesL_ (some 4) rfl rfl Tryd.func38 (by kernel_rfl) rfl #[.string a0] rfl (by (try simp only [List.map_toArray, List.map_cons, List.map_nil]); first | done | rfl | (simp only [List.length_drop, List.length_take]; rfl)) ?_; (with_reducible refine (utf8_ValidString.calls a0 false _ ?side1 A2.out).mono ?_); (case side1 => exact Tabs.below hT (by repeat (first | (with_reducible first | exact HB.out | apply below_alloc | apply pw_below_drewN | apply below_drew1) | exact HB.out))); rintro e w23 ⟨rfl, hb⟩; refine ⟨_, rfl, ?_⟩; have n0_ := Aside0.mk (below_step (by repeat (first | (with_reducible first | exact HB.out | apply below_alloc | apply pw_below_drewN | apply below_drew1) | exact HB.out)) hb); clear HB; have HB := n0_; clear n0_; (try clear hb); (try clear hb2); (try clear hk); (try clear hi)))
    go_ret
    exact ⟨by first | rfl | (simp [errW_none, errW_some] <;> rfl) | (simp [*, errW_none, errW_some] <;> rfl), by repeat (first | (with_reducible first | exact HB.out | apply below_alloc | apply pw_below_drewN | apply below_drew1) | exact HB.out)⟩
mutual
def tags_Check.l0 : Nat → List (S48) → List (S48) → Int → Int → Option (Int)
  | 0, _, _, _, _ => none
  | k + 1, x0, x8, x9, x10 => if x10 < x9 then (if 0 ≤ x10 then (if x10 < (x8.length : Int) then ((lex_Name.f ((rd_T48 x8 x10).f0)).bind fun t112 => (if t112 = true then (tags_Check.j1 k x0 x10 x8 x9 x10 (decide (((rd_T48 x8 x10).f2) > ((rd_T48 x8 x10).f3))) ((rd_T48 x8 x10).f0) ((rd_T48 x8 x10).f1) ((rd_T48 x8 x10).f2) ((rd_T48 x8 x10).f3)) else (tags_Check.j1 k x0 x10 x8 x9 x10 true ((rd_T48 x8 x10).f0) ((rd_T48 x8 x10).f1) ((rd_T48 x8 x10).f2) ((rd_T48 x8 x10).f3)))) else (none)) else (none)) else (some 0)
def tags_Check.j1 : Nat → List (S48) → Int → List (S48) → Int → Int → Bool → ByteArray → Bool → Int → Int → Option (Int)
  | 0, _, _, _, _, _, _, _, _, _, _ => none
  | k + 1, x0, x3, x8, x9, x10, x25, x112000, x112001, x112002, x112003 => if x25 = true then (some 1) else ((tags_Find.f x0 x112000).bind fun t113 => (if t113 < x3 then (some 5) else (tags_Check.l0 k x0 x8 x9 (wrap64 (x10 + 1)))))
end
def tags_Check.f (k : Nat) (l0 : List (S48)) : Option (Int) := if (l0.length : Int) > 12 then (some 2) else (tags_Check.l0 k l0 l0 (l0.length : Int) 0)
set_option maxHeartbeats 8000000 in
set_option maxRecDepth 100000 in
theorem tags_Check.calls (k : Nat) (A0 : Option Addr) (c0 : Nat) (l0 : List (S48)) (r : Int) (w : World) (hr0 : Kd.C k48 w A0 l0.length l0) (hc0 : l0.length ≤ c0) (hT : Tabs w) (h : tags_Check.f k l0 = some r) :
    Calls Tryd.prog 14 #[.slice A0 l0.length c0] w fun e w' => e = .returned (.int .i64 r) ∧ Below w.heap.size w w' := by
  have hu48 := Tryd.underlying48
  have HR0 := Aside0.mk hr0
  have HC0 := Aside0.mk hc0
  clear hr0 hc0
  have HB := Aside0.mk (Below.refl w.heap.size w)
  have H : (if (l0.length : Int) > 12 then (some 2) else (tags_Check.l0 k l0 l0 (l0.length : Int) 0)) = some r := h
  clear h
  by_cases c2 : (l0.length : Int) > 12
  · rw [if_pos c2] at H
    have c2b0 : decide (12 < (l0.length : Int)) = true := decide_eq_true c2
    have c2b1 : decide (12 < l0.length) = true := decide_eq_true (by omega)
    clear c2
    obtain rfl := Option.some.inj H
    go_enter Tryd.func14, Tryd.ntmps14
    go_wp2
    go_ret
    exact ⟨by first | rfl | (simp [errW_none, errW_some] <;> rfl) | (simp [*, errW_none, errW_some] <;> rfl), by repeat (first | (with_reducible first | exact HB.out | apply below_alloc | apply pw_below_drewN | apply below_drew1) | exact HB.out)⟩
  · rw [if_neg c2] at H
    have c2b0 : decide (12 < (l0.length : Int)) = false := decide_eq_false c2
    have c2b1 : decide (12 < l0.length) = false := decide_eq_false (by omega)
    clear c2
    have H' := Aside0.mk H
    clear H
    go_enter Tryd.func14, Tryd.ntmps14
    go_wp2
    go_loopg [10] k (fun kq v10 w' => ∃ (x10_1 : Int), v10 = .int .i64 x10_1 ∧ Aside0 (tags_Check.l0 kq l0 l0 (l0.length : Int) x10_1 = some r) ∧ Aside0 (kq ≤ k) ∧ Aside0 (Below w.heap.size w w'))
    case atStart => exact ⟨(0), (by first | rfl | (simp; done) | (simp [*]; done)), H', ⟨Nat.le_refl _⟩, ⟨by repeat (first | (with_reducible first | exact HB.out | apply below_alloc | apply pw_below_drewN | apply below_drew1) | exact HB.out)⟩⟩
    case round =>
      clear H'
      try clear c1
      try clear c2
      try clear c2b0
      try clear c2b1
      try clear p2
      obtain ⟨x10_1, rfl, HA, HK1, HB⟩ := hrel
      cases gk with
      | zero => exact absurd HA.out (by simp [tags_Check.l0])
      | succ k1 =>
        have H := HA.out
        clear HA
        simp only [tags_Check.l0] at H
        by_cases c3 : x10_1 < (l0.length : Int)
        · rw [if_pos c3] at H
          have c3b0 : decide (x10_1 < (l0.length : Int)) = true := decide_eq_true c3
          clear c3
          by_cases c4 : 0 ≤ x10_1
          · rw [if_pos c4] at H
            have c4b0 : decide (0 ≤ x10_1) = true := decide_eq_true c4
            clear c4
            by_cases c5 : x10_1 < (l0.length : Int)
            · rw [if_pos c5] at H
              have c5b0 : decide (x10_1 < (l0.length : Int)) = true := decide_eq_true c5
              clear c5
              have HC6 := Aside0.mk H
              clear H
              have p110 : 0 ≤ (x10_1 : Int) := of_decide_eq_true (by first | (with_reducible assumption) | assumption)
              have q110 : x10_1 < (l0.length : Int) := of_decide_eq_true (by first | (with_reducible assumption) | assumption)
              obtain ⟨ad110, e110, hx110_0, hx110_1, hx110_2, hx110_3⟩ := at_T48 HR0.out x10_1 p110 q110
              cases e110
              replace hx110_0 := (HB.out.cell (World.block_lt_of_cell? w _ hx110_0)).trans hx110_0
              replace hx110_1 := (HB.out.cell (World.block_lt_of_cell? w _ hx110_1)).trans hx110_1
              replace hx110_2 := (HB.out.cell (World.block_lt_of_cell? w _ hx110_2)).trans hx110_2
              replace hx110_3 := (HB.out.cell (World.block_lt_of_cell? w _ hx110_3)).trans hx110_3
              replace p110 := eq_true p110
              replace q110 := eq_true q110
              go_upto_region 6 with (first | ((with_reducible refine gate_dst (N := 4) rfl ?_); refine box_event ?hg (N := 4) ?hd (cs := #[.string (⟨#[]⟩ : ByteArray), .bool false, .int .i64 0, .int .i64 0]) (t := 48) ?hr ?_; (case hd => rfl); (case hg => rfl); (case hr => first | (go_simp; done) | (go_simp; rfl)); intro gb111 hg w7 hbox hb; have n0_ := Aside0.mk (below_step (by repeat (first | (with_reducible first | exact HB.out | apply below_alloc | apply pw_below_drewN | apply below_drew1) | exact HB.out)) hb); have n1_ := Aside0.mk (hbox); have n2_ := Aside0.mk ((by rw [hg]; exact (below_size (by repeat (first | (with_reducible first | exact HB.out | apply below_alloc | apply pw_below_drewN | apply below_drew1) | exact HB.out))) : w.heap.size ≤ gb111)); have n3_ := Aside0.mk ((by rw [hg]; exact (below_size (by repeat (first | (with_reducible first | exact HB.out | apply below_alloc | apply pw_below_drewN | apply below_drew1) | exact HB.out))) : w.heap.size ≤ gb111)); clear HB; have HB := n0_; have BK111 := n1_; have GW111 := n2_; have GE111 := n3_; clear n0_ n1_ n2_ n3_; clear hb hbox hg; have hcz8_0 : w7.cell? ⟨gb111, 0, none⟩ = some (.string (⟨#[]⟩ : ByteArray)) := (blk_cell BK111.out 0).trans rfl; have hcz8_1 : w7.cell? ⟨gb111, 1, none⟩ = some (.bool false) := (blk_cell BK111.out 1).trans rfl; have hcz8_2 : w7.cell? ⟨gb111, 2, none⟩ = some (.int .i64 0) := (blk_cell BK111.out 2).trans rfl; have hcz8_3 : w7.cell? ⟨gb111, 3, none⟩ = some (.int .i64 0) := (blk_cell BK111.out 3).trans rfl; have hfz8_0 := blk_frozen BK111.out 0; have hfz8_1 := blk_frozen BK111.out 1; have hfz8_2 := blk_frozen BK111.out 2; have hfz8_3 := blk_frozen BK111.out 3))
              (try simp only [Act.put, List.setIfInBounds_toArray, List.set_cons_zero, List.set_cons_succ])
              go_cut [25] (fun v25 wc => ∃ (kq : Nat) (x25_5 : Bool), v25 = .bool x25_5 ∧ Aside0 (tags_Check.j1 kq l0 x10_1 l0 (l0.length : Int) x10_1 x25_5 ((rd_T48 l0 x10_1).f0) ((rd_T48 l0 x10_1).f1) ((rd_T48 l0 x10_1).f2) ((rd_T48 l0 x10_1).f3) = some r) ∧ Aside0 (kq ≤ k1) ∧ Aside0 (wc.heap[gb111]? = some (.cells #[.string ((rd_T48 l0 x10_1).f0), .bool ((rd_T48 l0 x10_1).f1), .int .i64 ((rd_T48 l0 x10_1).f2), .int .i64 ((rd_T48 l0 x10_1).f3)] 48 (0, 0))) ∧ Aside0 (Below w.heap.size w wc))
              case first =>
                have H := HC6.out
                clear HC6
                replace H := Option.bind_eq_some_iff.mp H
                obtain ⟨t112, A90, H⟩ := H
                replace H : (if t112 = true then (tags_Check.j1 k1 l0 x10_1 l0 (l0.length : Int) x10_1 (decide (((rd_T48 l0 x10_1).f2) > ((rd_T48 l0 x10_1).f3))) ((rd_T48 l0 x10_1).f0) ((rd_T48 l0 x10_1).f1) ((rd_T48 l0 x10_1).f2) ((rd_T48 l0 x10_1).f3)) else (tags_Check.j1 k1 l0 x10_1 l0 (l0.length : Int) x10_1 true ((rd_T48 l0 x10_1).f0) ((rd_T48 l0 x10_1).f1) ((rd_T48 l0 x10_1).f2) ((rd_T48 l0 x10_1).f3))) = some r := H
                have A9 := Aside0.mk A90
                clear A90
                by_cases c10 : t112 = true
                · subst c10
                  have H1 : (tags_Check.j1 k1 l0 x10_1 l0 (l0.length : Int) x10_1 (decide (((rd_T48 l0 x10_1).f2) > ((rd_T48 l0 x10_1).f3))) ((rd_T48 l0 x10_1).f0) ((rd_T48 l0 x10_1).f1) ((rd_T48 l0 x10_1).f2) ((rd_T48 l0 x10_1).f3)) = some r := by rw [if_pos rfl] at H; exact H
                  clear H
                  have H := H1
                  clear H1
                  have H' := Aside0.mk H
                  clear H
                  have hcz11_0 : w7.cell? ⟨gb111, 0, none⟩ = some (.string (⟨#[]⟩ : ByteArray)) := (blk_cell BK111.out 0).trans rfl
                  have hcz11_1 : w7.cell? ⟨gb111, 1, none⟩ = some (.bool false) := (blk_cell BK111.out 1).trans rfl
                  have hcz11_2 : w7.cell? ⟨gb111, 2, none⟩ = some (.int .i64 0) := (blk_cell BK111.out 2).trans rfl
                  have hcz11_3 : w7.cell? ⟨gb111, 3, none⟩ = some (.int .i64 0) := (blk_cell BK111.out 3).trans rfl
                  have hfz11_0 := blk_frozen BK111.out 0
                  have hfz11_1 := blk_frozen BK111.out 1
                  have hfz11_2 := blk_frozen BK111.out 2
                  have hfz11_3 := blk_frozen BK111.out 3
                  go_wp2_with (first | ((with_reducible refine gate_callee (f := 32) rfl ?_); refine goesL_ (some 17) rfl rfl Tryd.func32 (by kernel_rfl) rfl #[.string ((rd_T48 l0 x10_1).f0)] rfl (by (try simp only [List.map_toArray, List.map_cons, List.map_nil]); first | done | rfl | (simp only [List.length_drop, List.length_take]; rfl)) ?_; (with_reducible refine (lex_Name.calls ((rd_T48 l0 x10_1).f0) true _ ?side1 A9.out).mono ?_); (case side1 => exact Tabs.below hT (by repeat (first | (with_reducible first | exact HB.out | apply below_alloc | apply pw_below_drewN | apply below_drew1 | refine below_set ?_ GE111.out) | exact HB.out))); rintro e w12 ⟨rfl, hb⟩; refine ⟨_, rfl, ?_⟩; have n0_ := Aside0.mk (blk_below (g := gb111) (o := .cells #[.string ((rd_T48 l0 x10_1).f0), .bool ((rd_T48 l0 x10_1).f1), .int .i64 ((rd_T48 l0 x10_1).f2), .int .i64 ((rd_T48 l0 x10_1).f3)] 48 (0, 0)) (by (with_reducible repeat (first | refine blk_drewN ?_ _ | refine blk_drew ?_ | refine blk_alloc ?_ _)); refine blk_put (cs := #[.string ((rd_T48 l0 x10_1).f0), .bool ((rd_T48 l0 x10_1).f1), .int .i64 ((rd_T48 l0 x10_1).f2), .int .i64 0]) ?_ 3 _ rfl; (with_reducible repeat (first | refine blk_drewN ?_ _ | refine blk_drew ?_ | refine blk_alloc ?_ _)); refine blk_put (cs := #[.string ((rd_T48 l0 x10_1).f0), .bool ((rd_T48 l0 x10_1).f1), .int .i64 0, .int .i64 0]) ?_ 2 _ rfl; (with_reducible repeat (first | refine blk_drewN ?_ _ | refine blk_drew ?_ | refine blk_alloc ?_ _)); refine blk_put (cs := #[.string ((rd_T48 l0 x10_1).f0), .bool false, .int .i64 0, .int .i64 0]) ?_ 1 _ rfl; (with_reducible repeat (first | refine blk_drewN ?_ _ | refine blk_drew ?_ | refine blk_alloc ?_ _)); refine blk_put (cs := #[.string (⟨#[]⟩ : ByteArray), .bool false, .int .i64 0, .int .i64 0]) ?_ 0 _ rfl; (with_reducible repeat (first | refine blk_drewN ?_ _ | refine blk_drew ?_ | refine blk_alloc ?_ _)); exact BK111.out) hb); have n1_ := Aside0.mk (below_step (by repeat (first | (with_reducible first | exact HB.out | apply below_alloc | apply pw_below_drewN | apply below_drew1 | refine below_set ?_ GE111.out) | exact HB.out)) hb); clear BK111; clear HB; have BK111 := n0_; have HB := n1_; clear n0_ n1_; (try clear hb); (try clear hb2); (try clear hk); (try clear hi); have hcz13_0 : w12.cell? ⟨gb111, 0, none⟩ = some (.string ((rd_T48 l0 x10_1).f0)) := (blk_cell BK111.out 0).trans rfl; have hcz13_1 : w12.cell? ⟨gb111, 1, none⟩ = some (.bool ((rd_T48 l0 x10_1).f1)) := (blk_cell BK111.out 1).trans rfl; have hcz13_2 : w12.cell? ⟨gb111, 2, none⟩ = some (.int .i64 ((rd_T48 l0 x10_1).f2)) := (blk_cell BK111.out 2).trans rfl; have hcz13_3 : w12.cell? ⟨gb111, 3, none⟩ = some (.int .i64 ((rd_T48 l0 x10_1).f3)) := (blk_cell BK111.out 3).trans rfl; have hfz13_0 := blk_frozen BK111.out 0; have hfz13_1 := blk_frozen BK111.out 1; have hfz13_2 := blk_frozen BK111.out 2; have hfz13_3 := blk_frozen BK111.out 3))
                  go_meet
                  case rel => exact ⟨_, (decide (((rd_T48 l0 x10_1).f2) > ((rd_T48 l0 x10_1).f3))), (by first | rfl | (simp; done) | (simp [*]; done)), H', ⟨by have := HK1.out; first | omega | exact Nat.le_refl _⟩, ⟨by (with_reducible repeat (first | refine blk_drewN ?_ _ | refine blk_drew ?_ | refine blk_alloc ?_ _)); exact BK111.out⟩, ⟨by repeat (first | (with_reducible first | exact HB.out | apply below_alloc | apply pw_below_drewN | apply below_drew1 | refine below_set ?_ GE111.out) | exact HB.out)⟩⟩
                · replace c10 := Bool.eq_false_iff.mpr c10
                  subst c10
                  have H1 : (tags_Check.j1 k1 l0 x10_1 l0 (l0.length : Int) x10_1 true ((rd_T48 l0 x10_1).f0) ((rd_T48 l0 x10_1).f1) ((rd_T48 l0 x10_1).f2) ((rd_T48 l0 x10_1).f3)) = some r := by rw [if_neg (show ¬ (false = true) by decide)] at H; exact H
                  clear H
                  have H := H1
                  clear H1
                  have H' := Aside0.mk H
                  clear H
                  have hcz14_0 : w7.cell? ⟨gb111, 0, none⟩ = some (.string (⟨#[]⟩ : ByteArray)) := (blk_cell BK111.out 0).trans rfl
                  have hcz14_1 : w7.cell? ⟨gb111, 1, none⟩ = some (.bool false) := (blk_cell BK111.out 1).trans rfl
                  have hcz14_2 : w7.cell? ⟨gb111, 2, none⟩ = some (.int .i64 0) := (blk_cell BK111.out 2).trans rfl
                  have hcz14_3 : w7.cell? ⟨gb111, 3, none⟩ = some (.int .i64 0) := (blk_cell BK111.out 3).trans rfl
                  have hfz14_0 := blk_frozen BK111.out 0
                  have hfz14_1 := blk_frozen BK111.out 1
                  have hfz14_2 := blk_frozen BK111.out 2
                  have hfz14_3 := blk_frozen BK111.out 3
                  go_wp2_with (first | ((with_reducible refine gate_callee (f := 32) rfl ?_); refine goesL_ (some 17) rfl rfl Tryd.func32 (by kernel_rfl) rfl #[.string ((rd_T48 l0 x10_1).f0)] rfl (by (try simp only [List.map_toArray, List.map_cons, List.map_nil]); first | done | rfl | (simp only [List.length_drop, List.length_take]; rfl)) ?_; (with_reducible refine (lex_Name.calls ((rd_T48 l0 x10_1).f0) false _ ?side1 A9.out).mono ?_); (case side1 => exact Tabs.below hT (by repeat (first | (with_reducible first | exact HB.out | apply below_alloc | apply pw_below_drewN | apply below_drew1 | refine below_set ?_ GE111.out) | exact HB.out))); rintro e w15 ⟨rfl, hb⟩; refine ⟨_, rfl, ?_⟩; have n0_ := Aside0.mk (blk_below (g := gb111) (o := .cells #[.string ((rd_T48 l0 x10_1).f0), .bool ((rd_T48 l0 x10_1).f1), .int .i64 ((rd_T48 l0 x10_1).f2), .int .i64 ((rd_T48 l0 x10_1).f3)] 48 (0, 0)) (by (with_reducible repeat (first | refine blk_drewN ?_ _ | refine blk_drew ?_ | refine blk_alloc ?_ _)); refine blk_put (cs := #[.string ((rd_T48 l0 x10_1).f0), .bool ((rd_T48 l0 x10_1).f1), .int .i64 ((rd_T48 l0 x10_1).f2), .int .i64 0]) ?_ 3 _ rfl; (with_reducible repeat (first | refine blk_drewN ?_ _ | refine blk_drew ?_ | refine blk_alloc ?_ _)); refine blk_put (cs := #[.string ((rd_T48 l0 x10_1).f0), .bool ((rd_T48 l0 x10_1).f1), .int .i64 0, .int .i64 0]) ?_ 2 _ rfl; (with_reducible repeat (first | refine blk_drewN ?_ _ | refine blk_drew ?_ | refine blk_alloc ?_ _)); refine blk_put (cs := #[.string ((rd_T48 l0 x10_1).f0), .bool false, .int .i64 0, .int .i64 0]) ?_ 1 _ rfl; (with_reducible repeat (first | refine blk_drewN ?_ _ | refine blk_drew ?_ | refine blk_alloc ?_ _)); refine blk_put (cs := #[.string (⟨#[]⟩ : ByteArray), .bool false, .int .i64 0, .int .i64 0]) ?_ 0 _ rfl; (with_reducible repeat (first | refine blk_drewN ?_ _ | refine blk_drew ?_ | refine blk_alloc ?_ _)); exact BK111.out) hb); have n1_ := Aside0.mk (below_step (by repeat (first | (with_reducible first | exact HB.out | apply below_alloc | apply pw_below_drewN | apply below_drew1 | refine below_set ?_ GE111.out) | exact HB.out)) hb); clear BK111; clear HB; have BK111 := n0_; have HB := n1_; clear n0_ n1_; (try clear hb); (try clear hb2); (try clear hk); (try clear hi)))
                  go_meet
                  case rel => exact ⟨_, (true), (by first | rfl | (simp; done) | (simp [*]; done)), H', ⟨by have := HK1.out; first | omega | exact Nat.le_refl _⟩, ⟨by (with_reducible repeat (first | refine blk_drewN ?_ _ | refine blk_drew ?_ | refine blk_alloc ?_ _)); exact BK111.out⟩, ⟨by repeat (first | (with_reducible first | exact HB.out | apply below_alloc | apply pw_below_drewN | apply below_drew1 | refine below_set ?_ GE111.out) | exact HB.out)⟩⟩
              case rest =>
                clear HC6
                try clear c1
                try clear p1
                try clear q1
                try clear hx1
                try clear c2
                try clear c2b0
                try clear c2b1
                try clear p2
                try clear c3
                try clear c3b0
                try clear c4
                try clear c4b0
                try clear c5
                try clear c5b0
                try clear c10
                try clear p11
                try clear q11
                try clear hx11
                try clear c14
                try clear hcz11_0
                try clear hcz11_1
                try clear hcz11_2
                try clear hcz11_3
                try clear hcz13_0
                try clear hcz13_1
                try clear hcz13_2
                try clear hcz13_3
                try clear hcz14_0
                try clear hcz14_1
                try clear hcz14_2
                try clear hcz14_3
                try clear hcz8_0
                try clear hcz8_1
                try clear hcz8_2
                try clear hcz8_3
                try clear hfz11_0
                try clear hfz11_1
                try clear hfz11_2
                try clear hfz11_3
                try clear hfz13_0
                try clear hfz13_1
                try clear hfz13_2
                try clear hfz13_3
                try clear hfz14_0
                try clear hfz14_1
                try clear hfz14_2
                try clear hfz14_3
                try clear hfz8_0
                try clear hfz8_1
                try clear hfz8_2
                try clear hfz8_3
                try clear hx110_0
                try clear hx110_1
                try clear hx110_2
                try clear hx110_3
                try clear p110
                try clear p2
                try clear q110
                obtain ⟨kq, x25_5, rfl, HA, HJ5, BK111, HB⟩ := hcut
                cases kq with
                | zero => exact absurd HA.out (by simp [tags_Check.j1])
                | succ kj5 =>
                  have H := HA.out
                  clear HA
                  simp only [tags_Check.j1] at H
                  by_cases c16 : x25_5 = true
                  · subst c16
                    have H1 : (some 1) = some r := by rw [if_pos rfl] at H; exact H
                    clear H
                    have H := H1
                    clear H1
                    obtain rfl := Option.some.inj H
                    go_wp2
                    go_ret
                    exact ⟨by first | rfl | (simp [errW_none, errW_some] <;> rfl) | (simp [*, errW_none, errW_some] <;> rfl), by repeat (first | (with_reducible first | exact HB.out | apply below_alloc | apply pw_below_drewN | apply below_drew1 | refine below_set ?_ GE111.out) | exact HB.out)⟩
                  · replace c16 := Bool.eq_false_iff.mpr c16
                    subst c16
                    have H1 : ((tags_Find.f l0 ((rd_T48 l0 x10_1).f0)).bind fun t113 => (if t113 < x10_1 then (some 5) else (tags_Check.l0 kj5 l0 l0 (l0.length : Int) (wrap64 (x10_1 + 1))))) = some r := by rw [if_neg (show ¬ (false = true) by decide)] at H; exact H
                    clear H
                    have H := H1
                    clear H1
                    replace H := Option.bind_eq_some_iff.mp H
                    obtain ⟨t113, A170, H⟩ := H
                    replace H : (if t113 < x10_1 then (some 5) else (tags_Check.l0 kj5 l0 l0 (l0.length : Int) (wrap64 (x10_1 + 1)))) = some r := H
                    have A17 := Aside0.mk A170
                    clear A170
                    by_cases c18 : t113 < x10_1
                    · rw [if_pos c18] at H
                      have c18b0 : decide (t113 < x10_1) = true := decide_eq_true c18
                      clear c18
                      obtain rfl := Option.some.inj H
                      have hcz19_0 : wc.cell? ⟨gb111, 0, none⟩ = some (.string ((rd_T48 l0 x10_1).f0)) := (blk_cell BK111.out 0).trans rfl
                      have hcz19_1 : wc.cell? ⟨gb111, 1, none⟩ = some (.bool ((rd_T48 l0 x10_1).f1)) := (blk_cell BK111.out 1).trans rfl
                      have hcz19_2 : wc.cell? ⟨gb111, 2, none⟩ = some (.int .i64 ((rd_T48 l0 x10_1).f2)) := (blk_cell BK111.out 2).trans rfl
                      have hcz19_3 : wc.cell? ⟨gb111, 3, none⟩ = some (.int .i64 ((rd_T48 l0 x10_1).f3)) := (blk_cell BK111.out 3).trans rfl
                      have hfz19_0 := blk_frozen BK111.out 0
                      have hfz19_1 := blk_frozen BK111.out 1
                      have hfz19_2 := blk_frozen BK111.out 2
                      have hfz19_3 := blk_frozen BK111.out 3
                      go_wp2_with (first | ((with_reducible refine gate_callee (f := 16) rfl ?_); refine goesL_ (some 29) rfl rfl Tryd.func16 (by kernel_rfl) rfl #[.slice (some ad110) l0.length c0, .string ((rd_T48 l0 x10_1).f0)] rfl (by (try simp only [List.map_toArray, List.map_cons, List.map_nil]); first | done | rfl | (simp only [List.length_drop, List.length_take]; rfl)) ?_; (with_reducible refine (tags_Find.calls _ _ l0 ((rd_T48 l0 x10_1).f0) t113 _ ?side1 ?side2 A17.out).mono ?_); (case side1 => repeat (first | exact (Kd.C_below HR0.out HB.out) | (with_reducible refine Kd.C_alloc ?_ _) | (with_reducible refine Kd.C_drewN ?_ _) | (with_reducible refine Kd.C_drew ?_))); (case side2 => exact HC0.out); rintro e w20 ⟨rfl, hb⟩; refine ⟨_, rfl, ?_⟩; have n0_ := Aside0.mk (blk_below (g := gb111) (o := .cells #[.string ((rd_T48 l0 x10_1).f0), .bool ((rd_T48 l0 x10_1).f1), .int .i64 ((rd_T48 l0 x10_1).f2), .int .i64 ((rd_T48 l0 x10_1).f3)] 48 (0, 0)) (by (with_reducible repeat (first | refine blk_drewN ?_ _ | refine blk_drew ?_ | refine blk_alloc ?_ _)); exact BK111.out) hb); have n1_ := Aside0.mk (below_step (by repeat (first | (with_reducible first | exact HB.out | apply below_alloc | apply pw_below_drewN | apply below_drew1 | refine below_set ?_ GE111.out) | exact HB.out)) hb); clear BK111; clear HB; have BK111 := n0_; have HB := n1_; clear n0_ n1_; (try clear hb); (try clear hb2); (try clear hk); (try clear hi)))
                      go_ret
                      exact ⟨by first | rfl | (simp [errW_none, errW_some] <;> rfl) | (simp [*, errW_none, errW_some] <;> rfl), by repeat (first | (with_reducible first | exact HB.out | apply below_alloc | apply pw_below_drewN | apply below_drew1 | refine below_set ?_ GE111.out) | exact HB.out)⟩
                    · rw [if_neg c18] at H
                      have c18b0 : decide (t113 < x10_1) = false := decide_eq_false c18
                      clear c18
                      have H' := Aside0.mk H
                      clear H
                      have hcz21_0 : wc.cell? ⟨gb111, 0, none⟩ = some (.string ((rd_T48 l0 x10_1).f0)) := (blk_cell BK111.out 0).trans rfl
                      have hcz21_1 : wc.cell? ⟨gb111, 1, none⟩ = some (.bool ((rd_T48 l0 x10_1).f1)) := (blk_cell BK111.out 1).trans rfl
                      have hcz21_2 : wc.cell? ⟨gb111, 2, none⟩ = some (.int .i64 ((rd_T48 l0 x10_1).f2)) := (blk_cell BK111.out 2).trans rfl
                      have hcz21_3 : wc.cell? ⟨gb111, 3, none⟩ = some (.int .i64 ((rd_T48 l0 x10_1).f3)) := (blk_cell BK111.out 3).trans rfl
                      have hfz21_0 := blk_frozen BK111.out 0
                      have hfz21_1 := blk_frozen BK111.out 1
                      have hfz21_2 := blk_frozen BK111.out 2
                      have hfz21_3 := blk_frozen BK111.out 3
                      go_wp2_with (first | ((with_reducible refine gate_callee (f := 16) rfl ?_); refine goesL_ (some 29) rfl rfl Tryd.func16 (by kernel_rfl) rfl #[.slice (some ad110) l0.length c0, .string ((rd_T48 l0 x10_1).f0)] rfl (by (try simp only [List.map_toArray, List.map_cons, List.map_nil]); first | done | rfl | (simp only [List.length_drop, List.length_take]; rfl)) ?_; (with_reducible refine (tags_Find.calls _ _ l0 ((rd_T48 l0 x10_1).f0) t113 _ ?side1 ?side2 A17.out).mono ?_); (case side1 => repeat (first | exact (Kd.C_below HR0.out HB.out) | (with_reducible refine Kd.C_alloc ?_ _) | (with_reducible refine Kd.C_drewN ?_ _) | (with_reducible refine Kd.C_drew ?_))); (case side2 => exact HC0.out); rintro e w22 ⟨rfl, hb⟩; refine ⟨_, rfl, ?_⟩; have n0_ := Aside0.mk (blk_below (g := gb111) (o := .cells #[.string ((rd_T48 l0 x10_1).f0), .bool ((rd_T48 l0 x10_1).f1), .int .i64 ((rd_T48 l0 x10_1).f2), .int .i64 ((rd_T48 l0 x10_1).f3)] 48 (0, 0)) (by (with_reducible repeat (first | refine blk_drewN ?_ _ | refine blk_drew ?_ | refine blk_alloc ?_ _)); exact BK111.out) hb); have n1_ := Aside0.mk (below_step (by repeat (first | (with_reducible first | exact HB.out | apply below_alloc | apply pw_below_drewN | apply below_drew1 | refine below_set ?_ GE111.out) | exact HB.out)) hb); clear BK111; clear HB; have BK111 := n0_; have HB := n1_; clear n0_ n1_; (try clear hb); (try clear hb2); (try clear hk); (try clear hi)))
                      go_roundg kj5
                      case measure => have := HK1.out; have := HJ5.out; omega
                      case rel => exact ⟨(wrap64 (x10_1 + 1)), (by first | rfl | (simp; done) | (simp [*]; done)), H', ⟨by have := HK1.out; have := HJ5.out; omega⟩, ⟨by repeat (first | (with_reducible first | exact HB.out | apply below_alloc | apply pw_below_drewN | apply below_drew1 | refine below_set ?_ GE111.out) | exact HB.out)⟩⟩
            · rw [if_neg c5] at H
              exact absurd H (by simp)
          · rw [if_neg c4] at H
            exact absurd H (by simp)
        · rw [if_neg c3] at H
          have c3b0 : decide (x10_1 < (l0.length : Int)) = false := decide_eq_false c3
          clear c3
          obtain rfl := Option.some.inj H
          go_wp2
          go_ret
          exact ⟨by first | rfl | (simp [errW_none, errW_some] <;> rfl) | (simp [*, errW_none, errW_some] <;> rfl), by repeat (first | (with_reducible first | exact HB.out | apply below_alloc | apply pw_below_drewN | apply below_drew1) | exact HB.out)⟩
def tags_within.f (a0_0 : ByteArray) (a0_1 : Bool) (a0_2 : Int) (a0_3 : Int) (a1 : Int) : Option (Int) := some (mn (mx a1 a0_2) a0_3)
set_option maxHeartbeats 8000000 in
set_option maxRecDepth 100000 in
theorem tags_within.calls (a0_0 : ByteArray) (a0_1 : Bool) (a0_2 : Int) (a0_3 : Int) (a1 : Int) (r : Int) (w : World) (h : tags_within.f a0_0 a0_1 a0_2 a0_3 a1 = some r) :
    Calls Tryd.prog 30 #[.agg #[.string a0_0, .bool a0_1, .int .i64 a0_2, .int .i64 a0_3], .int .i64 a1] w fun e w' => e = .returned (.int .i64 r) ∧ Below w.heap.size w w' := by
  have hu48 := Tryd.underlying48
  have HB := Aside0.mk (Below.refl w.heap.size w)
  have H : (some (mn (mx a1 a0_2) a0_3)) = some r := h
  clear h
  obtain ⟨ji3, hji3⟩ : ∃ j_ : Int, (mx a1 a0_2) = j_ := ⟨_, rfl⟩
  replace H : (some (mn (ji3) a0_3)) = some r := by first | (rw [hji3] at H; exact H) | (simp only [hji3] at H ⊢; exact H)
  have hji3_ : (if a1 < a0_2 then a0_2 else a1) = ji3 := hji3
  obtain ⟨ji4, hji4⟩ : ∃ j_ : Int, (mn (ji3) a0_3) = j_ := ⟨_, rfl⟩
  replace H : (some ji4) = some r := by first | (rw [hji4] at H; exact H) | (simp only [hji4] at H ⊢; exact H)
  have hji4_ : (if a0_3 < (ji3) then a0_3 else (ji3)) = ji4 := hji4
  obtain rfl := Option.some.inj H
  go_enter Tryd.func30, Tryd.ntmps30
  go_wp2_with (first | ((with_reducible refine gate_dst (N := 2) rfl ?_); refine box_event ?hg (N := 2) ?hd (cs := #[.string a0_0, .bool a0_1, .int .i64 a0_2, .int .i64 a0_3]) (t := 48) ?hr ?_; (case hd => rfl); (case hg => rfl); (case hr => first | (go_simp; done) | (go_simp; rfl)); intro gb114 hg w5 hbox hb; have n0_ := Aside0.mk (below_step (by repeat (first | (with_reducible first | exact HB.out | apply below_alloc | apply pw_below_drewN | apply below_drew1) | exact HB.out)) hb); have n1_ := Aside0.mk (hbox); have n2_ := Aside0.mk ((by rw [hg]; exact (below_size (by repeat (first | (with_reducible first | exact HB.out | apply below_alloc | apply pw_below_drewN | apply below_drew1) | exact HB.out))) : w.heap.size ≤ gb114)); have n3_ := Aside0.mk ((by rw [hg]; exact (below_size (by repeat (first | (with_reducible first | exact HB.out | apply below_alloc | apply pw_below_drewN | apply below_drew1) | exact HB.out))) : w.heap.size ≤ gb114)); clear HB; have HB := n0_; have BK114 := n1_; have GW114 := n2_; have GE114 := n3_; clear n0_ n1_ n2_ n3_; clear hb hbox hg; have hcz6_0 : w5.cell? ⟨gb114, 0, none⟩ = some (.string a0_0) := (blk_cell BK114.out 0).trans rfl; have hcz6_1 : w5.cell? ⟨gb114, 1, none⟩ = some (.bool a0_1) := (blk_cell BK114.out 1).trans rfl; have hcz6_2 : w5.cell? ⟨gb114, 2, none⟩ = some (.int .i64 a0_2) := (blk_cell BK114.out 2).trans rfl; have hcz6_3 : w5.cell? ⟨gb114, 3, none⟩ = some (.int .i64 a0_3) := (blk_cell BK114.out 3).trans rfl; have hfz6_0 := blk_frozen BK114.out 0; have hfz6_1 := blk_frozen BK114.out 1; have hfz6_2 := blk_frozen BK114.out 2; have hfz6_3 := blk_frozen BK114.out 3))
  go_ret
  exact ⟨by first | rfl | (simp [errW_none, errW_some] <;> rfl) | (simp only [← hji3, ← hji4]; first | rfl | (simp [errW_none, errW_some] <;> rfl)) | (simp [*, errW_none, errW_some] <;> rfl), by repeat (first | (with_reducible first | exact HB.out | apply below_alloc | apply pw_below_drewN | apply below_drew1 | refine below_set ?_ GE114.out) | exact HB.out)⟩
def tags_New.l0 : Nat → List (S48) → Int → Int → List Int → List Bool → Option (List Int × List Bool × Int)
  | 0, _, _, _, _, _ => none
  | k + 1, x18, x19, x20, x121000, x121001 => if x20 < x19 then (if 0 ≤ x20 then (if x20 < (x18.length : Int) then ((tags_within.f ((rd_T48 x18 x20).f0) ((rd_T48 x18 x20).f1) ((rd_T48 x18 x20).f2) ((rd_T48 x18 x20).f3) 0).bind fun t123 => (if x121000.length < 17592186044416 then (tags_New.l0 k x18 x19 (wrap64 (x20 + 1)) (x121000 ++ [t123]) x121001) else (none))) else (none)) else (none)) else (some (x121000, x121001, 0))
def tags_New.f (k : Nat) (l0 : List (S48)) : Option (List Int × List Bool × Int) := (tags_Check.f k l0).bind fun t116 => (if t116 = 0 then (if 0 ≤ (l0.length : Int) then (if ((l0.length : Int) : Int).toNat ≤ 281474976710656 then (tags_New.l0 k l0 (l0.length : Int) 0 ([] : List Int) (List.replicate ((l0.length : Int) : Int).toNat false)) else (none)) else (none)) else (some (([] : List Int), ([] : List Bool), t116)))
def tags_New.T8 : Bool × List (List Nat × List Nat) := (true, [([], []), ([0], [0]), ([], []), ([2], [2]), ([3], [3]), ([1, 4, 3], [1, 4]), ([0, 1, 2, 3, 4, 5], []), ([6, 5, 5, 0, 1, 2, 3, 4, 5], [5, 6])])
def tags_New.B8 : List Nat := [0, 1, 0, 4, 12, 31, 63, 127]
theorem tags_New.tab8 : rtab .any (opsOf Tryd.f11 8) = tags_New.T8 := by kernel_rfl
theorem tags_New.bits8 : waitsOk tags_New.T8.2 tags_New.B8 = true := by kernel_rfl
set_option maxHeartbeats 8000000 in
set_option maxRecDepth 100000 in
theorem tags_New.calls (k : Nat) (A0 : Option Addr) (c0 : Nat) (l0 : List (S48)) (r1 : List Int) (r2 : List Bool) (r3 : Int) (w : World) (hr0 : Kd.C k48 w A0 l0.length l0) (hc0 : l0.length ≤ c0) (hT : Tabs w) (h : tags_New.f k l0 = some (r1, r2, r3)) :
    Calls Tryd.prog 11 #[.slice A0 l0.length c0] w fun e w' => ∃ v0_ v1_ : Value, e = .returned (.tuple #[.agg #[v0_, v1_], .int .i64 r3]) ∧ Kd.R (Kd.int .i64) 3 w' w.heap.size (fun _ => True) v0_ r1 ∧ Kd.R Kd.bool 4 w' w.heap.size (fun _ => True) v1_ r2 ∧ Below w.heap.size w w' := by
  have hu28 := Tryd.underlying28
  have hu48 := Tryd.underlying48
  have HR0 := Aside0.mk hr0
  have HC0 := Aside0.mk hc0
  clear hr0 hc0
  have HB := Aside0.mk (Below.refl w.heap.size w)
  have H : ((tags_Check.f k l0).bind fun t116 => (if t116 = 0 then (if 0 ≤ (l0.length : Int) then (if ((l0.length : Int) : Int).toNat ≤ 281474976710656 then (tags_New.l0 k l0 (l0.length : Int) 0 ([] : List Int) (List.replicate ((l0.length : Int) : Int).toNat false)) else (none)) else (none)) else (some (([] : List Int), ([] : List Bool), t116)))) = some (r1, r2, r3) := h
  clear h
  replace H := Option.bind_eq_some_iff.mp H
  obtain ⟨t116, A20, H⟩ := H
  replace H : (if t116 = 0 then (if 0 ≤ (l0.length : Int) then (if ((l0.length : Int) : Int).toNat ≤ 281474976710656 then (tags_New.l0 k l0 (l0.length : Int) 0 ([] : List Int) (List.replicate ((l0.length : Int) : Int).toNat false)) else (none)) else (none)) else (some (([] : List Int), ([] : List Bool), t116))) = some (r1, r2, r3) := H
  have A2 := Aside0.mk A20
  clear A20
  by_cases c3 : t116 = 0
  · rw [if_pos c3] at H
    have c3b0 : (t116 == 0) = true := beq_iff_eq.mpr c3
    have c3b1 : (t116 != 0) = false := bne_eq_false_iff_eq.mpr c3
    clear c3
    by_cases c4 : 0 ≤ (l0.length : Int)
    · rw [if_pos c4] at H
      have c4b0 := eq_true c4
      have c4b1 : decide (0 ≤ (l0.length : Int)) = true := decide_eq_true c4
      clear c4
      by_cases c5 : ((l0.length : Int) : Int).toNat ≤ 281474976710656
      · rw [if_pos c5] at H
        have c5b0 := eq_true c5
        have c5b1 : decide (((l0.length : Int) : Int).toNat ≤ 281474976710656) = true := decide_eq_true c5
        clear c5
        obtain ⟨y117, hy117⟩ : ∃ y_ : List Bool, y_ = (List.replicate ((l0.length : Int) : Int).toNat false) := ⟨_, rfl⟩
        replace H : (tags_New.l0 k l0 (l0.length : Int) 0 ([] : List Int) y117) = some (r1, r2, r3) := by first | (rw [hy117]; with_reducible exact H) | (have H2_ := (Option.bind_some _ _).symm.trans H; rw [hy117]; with_reducible exact H2_) | (have H2_ := (Option.bind_some _ _).symm.trans H; with_reducible exact H2_) | with_reducible exact H | (rw [hy117]; exact H) | exact H
        have Ny117 := Aside0.mk hy117
        clear hy117
        have H' := Aside0.mk H
        clear H
        go_enter Tryd.func11, Tryd.ntmps11
        go_wp2_with (first | ((with_reducible refine gate_dst (N := 2) rfl ?_); refine box_event ?hg (N := 2) ?hd (cs := #[.slice none 0 0, .slice none 0 0]) (t := 28) ?hr ?_; (case hd => rfl); (case hg => rfl); (case hr => first | (go_simp; done) | (go_simp; rfl)); intro gb115 hg w6 hbox hb; have n0_ := Aside0.mk (below_step (by repeat (first | (with_reducible first | exact HB.out | apply below_alloc | apply pw_below_drewN | apply below_drew1) | exact HB.out)) hb); have n1_ := Aside0.mk (hbox); have n2_ := Aside0.mk ((by rw [hg]; exact (below_size (by repeat (first | (with_reducible first | exact HB.out | apply below_alloc | apply pw_below_drewN | apply below_drew1) | exact HB.out))) : w.heap.size ≤ gb115)); have n3_ := Aside0.mk ((by rw [hg]; exact (below_size (by repeat (first | (with_reducible first | exact HB.out | apply below_alloc | apply pw_below_drewN | apply below_drew1) | exact HB.out))) : w.heap.size ≤ gb115)); clear HB; have HB := n0_; have BK115 := n1_; have GW115 := n2_; have GE115 := n3_; clear n0_ n1_ n2_ n3_; clear hb hbox hg) | ((with_reducible refine gate_callee (f := 14) rfl ?_); refine goesL_ (some 9) rfl rfl Tryd.func14 (by kernel_rfl) rfl #[.slice A0 l0.length c0] rfl (by (try simp only [List.map_toArray, List.map_cons, List.map_nil]); first | done | rfl | (simp only [List.length_drop, List.length_take]; rfl)) ?_; (with_reducible refine (tags_Check.calls k _ _ l0 t116 _ ?side1 ?side2 ?side3 A2.out).mono ?_); (case side1 => repeat (first | exact (Kd.C_below HR0.out HB.out) | (with_reducible refine Kd.C_alloc ?_ _) | (with_reducible refine Kd.C_drewN ?_ _) | (with_reducible refine Kd.C_drew ?_))); (case side2 => exact HC0.out); (case side3 => exact Tabs.below hT (by repeat (first | (with_reducible first | exact HB.out | apply below_alloc | apply pw_below_drewN | apply below_drew1 | refine below_set ?_ GE115.out) | exact HB.out))); rintro e w7 ⟨rfl, hb⟩; refine ⟨_, rfl, ?_⟩; have n0_ := Aside0.mk (blk_below (g := gb115) (o := .cells #[.slice none 0 0, .slice none 0 0] 28 (0, 0)) (by (with_reducible repeat (first | refine blk_drewN ?_ _ | refine blk_drew ?_ | refine blk_alloc ?_ _)); exact BK115.out) hb); have n1_ := Aside0.mk (below_step (by repeat (first | (with_reducible first | exact HB.out | apply below_alloc | apply pw_below_drewN | apply below_drew1 | refine below_set ?_ GE115.out) | exact HB.out)) hb); clear BK115; clear HB; have BK115 := n0_; have HB := n1_; clear n0_ n1_; (try clear hb); (try clear hb2); (try clear hk); (try clear hi)) | ((with_reducible refine gate_dst (N := 16) rfl ?_); refine Kd.R_make Kd.bool _ 4 rfl (N := 16) rfl 26 _ _ rfl (l0.length : Int) rfl rfl Tryd.underlying26 (.bool false) 1 info4 rfl (by decide) (by omega) false (ok := fun _ => True) (okp := fun _ => True) rfl (fun _ hk => hk) trivial (of_decide_eq_true (by first | (with_reducible assumption) | assumption)) (Nat.le_trans (Nat.mul_le_mul_right _ (of_decide_eq_true (by first | (with_reducible assumption) | assumption) : (l0.length : Int).toNat ≤ 281474976710656)) (by omega)) (Below.refl _ _) (Nat.le_refl _) ?_; intro v118 w8 ho9 hb hg_ hnew_; clear hg_ hnew_; (first | rw [← Ny117.out] at ho9 | (simp only [Int.reduceToNat] at ho9; rw [← Ny117.out] at ho9)); have n0_ := Aside0.mk (Kd.R_lower ho9 (below_size (by repeat (first | (with_reducible first | exact HB.out | apply below_alloc | apply pw_below_drewN | apply below_drew1 | refine below_set ?_ GE115.out) | exact HB.out)))); have n1_ := Aside0.mk (blk_below (g := gb115) (o := .cells #[.slice none 0 0, .slice none 0 0] 28 (0, 0)) (by (with_reducible repeat (first | refine blk_drewN ?_ _ | refine blk_drew ?_ | refine blk_alloc ?_ _)); exact BK115.out) hb); have n2_ := Aside0.mk (below_step (by repeat (first | (with_reducible first | exact HB.out | apply below_alloc | apply pw_below_drewN | apply below_drew1 | refine below_set ?_ GE115.out) | exact HB.out)) hb); clear BK115; clear HB; have HO119 := n0_; have BK115 := n1_; have HB := n2_; clear n0_ n1_ n2_; clear hb ho9; obtain ⟨Ao10, co10, eo10⟩ := Kd.R_slice HO119.out; subst eo10) | ((with_reducible refine gate_dst (N := 5) rfl ?_); refine box_event ?hg (N := 5) ?hd (cs := #[.slice none 0 0, .slice none 0 0]) (t := 28) ?hr ?_; (case hd => rfl); (case hg => rfl); (case hr => first | (go_simp; done) | (go_simp; rfl)); intro gb120 hg w11 hbox hb; have n0_ := Aside0.mk (Kd.R_below (by (with_reducible repeat (first | apply Kd.R_alloc | apply Kd.R_drewN | apply Kd.R_drew)); exact HO119.out) hb); have n1_ := Aside0.mk (blk_below (g := gb115) (o := .cells #[.slice none 0 0, .slice none 0 0] 28 (0, 0)) (by (with_reducible repeat (first | refine blk_drewN ?_ _ | refine blk_drew ?_ | refine blk_alloc ?_ _)); exact BK115.out) hb); have n2_ := Aside0.mk (below_step (by repeat (first | (with_reducible first | exact HB.out | apply below_alloc | apply pw_below_drewN | apply below_drew1 | refine below_set ?_ GE115.out) | exact HB.out)) hb); have n3_ := Aside0.mk (hbox); have n4_ := Aside0.mk ((by rw [hg]; exact (below_size (by repeat (first | (with_reducible first | exact HB.out | apply below_alloc | apply pw_below_drewN | apply below_drew1 | refine below_set ?_ GE115.out) | exact HB.out))) : w.heap.size ≤ gb120)); have n5_ := Aside0.mk ((by rw [hg]; exact (below_size (by repeat (first | (with_reducible first | exact HB.out | apply below_alloc | apply pw_below_drewN | apply below_drew1 | refine below_set ?_ GE115.out) | exact HB.out))) : w.heap.size ≤ gb120)); have n6_ := Aside0.mk ((by rw [hg]; exact Nat.ne_of_lt (blk_lt (g := gb115) (o := .cells #[.slice none 0 0, .slice none 0 0] 28 (0, 0)) (by (with_reducible repeat (first | refine blk_drewN ?_ _ | refine blk_drew ?_ | refine blk_alloc ?_ _)); exact BK115.out)) : gb115 ≠ gb120)); have n7_ := Aside0.mk ((by rw [hg]; exact Nat.ne_of_gt (blk_lt (g := gb115) (o := .cells #[.slice none 0 0, .slice none 0 0] 28 (0, 0)) (by (with_reducible repeat (first | refine blk_drewN ?_ _ | refine blk_drew ?_ | refine blk_alloc ?_ _)); exact BK115.out)) : gb120 ≠ gb115)); clear HO119; clear BK115; clear HB; have HO119 := n0_; have BK115 := n1_; have HB := n2_; have BK120 := n3_; have GW120 := n4_; have GE120 := n5_; have NB115_120 := n6_; have NB120_115 := n7_; clear n0_ n1_ n2_ n3_ n4_ n5_ n6_ n7_; clear hb hbox hg; have hnb12 := NB120_115.out; have hnc12 := NB115_120.out; have hcz13_0 : w11.cell? ⟨gb120, 0, none⟩ = some (.slice none 0 0) := (blk_cell BK120.out 0).trans rfl; have hcz13_1 : w11.cell? ⟨gb120, 1, none⟩ = some (.slice none 0 0) := (blk_cell BK120.out 1).trans rfl; have hfz13_0 := blk_frozen BK120.out 0; have hfz13_1 := blk_frozen BK120.out 1))
        go_loopg [20] k (fun kq v20 w' => ∃ (x20_1 : Int) (x121000_1 : List Int) (u121000 : Value), v20 = .int .i64 x20_1 ∧ Aside0 (tags_New.l0 kq l0 (l0.length : Int) x20_1 x121000_1 y117 = some (r1, r2, r3)) ∧ Aside0 (kq ≤ k) ∧ Aside0 (Kd.R (Kd.int .i64) 3 w' w.heap.size (fun _ => True) u121000 x121000_1) ∧ Aside0 (Kd.R Kd.bool 4 w' w.heap.size (fun _ => True) (.slice Ao10 y117.length co10) y117) ∧ Aside0 (w'.heap[gb115]? = some (.cells #[(.slice none 0 0), (.slice none 0 0)] 28 (0, 0))) ∧ Aside0 (w'.heap[gb120]? = some (.cells #[u121000, (.slice Ao10 y117.length co10)] 28 (0, 0))) ∧ Aside0 (Below w.heap.size w w'))
        case atStart => exact ⟨(0), (([] : List Int)), (.slice none 0 0), (by first | rfl | (simp; done) | (simp [*]; done)), H', ⟨Nat.le_refl _⟩, ⟨by first | exact Kd.R_nil _ _ _ _ _ | exact Kd.N_nil _ _ _ _ _ | exact Kd.V_nil _ _ _ _ _ | exact Kd.Q_nil _ _ _ _ _ | exact Kd.S_nil _ _ _ _ _⟩, ⟨by (with_reducible repeat (first | apply Kd.R_alloc | apply Kd.R_drewN | apply Kd.R_drew)); exact Kd.R_mono (Kd.R_far (p := ⟨gb120, 1, none⟩) (Kd.R_far (p := ⟨gb120, 0, none⟩) (Kd.R_types HO119.out BK120.out (by decide)) (fun _ hk => hk.2) (.slice none 0 0)) (fun _ hk => hk.2) (.slice Ao10 y117.length co10)) (fun _ hk => trivial)⟩, ⟨by (with_reducible repeat (first | refine blk_drewN ?_ _ | refine blk_drew ?_ | refine blk_alloc ?_ _)); refine blk_far ?_ NB115_120.out _; (with_reducible repeat (first | refine blk_drewN ?_ _ | refine blk_drew ?_ | refine blk_alloc ?_ _)); refine blk_far ?_ NB115_120.out _; (with_reducible repeat (first | refine blk_drewN ?_ _ | refine blk_drew ?_ | refine blk_alloc ?_ _)); exact BK115.out⟩, ⟨by (with_reducible repeat (first | refine blk_drewN ?_ _ | refine blk_drew ?_ | refine blk_alloc ?_ _)); refine blk_put (cs := #[.slice none 0 0, .slice none 0 0]) ?_ 1 _ rfl; (with_reducible repeat (first | refine blk_drewN ?_ _ | refine blk_drew ?_ | refine blk_alloc ?_ _)); refine blk_put (cs := #[.slice none 0 0, .slice none 0 0]) ?_ 0 _ rfl; (with_reducible repeat (first | refine blk_drewN ?_ _ | refine blk_drew ?_ | refine blk_alloc ?_ _)); exact BK120.out⟩, ⟨by repeat (first | (with_reducible first | exact HB.out | apply below_alloc | apply pw_below_drewN | apply below_drew1 | refine below_set ?_ GE115.out | refine below_set ?_ GE120.out) | exact HB.out)⟩⟩
        case round =>
          clear H'
          try clear c1
          try clear p2
          try clear c3
          try clear c3b0
          try clear c3b1
          try clear c4
          try clear c4b0
          try clear c4b1
          try clear c5
          try clear c5b0
          try clear c5b1
          try clear c11
          try clear c12
          try clear hcz13_0
          try clear hcz13_1
          try clear hfz13_0
          try clear hfz13_1
          obtain ⟨x20_1, x121000_1, u121000, rfl, HA, HK1, HO_121000, HO_121001, BK115, BK120, HB⟩ := hrel
          cases gk with
          | zero => exact absurd HA.out (by simp [tags_New.l0])
          | succ k1 =>
            have H := HA.out
            clear HA
            simp only [tags_New.l0] at H
            by_cases c14 : x20_1 < (l0.length : Int)
            · rw [if_pos c14] at H
              have c14b0 : decide (x20_1 < (l0.length : Int)) = true := decide_eq_true c14
              clear c14
              by_cases c15 : 0 ≤ x20_1
              · rw [if_pos c15] at H
                have c15b0 : decide (0 ≤ x20_1) = true := decide_eq_true c15
                clear c15
                by_cases c16 : x20_1 < (l0.length : Int)
                · rw [if_pos c16] at H
                  have c16b0 : decide (x20_1 < (l0.length : Int)) = true := decide_eq_true c16
                  clear c16
                  replace H := Option.bind_eq_some_iff.mp H
                  obtain ⟨t123, A170, H⟩ := H
                  replace H : (if x121000_1.length < 17592186044416 then (tags_New.l0 k1 l0 (l0.length : Int) (wrap64 (x20_1 + 1)) (x121000_1 ++ [t123]) y117) else (none)) = some (r1, r2, r3) := H
                  have A17 := Aside0.mk A170
                  clear A170
                  by_cases c18 : x121000_1.length < 17592186044416
                  · rw [if_pos c18] at H
                    have LMc18 := Aside0.mk c18
                    clear c18
                    obtain ⟨y124, hy124⟩ : ∃ y_ : List Int, y_ = (x121000_1 ++ [t123]) := ⟨_, rfl⟩
                    replace H : (tags_New.l0 k1 l0 (l0.length : Int) (wrap64 (x20_1 + 1)) y124 y117) = some (r1, r2, r3) := by first | (rw [hy124]; with_reducible exact H) | (have H2_ := (Option.bind_some _ _).symm.trans H; rw [hy124]; with_reducible exact H2_) | (have H2_ := (Option.bind_some _ _).symm.trans H; with_reducible exact H2_) | with_reducible exact H | (rw [hy124]; exact H) | exact H
                    have Ny124 := Aside0.mk hy124
                    clear hy124
                    have H' := Aside0.mk H
                    clear H
                    have p121 : 0 ≤ (x20_1 : Int) := of_decide_eq_true (by first | (with_reducible assumption) | assumption)
                    have q121 : x20_1 < (l0.length : Int) := of_decide_eq_true (by first | (with_reducible assumption) | assumption)
                    obtain ⟨ad121, e121, hx121_0, hx121_1, hx121_2, hx121_3⟩ := at_T48 HR0.out x20_1 p121 q121
                    cases e121
                    replace hx121_0 := (HB.out.cell (World.block_lt_of_cell? w _ hx121_0)).trans hx121_0
                    replace hx121_1 := (HB.out.cell (World.block_lt_of_cell? w _ hx121_1)).trans hx121_1
                    replace hx121_2 := (HB.out.cell (World.block_lt_of_cell? w _ hx121_2)).trans hx121_2
                    replace hx121_3 := (HB.out.cell (World.block_lt_of_cell? w _ hx121_3)).trans hx121_3
                    replace p121 := eq_true p121
                    replace q121 := eq_true q121
                    try go_wp2_with (first | ((with_reducible refine gate_dst (N := 7) rfl ?_); refine box_event ?hg (N := 7) ?hd (cs := #[.string (⟨#[]⟩ : ByteArray), .bool false, .int .i64 0, .int .i64 0]) (t := 48) ?hr ?_; (case hd => rfl); (case hg => rfl); (case hr => first | (go_simp; done) | (go_simp; rfl)); intro gb122 hg w19 hbox hb; have n0_ := Aside0.mk (Kd.R_below (by (with_reducible repeat (first | apply Kd.R_alloc | apply Kd.R_drewN | apply Kd.R_drew)); exact HO_121000.out) hb); have n1_ := Aside0.mk (Kd.R_below (by (with_reducible repeat (first | apply Kd.R_alloc | apply Kd.R_drewN | apply Kd.R_drew)); exact HO_121001.out) hb); have n2_ := Aside0.mk (blk_below (g := gb115) (o := .cells #[.slice none 0 0, .slice none 0 0] 28 (0, 0)) (by (with_reducible repeat (first | refine blk_drewN ?_ _ | refine blk_drew ?_ | refine blk_alloc ?_ _)); exact BK115.out) hb); have n3_ := Aside0.mk (blk_below (g := gb120) (o := .cells #[u121000, .slice Ao10 y117.length co10] 28 (0, 0)) (by (with_reducible repeat (first | refine blk_drewN ?_ _ | refine blk_drew ?_ | refine blk_alloc ?_ _)); exact BK120.out) hb); have n4_ := Aside0.mk (below_step (by repeat (first | (with_reducible first | exact HB.out | apply below_alloc | apply pw_below_drewN | apply below_drew1 | refine below_set ?_ GE115.out | refine below_set ?_ GE120.out) | exact HB.out)) hb); have n5_ := Aside0.mk (hbox); have n6_ := Aside0.mk ((by rw [hg]; exact (below_size (by repeat (first | (with_reducible first | exact HB.out | apply below_alloc | apply pw_below_drewN | apply below_drew1 | refine below_set ?_ GE115.out | refine below_set ?_ GE120.out) | exact HB.out))) : w.heap.size ≤ gb122)); have n7_ := Aside0.mk ((by rw [hg]; exact (below_size (by repeat (first | (with_reducible first | exact HB.out | apply below_alloc | apply pw_below_drewN | apply below_drew1 | refine below_set ?_ GE115.out | refine below_set ?_ GE120.out) | exact HB.out))) : w.heap.size ≤ gb122)); have n8_ := Aside0.mk ((by rw [hg]; exact Nat.ne_of_lt (blk_lt (g := gb115) (o := .cells #[.slice none 0 0, .slice none 0 0] 28 (0, 0)) (by (with_reducible repeat (first | refine blk_drewN ?_ _ | refine blk_drew ?_ | refine blk_alloc ?_ _)); exact BK115.out)) : gb115 ≠ gb122)); have n9_ := Aside0.mk ((by rw [hg]; exact Nat.ne_of_gt (blk_lt (g := gb115) (o := .cells #[.slice none 0 0, .slice none 0 0] 28 (0, 0)) (by (with_reducible repeat (first | refine blk_drewN ?_ _ | refine blk_drew ?_ | refine blk_alloc ?_ _)); exact BK115.out)) : gb122 ≠ gb115)); have n10_ := Aside0.mk ((by rw [hg]; exact Nat.ne_of_lt (blk_lt (g := gb120) (o := .cells #[u121000, .slice Ao10 y117.length co10] 28 (0, 0)) (by (with_reducible repeat (first | refine blk_drewN ?_ _ | refine blk_drew ?_ | refine blk_alloc ?_ _)); exact BK120.out)) : gb120 ≠ gb122)); have n11_ := Aside0.mk ((by rw [hg]; exact Nat.ne_of_gt (blk_lt (g := gb120) (o := .cells #[u121000, .slice Ao10 y117.length co10] 28 (0, 0)) (by (with_reducible repeat (first | refine blk_drewN ?_ _ | refine blk_drew ?_ | refine blk_alloc ?_ _)); exact BK120.out)) : gb122 ≠ gb120)); clear HO_121000; clear HO_121001; clear BK115; clear BK120; clear HB; have HO_121000 := n0_; have HO_121001 := n1_; have BK115 := n2_; have BK120 := n3_; have HB := n4_; have BK122 := n5_; have GW122 := n6_; have GE122 := n7_; have NB115_122 := n8_; have NB122_115 := n9_; have NB120_122 := n10_; have NB122_120 := n11_; clear n0_ n1_ n2_ n3_ n4_ n5_ n6_ n7_ n8_ n9_ n10_ n11_; clear hb hbox hg; have hnb20 := NB122_115.out; have hnc20 := NB115_122.out; have hnb21 := NB122_120.out; have hnc21 := NB120_122.out; have hcz22_0 : w19.cell? ⟨gb122, 0, none⟩ = some (.string (⟨#[]⟩ : ByteArray)) := (blk_cell BK122.out 0).trans rfl; have hcz22_1 : w19.cell? ⟨gb122, 1, none⟩ = some (.bool false) := (blk_cell BK122.out 1).trans rfl; have hcz22_2 : w19.cell? ⟨gb122, 2, none⟩ = some (.int .i64 0) := (blk_cell BK122.out 2).trans rfl; have hcz22_3 : w19.cell? ⟨gb122, 3, none⟩ = some (.int .i64 0) := (blk_cell BK122.out 3).trans rfl; have hfz22_0 := blk_frozen BK122.out 0; have hfz22_1 := blk_frozen BK122.out 1; have hfz22_2 := blk_frozen BK122.out 2; have hfz22_3 := blk_frozen BK122.out 3))
                    have n0_ : Aside0 (Kd.R (Kd.int .i64) 3 ((((w19.setCell ⟨gb122, 0, none⟩ (.string ((rd_T48 l0 x20_1).f0))).setCell ⟨gb122, 1, none⟩ (.bool ((rd_T48 l0 x20_1).f1))).setCell ⟨gb122, 2, none⟩ (.int .i64 ((rd_T48 l0 x20_1).f2))).setCell ⟨gb122, 3, none⟩ (.int .i64 ((rd_T48 l0 x20_1).f3))) w.heap.size (fun _ => True) u121000 x121000_1) := ⟨by (with_reducible repeat (first | apply Kd.R_alloc | apply Kd.R_drewN | apply Kd.R_drew)); exact Kd.R_mono (Kd.R_far (p := ⟨gb122, 3, none⟩) (Kd.R_far (p := ⟨gb122, 2, none⟩) (Kd.R_far (p := ⟨gb122, 1, none⟩) (Kd.R_far (p := ⟨gb122, 0, none⟩) (Kd.R_types HO_121000.out BK122.out (by decide)) (fun _ hk => hk.2) (.string ((rd_T48 l0 x20_1).f0))) (fun _ hk => hk.2) (.bool ((rd_T48 l0 x20_1).f1))) (fun _ hk => hk.2) (.int .i64 ((rd_T48 l0 x20_1).f2))) (fun _ hk => hk.2) (.int .i64 ((rd_T48 l0 x20_1).f3))) (fun _ hk => trivial)⟩
                    have n1_ : Aside0 (Kd.R Kd.bool 4 ((((w19.setCell ⟨gb122, 0, none⟩ (.string ((rd_T48 l0 x20_1).f0))).setCell ⟨gb122, 1, none⟩ (.bool ((rd_T48 l0 x20_1).f1))).setCell ⟨gb122, 2, none⟩ (.int .i64 ((rd_T48 l0 x20_1).f2))).setCell ⟨gb122, 3, none⟩ (.int .i64 ((rd_T48 l0 x20_1).f3))) w.heap.size (fun _ => True) (.slice Ao10 y117.length co10) y117) := ⟨by (with_reducible repeat (first | apply Kd.R_alloc | apply Kd.R_drewN | apply Kd.R_drew)); exact Kd.R_mono (Kd.R_far (p := ⟨gb122, 3, none⟩) (Kd.R_far (p := ⟨gb122, 2, none⟩) (Kd.R_far (p := ⟨gb122, 1, none⟩) (Kd.R_far (p := ⟨gb122, 0, none⟩) (Kd.R_types HO_121001.out BK122.out (by decide)) (fun _ hk => hk.2) (.string ((rd_T48 l0 x20_1).f0))) (fun _ hk => hk.2) (.bool ((rd_T48 l0 x20_1).f1))) (fun _ hk => hk.2) (.int .i64 ((rd_T48 l0 x20_1).f2))) (fun _ hk => hk.2) (.int .i64 ((rd_T48 l0 x20_1).f3))) (fun _ hk => trivial)⟩
                    have n2_ : Aside0 (((((w19.setCell ⟨gb122, 0, none⟩ (.string ((rd_T48 l0 x20_1).f0))).setCell ⟨gb122, 1, none⟩ (.bool ((rd_T48 l0 x20_1).f1))).setCell ⟨gb122, 2, none⟩ (.int .i64 ((rd_T48 l0 x20_1).f2))).setCell ⟨gb122, 3, none⟩ (.int .i64 ((rd_T48 l0 x20_1).f3))).heap[gb115]? = some (.cells #[.slice none 0 0, .slice none 0 0] 28 (0, 0))) := ⟨by (with_reducible repeat (first | refine blk_drewN ?_ _ | refine blk_drew ?_ | refine blk_alloc ?_ _)); refine blk_far ?_ NB115_122.out _; (with_reducible repeat (first | refine blk_drewN ?_ _ | refine blk_drew ?_ | refine blk_alloc ?_ _)); refine blk_far ?_ NB115_122.out _; (with_reducible repeat (first | refine blk_drewN ?_ _ | refine blk_drew ?_ | refine blk_alloc ?_ _)); refine blk_far ?_ NB115_122.out _; (with_reducible repeat (first | refine blk_drewN ?_ _ | refine blk_drew ?_ | refine blk_alloc ?_ _)); refine blk_far ?_ NB115_122.out _; (with_reducible repeat (first | refine blk_drewN ?_ _ | refine blk_drew ?_ | refine blk_alloc ?_ _)); exact BK115.out⟩
                    have n3_ : Aside0 (((((w19.setCell ⟨gb122, 0, none⟩ (.string ((rd_T48 l0 x20_1).f0))).setCell ⟨gb122, 1, none⟩ (.bool ((rd_T48 l0 x20_1).f1))).setCell ⟨gb122, 2, none⟩ (.int .i64 ((rd_T48 l0 x20_1).f2))).setCell ⟨gb122, 3, none⟩ (.int .i64 ((rd_T48 l0 x20_1).f3))).heap[gb120]? = some (.cells #[u121000, .slice Ao10 y117.length co10] 28 (0, 0))) := ⟨by (with_reducible repeat (first | refine blk_drewN ?_ _ | refine blk_drew ?_ | refine blk_alloc ?_ _)); refine blk_far ?_ NB120_122.out _; (with_reducible repeat (first | refine blk_drewN ?_ _ | refine blk_drew ?_ | refine blk_alloc ?_ _)); refine blk_far ?_ NB120_122.out _; (with_reducible repeat (first | refine blk_drewN ?_ _ | refine blk_drew ?_ | refine blk_alloc ?_ _)); refine blk_far ?_ NB120_122.out _; (with_reducible repeat (first | refine blk_drewN ?_ _ | refine blk_drew ?_ | refine blk_alloc ?_ _)); refine blk_far ?_ NB120_122.out _; (with_reducible repeat (first | refine blk_drewN ?_ _ | refine blk_drew ?_ | refine blk_alloc ?_ _)); exact BK120.out⟩
                    have n4_ : Aside0 (((((w19.setCell ⟨gb122, 0, none⟩ (.string ((rd_T48 l0 x20_1).f0))).setCell ⟨gb122, 1, none⟩ (.bool ((rd_T48 l0 x20_1).f1))).setCell ⟨gb122, 2, none⟩ (.int .i64 ((rd_T48 l0 x20_1).f2))).setCell ⟨gb122, 3, none⟩ (.int .i64 ((rd_T48 l0 x20_1).f3))).heap[gb122]? = some (.cells #[.string ((rd_T48 l0 x20_1).f0), .bool ((rd_T48 l0 x20_1).f1), .int .i64 ((rd_T48 l0 x20_1).f2), .int .i64 ((rd_T48 l0 x20_1).f3)] 48 (0, 0))) := ⟨by (with_reducible repeat (first | refine blk_drewN ?_ _ | refine blk_drew ?_ | refine blk_alloc ?_ _)); refine blk_put (cs := #[.string ((rd_T48 l0 x20_1).f0), .bool ((rd_T48 l0 x20_1).f1), .int .i64 ((rd_T48 l0 x20_1).f2), .int .i64 0]) ?_ 3 _ rfl; (with_reducible repeat (first | refine blk_drewN ?_ _ | refine blk_drew ?_ | refine blk_alloc ?_ _)); refine blk_put (cs := #[.string ((rd_T48 l0 x20_1).f0), .bool ((rd_T48 l0 x20_1).f1), .int .i64 0, .int .i64 0]) ?_ 2 _ rfl; (with_reducible repeat (first | refine blk_drewN ?_ _ | refine blk_drew ?_ | refine blk_alloc ?_ _)); refine blk_put (cs := #[.string ((rd_T48 l0 x20_1).f0), .bool false, .int .i64 0, .int .i64 0]) ?_ 1 _ rfl; (with_reducible repeat (first | refine blk_drewN ?_ _ | refine blk_drew ?_ | refine blk_alloc ?_ _)); refine blk_put (cs := #[.string (⟨#[]⟩ : ByteArray), .bool false, .int .i64 0, .int .i64 0]) ?_ 0 _ rfl; (with_reducible repeat (first | refine blk_drewN ?_ _ | refine blk_drew ?_ | refine blk_alloc ?_ _)); exact BK122.out⟩
                    have n5_ : Aside0 (Below w.heap.size w ((((w19.setCell ⟨gb122, 0, none⟩ (.string ((rd_T48 l0 x20_1).f0))).setCell ⟨gb122, 1, none⟩ (.bool ((rd_T48 l0 x20_1).f1))).setCell ⟨gb122, 2, none⟩ (.int .i64 ((rd_T48 l0 x20_1).f2))).setCell ⟨gb122, 3, none⟩ (.int .i64 ((rd_T48 l0 x20_1).f3)))) := ⟨by repeat (first | (with_reducible first | exact HB.out | apply below_alloc | apply pw_below_drewN | apply below_drew1 | refine below_set ?_ GE115.out | refine below_set ?_ GE120.out | refine below_set ?_ GE122.out) | exact HB.out)⟩
                    (try clear HO_121000)
                    (try clear HO_121001)
                    (try clear BK115)
                    (try clear BK120)
                    (try clear BK122)
                    (try clear HB)
                    generalize ((((w19.setCell ⟨gb122, 0, none⟩ (.string ((rd_T48 l0 x20_1).f0))).setCell ⟨gb122, 1, none⟩ (.bool ((rd_T48 l0 x20_1).f1))).setCell ⟨gb122, 2, none⟩ (.int .i64 ((rd_T48 l0 x20_1).f2))).setCell ⟨gb122, 3, none⟩ (.int .i64 ((rd_T48 l0 x20_1).f3))) = w23 at n0_ n1_ n2_ n3_ n4_ n5_ ⊢
                    have HO_121000 := n0_
                    have HO_121001 := n1_
                    have BK115 := n2_
                    have BK120 := n3_
                    have BK122 := n4_
                    have HB := n5_
                    clear n0_ n1_ n2_ n3_ n4_ n5_
                    have n0_ := Aside0.mk (Kd.R_drew HO_121000.out)
                    have n1_ := Aside0.mk (Kd.R_drew HO_121001.out)
                    have n2_ := Aside0.mk (blk_drew BK115.out)
                    have n3_ := Aside0.mk (blk_drew BK120.out)
                    have n4_ := Aside0.mk (blk_drew BK122.out)
                    have n5_ := Aside0.mk (below_drew1 HB.out)
                    clear HO_121000
                    clear HO_121001
                    clear BK115
                    clear BK120
                    clear BK122
                    clear HB
                    have HO_121000 := n0_
                    have HO_121001 := n1_
                    have BK115 := n2_
                    have BK120 := n3_
                    have BK122 := n4_
                    have HB := n5_
                    clear n0_ n1_ n2_ n3_ n4_ n5_
                    refine start_ (n := 8) (S := fun w' => w'.cell? ⟨gb120, 0, none⟩ = some (u121000) ∧ w'.cell? ⟨gb120, 1, none⟩ = some (.slice Ao10 y117.length co10) ∧ w'.cell? ⟨gb122, 0, none⟩ = some (.string ((rd_T48 l0 x20_1).f0)) ∧ w'.cell? ⟨gb122, 1, none⟩ = some (.bool ((rd_T48 l0 x20_1).f1)) ∧ w'.cell? ⟨gb122, 2, none⟩ = some (.int .i64 ((rd_T48 l0 x20_1).f2)) ∧ w'.cell? ⟨gb122, 3, none⟩ = some (.int .i64 ((rd_T48 l0 x20_1).f3))) (ds := [7]) #[false, false, false, false, false, false, false, false] (by kernel_rfl) rfl rfl ⟨(blk_cell BK120.out 0).trans rfl, (blk_cell BK120.out 1).trans rfl, (blk_cell BK122.out 0).trans rfl, (blk_cell BK122.out 1).trans rfl, (blk_cell BK122.out 2).trans rfl, (blk_cell BK122.out 3).trans rfl⟩ (fun hHeld => ?_); refine with_tabW tags_New.tab8 tags_New.bits8 (fun HT_ HW_ => ?_)
                    generalize w23.drew = w24 at HO_121000 HO_121001 BK115 BK120 BK122 HB hHeld ⊢
                    refine pure_ (i := 0) (N := some 24) (v := ?_) (a' := ?_) #[true, false, false, false, false, false, false, false] rfl rfl (any_of HT_.out (by kernel_rfl)) (fun _ _ _ h => h) (Or.inl ⟨by rfl, ?_⟩) ?_ ?_
                    rotate_left
                    · intro w'
                      go_simp
                      with_reducible rfl
                    rotate_left
                    · simp only [Act.put, List.setIfInBounds_toArray, List.set_cons_zero, List.set_cons_succ, i64_w, i32_w]
                      rfl
                    refine take_ (i := 1) (N := some 25) (v := ?_) (a' := ?_) #[true, true, false, false, false, false, false, false] rfl rfl (take_ofW HT_.out HW_.out (by kernel_rfl)) (fun _ _ _ h => h) (Or.inl ⟨by rfl, ?_⟩) hHeld ?_ ?_
                    rotate_left
                    · rintro w' ⟨s0, s1, s2, s3, s4, s5⟩
                      go_simp
                      with_reducible rfl
                    rotate_left
                    · simp only [Act.put, List.setIfInBounds_toArray, List.set_cons_zero, List.set_cons_succ, i64_w, i32_w]
                      rfl
                    refine take_ (i := 2) (N := some 26) (v := ?_) (a' := ?_) #[true, true, true, false, false, false, false, false] rfl rfl (take_ofW HT_.out HW_.out (by kernel_rfl)) (fun _ _ _ h => h) (Or.inl ⟨by rfl, ?_⟩) hHeld ?_ ?_
                    rotate_left
                    · rintro w' ⟨s0, s1, s2, s3, s4, s5⟩
                      go_simp
                      with_reducible rfl
                    rotate_left
                    · simp only [Act.put, List.setIfInBounds_toArray, List.set_cons_zero, List.set_cons_succ, i64_w, i32_w]
                      rfl
                    refine one_ (i := 3) (N := some 27) #[true, true, true, true, false, false, false, false] rfl rfl (one_of HT_.out (by kernel_rfl)) (by decide) (fun K hK => ?_)
                    refine goes_ Tryd.func30 (by kernel_rfl) rfl #[.agg #[.string ((rd_T48 l0 x20_1).f0), .bool ((rd_T48 l0 x20_1).f1), .int .i64 ((rd_T48 l0 x20_1).f2), .int .i64 ((rd_T48 l0 x20_1).f3)], .int .i64 0] (by rfl) rfl rfl (by (try simp only [List.map_toArray, List.map_cons, List.map_nil]); first | done | rfl | (simp only [List.length_drop, List.length_take]; rfl)) ?_
                    with_reducible refine (tags_within.calls ((rd_T48 l0 x20_1).f0) ((rd_T48 l0 x20_1).f1) ((rd_T48 l0 x20_1).f2) ((rd_T48 l0 x20_1).f3) 0 t123 _ A17.out).mono ?_
                    rintro e w25 ⟨rfl, hb⟩
                    refine ⟨_, rfl, ?_⟩
                    have n0_ := Aside0.mk (Kd.R_below (by (with_reducible repeat (first | apply Kd.R_alloc | apply Kd.R_drewN | apply Kd.R_drew)); exact HO_121000.out) hb)
                    have n1_ := Aside0.mk (Kd.R_below (by (with_reducible repeat (first | apply Kd.R_alloc | apply Kd.R_drewN | apply Kd.R_drew)); exact HO_121001.out) hb)
                    have n2_ := Aside0.mk (blk_below (g := gb115) (o := .cells #[.slice none 0 0, .slice none 0 0] 28 (0, 0)) (by (with_reducible repeat (first | refine blk_drewN ?_ _ | refine blk_drew ?_ | refine blk_alloc ?_ _)); exact BK115.out) hb)
                    have n3_ := Aside0.mk (blk_below (g := gb120) (o := .cells #[u121000, .slice Ao10 y117.length co10] 28 (0, 0)) (by (with_reducible repeat (first | refine blk_drewN ?_ _ | refine blk_drew ?_ | refine blk_alloc ?_ _)); exact BK120.out) hb)
                    have n4_ := Aside0.mk (blk_below (g := gb122) (o := .cells #[.string ((rd_T48 l0 x20_1).f0), .bool ((rd_T48 l0 x20_1).f1), .int .i64 ((rd_T48 l0 x20_1).f2), .int .i64 ((rd_T48 l0 x20_1).f3)] 48 (0, 0)) (by (with_reducible repeat (first | refine blk_drewN ?_ _ | refine blk_drew ?_ | refine blk_alloc ?_ _)); exact BK122.out) hb)
                    have n5_ := Aside0.mk (below_step (by repeat (first | (with_reducible first | exact HB.out | apply below_alloc | apply pw_below_drewN | apply below_drew1 | refine below_set ?_ GE115.out | refine below_set ?_ GE120.out | refine below_set ?_ GE122.out) | exact HB.out)) hb)
                    clear HO_121000
                    clear HO_121001
                    clear BK115
                    clear BK120
                    clear BK122
                    clear HB
                    have HO_121000 := n0_
                    have HO_121001 := n1_
                    have BK115 := n2_
                    have BK120 := n3_
                    have BK122 := n4_
                    have HB := n5_
                    clear n0_ n1_ n2_ n3_ n4_ n5_
                    (try clear hb)
                    (try clear hb2)
                    (try clear hk)
                    (try clear hi)
                    refine hK.out _ _ ⟨(blk_cell BK120.out 0).trans rfl, (blk_cell BK120.out 1).trans rfl, (blk_cell BK122.out 0).trans rfl, (blk_cell BK122.out 1).trans rfl, (blk_cell BK122.out 2).trans rfl, (blk_cell BK122.out 3).trans rfl⟩ (fun hHeld => ?_)
                    clear hK K
                    refine norm_ (a' := ?_) ?_ ?_
                    rotate_left
                    · show Act.put _ (some 27) _ = _
                      simp only [Act.put, List.setIfInBounds_toArray, List.set_cons_zero, List.set_cons_succ, i64_w, i32_w]
                      rfl
                    refine one_ (i := 4) (N := some 28) #[true, true, true, true, true, false, false, false] rfl rfl (one_of HT_.out (by kernel_rfl)) (by decide) (fun K hK => ?_)
                    refine value_ (w1 := ?_) (v := ?_) (by rfl) rfl ?_ ?_
                    rotate_left 2
                    · go_simp
                      constructor
                      · rfl
                      · rfl
                    refine hK.out _ _ ⟨(blk_cell (blk_alloc BK120.out _) 0).trans rfl, (blk_cell (blk_alloc BK120.out _) 1).trans rfl, (blk_cell (blk_alloc BK122.out _) 0).trans rfl, (blk_cell (blk_alloc BK122.out _) 1).trans rfl, (blk_cell (blk_alloc BK122.out _) 2).trans rfl, (blk_cell (blk_alloc BK122.out _) 3).trans rfl⟩ (fun hHeld => ?_)
                    clear hK K
                    refine norm_ (a' := ?_) ?_ ?_
                    rotate_left
                    · show Act.put _ (some 28) _ = _
                      simp only [Act.put, List.setIfInBounds_toArray, List.set_cons_zero, List.set_cons_succ, i64_w, i32_w]
                      rfl
                    refine one_ (i := 5) (N := some 29) #[true, true, true, true, true, true, false, false] rfl rfl (one_of HT_.out (by kernel_rfl)) (by decide) (fun K hK => ?_)
                    refine Kd.R_append_step (Kd.int .i64) (w0 := w) w.heap.size (by rfl) (.tmp 25) (.tmp 28) 25 3 (.int .i64 0) 8 rfl Tryd.underlying25 info3 rfl (by decide) (by omega) u121000 x121000_1 t123 [.int .i64 t123] (fun _ => True) (fun _ => False) rfl rfl ?aP (fun _ hk => hk.elim) ?aF ?aO ?aB ?aS ?aL ?_
                    (case aP => exact rfl)
                    (case aB => exact (by repeat (first | (with_reducible first | exact HB.out | apply below_alloc | apply pw_below_drewN | apply below_drew1 | refine below_set ?_ GE115.out | refine below_set ?_ GE120.out | refine below_set ?_ GE122.out) | exact HB.out)))
                    (case aF => exact (fun _ _ => trivial))
                    (case aO => exact (by (with_reducible repeat (first | apply Kd.R_alloc | apply Kd.R_drewN | apply Kd.R_drew)); exact HO_121000.out))
                    (case aS => exact (below_size (by repeat (first | (with_reducible first | exact HB.out | apply below_alloc | apply pw_below_drewN | apply below_drew1 | refine below_set ?_ GE115.out | refine below_set ?_ GE120.out | refine below_set ?_ GE122.out) | exact HB.out))))
                    (case aL => have := LMc18.out; omega)
                    intro v125 w26 ho hb hg hat
                    rw [← Ny124.out] at ho
                    have n0_ := Aside0.mk (Kd.R_over' (by (with_reducible repeat (first | apply Kd.R_alloc | apply Kd.R_drewN | apply Kd.R_drew)); exact HO_121001.out) (Kd.R_typed (by (with_reducible repeat (first | apply Kd.R_alloc | apply Kd.R_drewN | apply Kd.R_drew)); exact HO_121000.out)) (by decide) hg)
                    have n1_ := Aside0.mk (blk_grown (g := gb115) (o := .cells #[.slice none 0 0, .slice none 0 0] 28 (0, 0)) (by (with_reducible repeat (first | refine blk_drewN ?_ _ | refine blk_drew ?_ | refine blk_alloc ?_ _)); exact BK115.out) hg (Kd.R_ne HO_121000.out BK115.out (by decide)))
                    have n2_ := Aside0.mk (blk_grown (g := gb120) (o := .cells #[u121000, .slice Ao10 y117.length co10] 28 (0, 0)) (by (with_reducible repeat (first | refine blk_drewN ?_ _ | refine blk_drew ?_ | refine blk_alloc ?_ _)); exact BK120.out) hg (Kd.R_ne HO_121000.out BK120.out (by decide)))
                    have n3_ := Aside0.mk (blk_grown (g := gb122) (o := .cells #[.string ((rd_T48 l0 x20_1).f0), .bool ((rd_T48 l0 x20_1).f1), .int .i64 ((rd_T48 l0 x20_1).f2), .int .i64 ((rd_T48 l0 x20_1).f3)] 48 (0, 0)) (by (with_reducible repeat (first | refine blk_drewN ?_ _ | refine blk_drew ?_ | refine blk_alloc ?_ _)); exact BK122.out) hg (Kd.R_ne HO_121000.out BK122.out (by decide)))
                    have n4_ := Aside0.mk (hb)
                    have n5_ := Aside0.mk (ho)
                    clear HO_121001
                    clear BK115
                    clear BK120
                    clear BK122
                    clear HB
                    clear HO_121000
                    have HO_121001 := n0_
                    have BK115 := n1_
                    have BK120 := n2_
                    have BK122 := n3_
                    have HB := n4_
                    have HO126 := n5_
                    clear n0_ n1_ n2_ n3_ n4_ n5_
                    clear ho hb hg hat
                    obtain ⟨Ao27, co27, eo27⟩ := Kd.R_slice HO126.out
                    (first | subst eo27 | (injection eo27 with f1_ f2_ f3_; have f4_ := f1_.symm; have f5_ := f3_.symm; clear f1_ f2_ f3_; subst f4_; subst f5_))
                    refine hK.out _ _ ⟨(blk_cell BK120.out 0).trans rfl, (blk_cell BK120.out 1).trans rfl, (blk_cell BK122.out 0).trans rfl, (blk_cell BK122.out 1).trans rfl, (blk_cell BK122.out 2).trans rfl, (blk_cell BK122.out 3).trans rfl⟩ (fun hHeld => ?_)
                    clear hK K
                    refine norm_ (a' := ?_) ?_ ?_
                    rotate_left
                    · show Act.put _ (some 29) _ = _
                      simp only [Act.put, List.setIfInBounds_toArray, List.set_cons_zero, List.set_cons_succ, i64_w, i32_w]
                      rfl
                    refine pure_ (i := 6) (N := some 30) (v := ?_) (a' := ?_) #[true, true, true, true, true, true, true, false] rfl rfl (any_of HT_.out (by kernel_rfl)) (fun _ _ _ h => h) (Or.inl ⟨by rfl, ?_⟩) ?_ ?_
                    rotate_left
                    · intro w'
                      go_simp
                      with_reducible rfl
                    rotate_left
                    · simp only [Act.put, List.setIfInBounds_toArray, List.set_cons_zero, List.set_cons_succ, i64_w, i32_w]
                      rfl
                    refine last_ (i := 7) (N := none) #[true, true, true, true, true, true, true, true] rfl rfl (one_of HT_.out (by kernel_rfl)) (by decide) (fun K hK => ?_)
                    have hs28 : w26.cell? ⟨gb120, 0, none⟩ = some (u121000) := (blk_cell BK120.out 0).trans rfl
                    have hfs28 := blk_frozen BK120.out 0
                    have hns28_0 := NB115_120.out
                    have hns28_2 := NB122_120.out
                    have hms28_0 := NB120_115.out
                    have hms28_2 := NB120_122.out
                    refine skip_ (w1 := ?_) (by rfl) rfl ?_ ?_
                    rotate_left
                    · go_simp
                      rfl
                    refine hK.out _ _ ?_
                    clear hK K
                    refine done_ (done_of HT_.out (by kernel_rfl)) ?_
                    try go_wp2
                    go_roundg k1
                    case measure => have := HK1.out; omega
                    case rel => exact ⟨(wrap64 (x20_1 + 1)), (y124), (.slice Ao27 y124.length co27), (by first | rfl | (simp; done) | (simp [*]; done)), H', ⟨by have := HK1.out; omega⟩, ⟨by (with_reducible repeat (first | apply Kd.R_alloc | apply Kd.R_drewN | apply Kd.R_drew)); exact Kd.R_mono (Kd.R_far (p := ⟨gb120, 0, none⟩) (Kd.R_types HO126.out BK120.out (by decide)) (fun _ hk => hk.2) (.slice Ao27 y124.length co27)) (fun _ hk => trivial)⟩, ⟨by (with_reducible repeat (first | apply Kd.R_alloc | apply Kd.R_drewN | apply Kd.R_drew)); exact Kd.R_mono (Kd.R_far (p := ⟨gb120, 0, none⟩) (Kd.R_types HO_121001.out BK120.out (by decide)) (fun _ hk => hk.2) (.slice Ao27 y124.length co27)) (fun _ hk => trivial)⟩, ⟨by (with_reducible repeat (first | refine blk_drewN ?_ _ | refine blk_drew ?_ | refine blk_alloc ?_ _)); refine blk_far ?_ NB115_120.out _; (with_reducible repeat (first | refine blk_drewN ?_ _ | refine blk_drew ?_ | refine blk_alloc ?_ _)); exact BK115.out⟩, ⟨by (with_reducible repeat (first | refine blk_drewN ?_ _ | refine blk_drew ?_ | refine blk_alloc ?_ _)); refine blk_put (cs := #[u121000, .slice Ao10 y117.length co10]) ?_ 0 _ rfl; (with_reducible repeat (first | refine blk_drewN ?_ _ | refine blk_drew ?_ | refine blk_alloc ?_ _)); exact BK120.out⟩, ⟨by repeat (first | (with_reducible first | exact HB.out | apply below_alloc | apply pw_below_drewN | apply below_drew1 | refine below_set ?_ GE115.out | refine below_set ?_ GE120.out | refine below_set ?_ GE122.out) | exact HB.out)⟩⟩
                  · rw [if_neg c18] at H
                    exact absurd H (by simp)
                · rw [if_neg c16] at H
                  exact absurd H (by simp)
              · rw [if_neg c15] at H
                exact absurd H (by simp)
            · rw [if_neg c14] at H
              have c14b0 : decide (x20_1 < (l0.length : Int)) = false := decide_eq_false c14
              clear c14
              simp only [Option.some.injEq, Prod.mk.injEq] at H
              obtain ⟨rfl, rfl, rfl⟩ := H
              have hnb29 := NB120_115.out
              have hnc29 := NB115_120.out
              have hcz30_0 : wr.cell? ⟨gb120, 0, none⟩ = some (u121000) := (blk_cell BK120.out 0).trans rfl
              have hcz30_1 : wr.cell? ⟨gb120, 1, none⟩ = some (.slice Ao10 y117.length co10) := (blk_cell BK120.out 1).trans rfl
              have hfz30_0 := blk_frozen BK120.out 0
              have hfz30_1 := blk_frozen BK120.out 1
              obtain ⟨Ao31, co31, eo31⟩ := Kd.R_slice HO_121000.out
              subst eo31
              have hcz32_0 : wr.cell? ⟨gb115, 0, none⟩ = some (.slice none 0 0) := (blk_cell BK115.out 0).trans rfl
              have hcz32_1 : wr.cell? ⟨gb115, 1, none⟩ = some (.slice none 0 0) := (blk_cell BK115.out 1).trans rfl
              have hfz32_0 := blk_frozen BK115.out 0
              have hfz32_1 := blk_frozen BK115.out 1
              go_wp2
              refine bodyPost_ret (results_ct rfl _ _ gb115 28 #[.slice Ao31 x121000_1.length co31, .slice Ao10 y117.length co10] (0, 0) _ rfl (by (with_reducible repeat (first | refine blk_drewN ?_ _ | refine blk_drew ?_ | refine blk_alloc ?_ _)); refine blk_put (cs := #[.slice Ao31 x121000_1.length co31, .slice none 0 0]) ?_ 1 _ rfl; (with_reducible repeat (first | refine blk_drewN ?_ _ | refine blk_drew ?_ | refine blk_alloc ?_ _)); refine blk_put (cs := #[.slice none 0 0, .slice none 0 0]) ?_ 0 _ rfl; (with_reducible repeat (first | refine blk_drewN ?_ _ | refine blk_drew ?_ | refine blk_alloc ?_ _)); exact BK115.out) Tryd.underlying28 rfl (by kernel_rfl)) rfl ?_
              exact ⟨_, _, by first | rfl | (simp [errW_none, errW_some] <;> rfl) | (simp [*, errW_none, errW_some] <;> rfl), by (with_reducible repeat (first | apply Kd.R_alloc | apply Kd.R_drewN | apply Kd.R_drew)); exact Kd.R_mono (Kd.R_far (p := ⟨gb115, 1, none⟩) (Kd.R_far (p := ⟨gb115, 0, none⟩) (Kd.R_types HO_121000.out BK115.out (by decide)) (fun _ hk => hk.2) (.slice Ao31 x121000_1.length co31)) (fun _ hk => hk.2) (.slice Ao10 y117.length co10)) (fun _ hk => trivial), by (with_reducible repeat (first | apply Kd.R_alloc | apply Kd.R_drewN | apply Kd.R_drew)); exact Kd.R_mono (Kd.R_far (p := ⟨gb115, 1, none⟩) (Kd.R_far (p := ⟨gb115, 0, none⟩) (Kd.R_types HO_121001.out BK115.out (by decide)) (fun _ hk => hk.2) (.slice Ao31 x121000_1.length co31)) (fun _ hk => hk.2) (.slice Ao10 y117.length co10)) (fun _ hk => trivial), by repeat (first | (with_reducible first | exact HB.out | apply below_alloc | apply pw_below_drewN | apply below_drew1 | refine below_set ?_ GE115.out | refine below_set ?_ GE120.out) | exact HB.out)⟩
      · rw [if_neg c5] at H
        exact absurd H (by simp)
    · rw [if_neg c4] at H
      exact absurd H (by simp)
  · rw [if_neg c3] at H
    have c3b0 : (t116 == 0) = false := beq_eq_false_iff_ne.mpr c3
    have c3b1 : (t116 != 0) = true := bne_iff_ne.mpr c3
    simp only [Option.some.injEq, Prod.mk.injEq] at H
    obtain ⟨rfl, rfl, rfl⟩ := H
    go_enter Tryd.func11, Tryd.ntmps11
    go_wp2_with (first | ((with_reducible refine gate_dst (N := 2) rfl ?_); refine box_event ?hg (N := 2) ?hd (cs := #[.slice none 0 0, .slice none 0 0]) (t := 28) ?hr ?_; (case hd => rfl); (case hg => rfl); (case hr => first | (go_simp; done) | (go_simp; rfl)); intro gb115 hg w33 hbox hb; have n0_ := Aside0.mk (below_step (by repeat (first | (with_reducible first | exact HB.out | apply below_alloc | apply pw_below_drewN | apply below_drew1) | exact HB.out)) hb); have n1_ := Aside0.mk (hbox); have n2_ := Aside0.mk ((by rw [hg]; exact (below_size (by repeat (first | (with_reducible first | exact HB.out | apply below_alloc | apply pw_below_drewN | apply below_drew1) | exact HB.out))) : w.heap.size ≤ gb115)); have n3_ := Aside0.mk ((by rw [hg]; exact (below_size (by repeat (first | (with_reducible first | exact HB.out | apply below_alloc | apply pw_below_drewN | apply below_drew1) | exact HB.out))) : w.heap.size ≤ gb115)); clear HB; have HB := n0_; have BK115 := n1_; have GW115 := n2_; have GE115 := n3_; clear n0_ n1_ n2_ n3_; clear hb hbox hg) | ((with_reducible refine gate_callee (f := 14) rfl ?_); refine goesL_ (some 9) rfl rfl Tryd.func14 (by kernel_rfl) rfl #[.slice A0 l0.length c0] rfl (by (try simp only [List.map_toArray, List.map_cons, List.map_nil]); first | done | rfl | (simp only [List.length_drop, List.length_take]; rfl)) ?_; (with_reducible refine (tags_Check.calls k _ _ l0 t116 _ ?side1 ?side2 ?side3 A2.out).mono ?_); (case side1 => repeat (first | exact (Kd.C_below HR0.out HB.out) | (with_reducible refine Kd.C_alloc ?_ _) | (with_reducible refine Kd.C_drewN ?_ _) | (with_reducible refine Kd.C_drew ?_))); (case side2 => exact HC0.out); (case side3 => exact Tabs.below hT (by repeat (first | (with_reducible first | exact HB.out | apply below_alloc | apply pw_below_drewN | apply below_drew1 | refine below_set ?_ GE115.out) | exact HB.out))); rintro e w34 ⟨rfl, hb⟩; refine ⟨_, rfl, ?_⟩; have n0_ := Aside0.mk (blk_below (g := gb115) (o := .cells #[.slice none 0 0, .slice none 0 0] 28 (0, 0)) (by (with_reducible repeat (first | refine blk_drewN ?_ _ | refine blk_drew ?_ | refine blk_alloc ?_ _)); exact BK115.out) hb); have n1_ := Aside0.mk (below_step (by repeat (first | (with_reducible first | exact HB.out | apply below_alloc | apply pw_below_drewN | apply below_drew1 | refine below_set ?_ GE115.out) | exact HB.out)) hb); clear BK115; clear HB; have BK115 := n0_; have HB := n1_; clear n0_ n1_; (try clear hb); (try clear hb2); (try clear hk); (try clear hi); have hcz35_0 : w34.cell? ⟨gb115, 0, none⟩ = some (.slice none 0 0) := (blk_cell BK115.out 0).trans rfl; have hcz35_1 : w34.cell? ⟨gb115, 1, none⟩ = some (.slice none 0 0) := (blk_cell BK115.out 1).trans rfl; have hfz35_0 := blk_frozen BK115.out 0; have hfz35_1 := blk_frozen BK115.out 1))
    refine bodyPost_ret (results_ct rfl _ _ gb115 28 #[.slice none 0 0, .slice none 0 0] (0, 0) _ rfl (by (with_reducible repeat (first | refine blk_drewN ?_ _ | refine blk_drew ?_ | refine blk_alloc ?_ _)); refine blk_put (cs := #[.slice none 0 0, .slice none 0 0]) ?_ 1 _ rfl; (with_reducible repeat (first | refine blk_drewN ?_ _ | refine blk_drew ?_ | refine blk_alloc ?_ _)); refine blk_put (cs := #[.slice none 0 0, .slice none 0 0]) ?_ 0 _ rfl; (with_reducible repeat (first | refine blk_drewN ?_ _ | refine blk_drew ?_ | refine blk_alloc ?_ _)); exact BK115.out) Tryd.underlying28 rfl (by kernel_rfl)) rfl ?_
    exact ⟨_, _, by first | rfl | (simp [errW_none, errW_some] <;> rfl) | (simp [*, errW_none, errW_some] <;> rfl), by first | exact Kd.R_nil _ _ _ _ _ | exact Kd.N_nil _ _ _ _ _ | exact Kd.V_nil _ _ _ _ _ | exact Kd.Q_nil _ _ _ _ _ | exact Kd.S_nil _ _ _ _ _, by first | exact Kd.R_nil _ _ _ _ _ | exact Kd.N_nil _ _ _ _ _ | exact Kd.V_nil _ _ _ _ _ | exact Kd.Q_nil _ _ _ _ _ | exact Kd.S_nil _ _ _ _ _, by repeat (first | (with_reducible first | exact HB.out | apply below_alloc | apply pw_below_drewN | apply below_drew1 | refine below_set ?_ GE115.out) | exact HB.out)⟩
end Go.Proofs.YtbmdhmmahmdccaaDoor.Print
/-! ### Print4 -/
namespace Go.Proofs.YtbmdhmmahmdccaaDoor.Print
open Go.RowKit Go.Proofs.YtbmdhmmahmdccaaDoorW.PrintWords Go.Proofs.YtbmdhmmahmdccaaDoorW.PrintLast Go.Proofs.YtbmdhmmahmdccaaDoorW.PrintMore
attribute [local go_sem] max2_int min2_int max_two min_two
set_option linter.unusedVariables false
set_option linter.unusedSimpArgs false
def malthouselaw08_small.l0 : Nat → List (S48) → Int → Option (Bool)
  | 0, _, _ => none
  | k + 1, x0, x3 => if x3 < (x0.length : Int) then (if 0 ≤ x3 then (if (((rd_T48 x0 x3).f0).size : Int) > 200 then (some false) else (malthouselaw08_small.l0 k x0 (wrap64 (x3 + 1)))) else (none)) else (some true)
def malthouselaw08_small.f (k : Nat) (l0 : List (S48)) : Option (Bool) := if (l0.length : Int) > 100 then (some false) else (malthouselaw08_small.l0 k l0 0)
set_option maxHeartbeats 8000000 in
set_option maxRecDepth 100000 in
theorem malthouselaw08_small.calls (k : Nat) (A0 : Option Addr) (c0 : Nat) (l0 : List (S48)) (r : Bool) (w : World) (hr0 : Kd.C k48 w A0 l0.length l0) (hc0 : l0.length ≤ c0) (h : malthouselaw08_small.f k l0 = some r) :
    Calls Tryd.prog 10 #[.slice A0 l0.length c0] w fun e w' => e = .returned (.bool r) ∧ Drawn0 w w' := by
  have HR0 := Aside0.mk hr0
  have HC0 := Aside0.mk hc0
  clear hr0 hc0
  have H : (if (l0.length : Int) > 100 then (some false) else (malthouselaw08_small.l0 k l0 0)) = some r := h
  clear h
  by_cases c2 : (l0.length : Int) > 100
  · rw [if_pos c2] at H
    have c2b0 : decide (100 < (l0.length : Int)) = true := decide_eq_true c2
    have c2b1 : decide (100 < l0.length) = true := decide_eq_true (by omega)
    clear c2
    obtain rfl := Option.some.inj H
    go_enter Tryd.func10, Tryd.ntmps10
    go_wp2
    go_ret
    exact ⟨by first | rfl | (simp; done) | (simp [*]; done), by repeat (first | exact Drawn0.refl _ | apply Drawn0.step)⟩
  · rw [if_neg c2] at H
    have c2b0 : decide (100 < (l0.length : Int)) = false := decide_eq_false c2
    have c2b1 : decide (100 < l0.length) = false := decide_eq_false (by omega)
    clear c2
    have H' := Aside0.mk H
    clear H
    go_enter Tryd.func10, Tryd.ntmps10
    go_wp2
    go_loopg [3] k (fun kq v3 w' => ∃ (x3_1 : Int), v3 = .int .i64 x3_1 ∧ Aside0 (malthouselaw08_small.l0 kq l0 x3_1 = some r) ∧ Aside0 (kq ≤ k) ∧ Drawn0 w w')
    case atStart => exact ⟨(0), (by first | rfl | (simp; done) | (simp [*]; done)), H', ⟨Nat.le_refl _⟩, by repeat (first | exact Drawn0.refl _ | apply Drawn0.step)⟩
    case round =>
      clear H'
      try clear c1
      try clear c2
      try clear c2b0
      try clear c2b1
      try clear p2
      obtain ⟨x3_1, rfl, HA, HK1, ⟨m1, rfl⟩⟩ := hrel
      cases gk with
      | zero => exact absurd HA.out (by simp [malthouselaw08_small.l0])
      | succ k1 =>
        have H := HA.out
        clear HA
        simp only [malthouselaw08_small.l0] at H
        by_cases c3 : x3_1 < (l0.length : Int)
        · rw [if_pos c3] at H
          have c3b0 : decide (x3_1 < (l0.length : Int)) = true := decide_eq_true c3
          clear c3
          by_cases c4 : 0 ≤ x3_1
          · rw [if_pos c4] at H
            have c4b0 : decide (0 ≤ x3_1) = true := decide_eq_true c4
            clear c4
            by_cases c5 : (((rd_T48 l0 x3_1).f0).size : Int) > 200
            · rw [if_pos c5] at H
              have c5b0 : decide (200 < (((rd_T48 l0 x3_1).f0).size : Int)) = true := decide_eq_true c5
              have c5b1 : decide (200 < ((rd_T48 l0 x3_1).f0).size) = true := decide_eq_true (by omega)
              clear c5
              obtain rfl := Option.some.inj H
              have p105 : 0 ≤ (x3_1 : Int) := of_decide_eq_true (by first | (with_reducible assumption) | assumption)
              have q105 : x3_1 < (l0.length : Int) := of_decide_eq_true (by first | (with_reducible assumption) | assumption)
              obtain ⟨ad105, e105, hx105_0, hx105_1, hx105_2, hx105_3⟩ := at_T48 HR0.out x3_1 p105 q105
              cases e105
              replace p105 := eq_true p105
              replace q105 := eq_true q105
              go_wp2
              go_ret
              exact ⟨by first | rfl | (simp; done) | (simp [*]; done), by repeat (first | exact Drawn0.refl _ | apply Drawn0.step)⟩
            · rw [if_neg c5] at H
              have c5b0 : decide (200 < (((rd_T48 l0 x3_1).f0).size : Int)) = false := decide_eq_false c5
              have c5b1 : decide (200 < ((rd_T48 l0 x3_1).f0).size) = false := decide_eq_false (by omega)
              clear c5
              have H' := Aside0.mk H
              clear H
              have p105 : 0 ≤ (x3_1 : Int) := of_decide_eq_true (by first | (with_reducible assumption) | assumption)
              have q105 : x3_1 < (l0.length : Int) := of_decide_eq_true (by first | (with_reducible assumption) | assumption)
              obtain ⟨ad105, e105, hx105_0, hx105_1, hx105_2, hx105_3⟩ := at_T48 HR0.out x3_1 p105 q105
              cases e105
              replace p105 := eq_true p105
              replace q105 := eq_true q105
              go_wp2
              go_roundg k1
              case measure => have := HK1.out; omega
              case rel => exact ⟨(wrap64 (x3_1 + 1)), (by first | rfl | (simp; done) | (simp [*]; done)), H', ⟨by have := HK1.out; omega⟩, by repeat (first | exact Drawn0.refl _ | apply Drawn0.step)⟩
          · rw [if_neg c4] at H
            exact absurd H (by simp)
        · rw [if_neg c3] at H
          have c3b0 : decide (x3_1 < (l0.length : Int)) = false := decide_eq_false c3
          clear c3
          obtain rfl := Option.some.inj H
          go_wp2
          go_ret
          exact ⟨by first | rfl | (simp; done) | (simp [*]; done), by repeat (first | exact Drawn0.refl _ | apply Drawn0.step)⟩
end Go.Proofs.YtbmdhmmahmdccaaDoor.Print
/-! ### Print3 -/
namespace Go.Proofs.YtbmdhmmahmdccaaDoor.Print
open Go.RowKit Go.Proofs.YtbmdhmmahmdccaaDoorW.PrintWords Go.Proofs.YtbmdhmmahmdccaaDoorW.PrintLast Go.Proofs.YtbmdhmmahmdccaaDoorW.PrintMore
attribute [local go_sem] max2_int min2_int max_two min_two
set_option linter.unusedVariables false
set_option linter.unusedSimpArgs false
def malthouselaw08_pair.f  : Option ((List (S48))) := some (([(⟨(⟨#[116]⟩ : ByteArray), false, 0, 100⟩ : S48), (⟨(⟨#[118]⟩ : ByteArray), true, 1, 5⟩ : S48)] : List (S48)))
set_option maxHeartbeats 8000000 in
set_option maxRecDepth 100000 in
theorem malthouselaw08_pair.calls  (r : List (S48)) (w : World) (h : malthouselaw08_pair.f  = some r) :
    Calls Tryd.prog 29 #[] w fun e w' => ∃ v0_ : Value, e = .returned (v0_) ∧ Kd.R k48 48 w' w.heap.size (fun _ => True) v0_ r ∧ Below w.heap.size w w' := by
  have hu48 := Tryd.underlying48
  have HB := Aside0.mk (Below.refl w.heap.size w)
  have H : (some (([(⟨(⟨#[116]⟩ : ByteArray), false, 0, 100⟩ : S48), (⟨(⟨#[118]⟩ : ByteArray), true, 1, 5⟩ : S48)] : List (S48)))) = some r := h
  clear h
  obtain ⟨y102, hy102⟩ : ∃ y_ : List (S48), y_ = (([(⟨(⟨#[116]⟩ : ByteArray), false, 0, 100⟩ : S48), (⟨(⟨#[118]⟩ : ByteArray), true, 1, 5⟩ : S48)] : List (S48))) := ⟨_, rfl⟩
  replace H : (some y102) = some r := by first | (rw [hy102]; with_reducible exact H) | (have H2_ := (Option.bind_some _ _).symm.trans H; rw [hy102]; with_reducible exact H2_) | (have H2_ := (Option.bind_some _ _).symm.trans H; with_reducible exact H2_) | with_reducible exact H | (rw [hy102]; exact H) | exact H
  have Ny102 := Aside0.mk hy102
  clear hy102
  obtain rfl := Option.some.inj H
  go_enter Tryd.func29, Tryd.ntmps29
  go_wp2_with (first | ((with_reducible refine gate_dst (N := 3) rfl ?_); refine Kd.R_lit k48 _ 48 ?hg (N := 3) ?hd (xs := ([(⟨(⟨#[116]⟩ : ByteArray), false, 0, 100⟩ : S48), (⟨(⟨#[118]⟩ : ByteArray), true, 1, 5⟩ : S48)] : List (S48))) (inner := [.string (⟨#[116]⟩ : ByteArray), .bool false, .int .i64 0, .int .i64 100, .string (⟨#[118]⟩ : ByteArray), .bool true, .int .i64 1, .int .i64 5]) (ok := fun _ => True) (okp := fun _ => True) ?hr ?hp (fun _ hk => hk) trivial (Below.refl _ _) (Nat.le_refl _) (by simp) ?_; (case hd => rfl); (case hg => rfl); (case hr => first | (go_simp; done) | (go_simp; rfl)); (case hp => exact (Reps.c4 (show Kd.M k48 _ _ _ (⟨(⟨#[116]⟩ : ByteArray), false, 0, 100⟩ : S48) [.string (⟨#[116]⟩ : ByteArray), .bool false, .int .i64 0, .int .i64 100] from (k48_mkM _ _ _ (⟨(⟨#[116]⟩ : ByteArray), false, 0, 100⟩ : S48) )) (Reps.c4 (show Kd.M k48 _ _ _ (⟨(⟨#[118]⟩ : ByteArray), true, 1, 5⟩ : S48) [.string (⟨#[118]⟩ : ByteArray), .bool true, .int .i64 1, .int .i64 5] from (k48_mkM _ _ _ (⟨(⟨#[118]⟩ : ByteArray), true, 1, 5⟩ : S48) )) (Reps.none _ _)))); intro v103 w1 ho2 hb hg_ hnew_; clear hg_ hnew_; (first | rw [← Ny102.out] at ho2 | (simp only [Int.reduceToNat] at ho2; rw [← Ny102.out] at ho2)); have n0_ := Aside0.mk (Kd.R_lower ho2 (below_size (by repeat (first | (with_reducible first | exact HB.out | apply below_alloc | apply pw_below_drewN | apply below_drew1) | exact HB.out)))); have n1_ := Aside0.mk (below_step (by repeat (first | (with_reducible first | exact HB.out | apply below_alloc | apply pw_below_drewN | apply below_drew1) | exact HB.out)) hb); clear HB; have HO104 := n0_; have HB := n1_; clear n0_ n1_; clear hb ho2))
  go_ret
  exact ⟨_, by first | rfl | (simp [errW_none, errW_some] <;> rfl) | (simp [*, errW_none, errW_some] <;> rfl), by (with_reducible repeat (first | apply Kd.R_alloc | apply Kd.R_drewN | apply Kd.R_drew)); exact HO104.out, by repeat (first | (with_reducible first | exact HB.out | apply below_alloc | apply pw_below_drewN | apply below_drew1) | exact HB.out)⟩
end Go.Proofs.YtbmdhmmahmdccaaDoor.Print
/-! ### NmPure -/
namespace Go.Proofs.YtbmdhmmahmdccaaDoor.Print
open Go.RowKit Go.Proofs.YtbmdhmmahmdccaaDoorW.PrintWords Go.Proofs.YtbmdhmmahmdccaaDoorW.PrintLast Go.Proofs.YtbmdhmmahmdccaaDoorW.PrintMore
set_option linter.unusedSimpArgs false
set_option linter.unusedVariables false
def byteAt (s : ByteArray) (i : Nat) : Nat := (s.get! i).toNat
theorem bt_byteAt (s : ByteArray) (i : Nat) (h : i < s.size) : bt s (i : Int) = byteAt s i := by
  unfold bt byteAt
  have e : s.get! i = s[i]'h := by have := get_at s i h; simpa using this
  rw [Int.toNat_natCast, dif_pos h, e]
theorem wrap_small (x : Int) (h0 : -9223372036854775808 ≤ x) (h1 : x ≤ 9223372036854775807) : wrap64 x = x := by unfold wrap64; omega
/-- Is a text a name? -/
def nameB (s : ByteArray) : Bool := Lib.validD s.data.toList && wordyB s && (decide (byteAt s 0 < 48) || decide (57 < byteAt s 0)) && decide (Lib.runeCount s ≤ 12)
theorem lex_name_is (s : ByteArray) (hs : s.size ≤ 1000000000) : lex_Name.f s = some (nameB s) := by
  have hcount : utf8_RuneCountInString.f s = some (Lib.runeCount s : Int) := if_pos (by omega)
  have hvalid : utf8_ValidString.f s = some (Lib.validD s.data.toList) := if_pos (by omega)
  unfold lex_Name.f nameB lex_wordy.f
  rw [hvalid, hcount]
  simp only [Option.bind_some]
  by_cases h1 : Lib.validD s.data.toList = true
  · rw [if_pos h1, h1]
    by_cases h2 : wordyB s = true
    · rw [if_pos h2, h2]
      have hpos : 0 < s.size := by
        have := h2
        unfold wordyB at this
        simp at this
        exact this.2
      rw [if_pos (by omega), show (0 : Int) = ((0 : Nat) : Int) from rfl, bt_byteAt s 0 hpos]
      simp only [Bool.true_and]
      by_cases h3 : byteAt s 0 < 48
      · rw [if_pos (by omega)]
        simp [h3]
        norm_cast
      · rw [if_neg (by omega)]
        by_cases h4 : 57 < byteAt s 0
        · rw [if_pos (by omega)]
          simp [h3, h4]
          norm_cast
        · rw [if_neg (by omega)]
          simp [h3, h4]
    · rw [if_neg h2]
      simp [h2]
  · rw [if_neg h1]
    simp [h1]
end Go.Proofs.YtbmdhmmahmdccaaDoor.Print
/-! ### St -/
namespace Go.Proofs.YtbmdhmmahmdccaaDoor
open Go.RowKit
section
variable {P : Program} {ops : Array Oper} {a : Act} {w : World} {Q : Exit → Act → World → Prop}
theorem ge_store {S : List Nat} {z9 : Nat} {i : Nat} {f : Bool} {oi : Oper} {T : List (Nat × Bool × Bool)} {N : Nat} {env : List (Nat × Value)} {w' : World}
    (hi : ops[i]? = some oi) (hdst : oi.dst = none) (hw : L.wantE ops env oi = some true) (hy : (execOp (L.evE a env) oi).run P w = .ok .skip w') (ho : Only S w w')
    (h : L.GrowE P ops Q S z9 T a N env w') : L.GrowE P ops Q S z9 ((i, f, true) :: T) a N env w := by
  intro hN he
  subst hN
  refine L.growl_alone hi (L.wantE_spec a he hw) ?_
  unfold Oper.wp
  rw [L.puts_eval a env he, hy]
  simp only [Oper.upon]
  refine ⟨.inr ho, ?_⟩
  rw [hdst]
  exact h rfl he
end
end Go.Proofs.YtbmdhmmahmdccaaDoor
/-! ### ETell -/
namespace Go.Proofs.YtbmdhmmahmdccaaDoor.Print
open Go.RowKit Go.Proofs.YtbmdhmmahmdccaaDoorW.PrintWords Go.Proofs.YtbmdhmmahmdccaaDoorW.PrintLast Go.Proofs.YtbmdhmmahmdccaaDoorW.PrintMore
set_option linter.unusedSimpArgs false
set_option linter.unusedVariables false
def nearT (t : S48) (n : Int) : Int := mn (mx n t.f2) t.f3
set_option maxHeartbeats 8000000 in
set_option maxRecDepth 100000 in
theorem tell_any (gt gv gb n n2 cv cb : Nat) (A0 : Option Addr) (c0 : Nat) (l0 : List S48) (k : Nat) (x : Int) (curV curB : Array Value) (w : World)
    (ht : w.heap[gt]? = some (.cells #[.slice (some ⟨gv, 0, none⟩) n cv, .slice (some ⟨gb, 0, none⟩) n2 cb, .slice A0 l0.length c0] 71 (0, 0)))
    (hv : w.heap[gv]? = some (.cells curV 3 (0, 0))) (hb : w.heap[gb]? = some (.cells curB 4 (0, 0))) (hkv : curV[k]? ≠ none) (hkb : curB[k]? ≠ none)
    (hr : Kd.C k48 w A0 l0.length l0) (hrS : ∀ ad, A0 = some ad → ad.block ≠ gv ∧ ad.block ≠ gb) (hn : k < n) (hn2 : k < n2) (hl : k < l0.length) (h1 : gt ≠ gv) (h2 : gt ≠ gb) (h3 : gv ≠ gb) :
    Calls Tryd.prog 46 #[.pointer (some ⟨gt, 0, none⟩), .int .i64 k, .int .i64 x] w fun e w' => e = .returned (.tuple #[]) ∧
      w'.heap[gv]? = some (.cells (curV.setIfInBounds k (.int .i64 (nearT l0[k] x))) 3 (0, 0)) ∧
      w'.heap[gb]? = some (.cells (curB.setIfInBounds k (.bool (!l0[k].f1 && nearT l0[k] x != x))) 4 (0, 0)) ∧ Only [gv, gb] w w' := by
  obtain ⟨ad, cs, rfl, _, hK, hcs⟩ := Kd.C_cells hr k hl
  obtain rfl := k48_open hK
  obtain ⟨hab1, hab2⟩ := hrS ad rfl
  have HC := Lib.hid (show CellsAt w (ad.add (k * 4)) _ from hcs)
  have HT := Lib.hid ht
  have HV := Lib.hid hv
  have HB := Lib.hid hb
  have HKV := Lib.hid hkv
  have HKB := Lib.hid hkb
  have hn' : (k : Int) < n := by omega
  have hn2' : (k : Int) < n2 := by omega
  have hl' : (k : Int) < l0.length := by omega
  have hk0 : (0 : Int) ≤ k := by omega
  have HN1 := Lib.hid h1
  have HN2 := Lib.hid h2
  have HN3 := Lib.hid h3
  have HAB1 := Lib.hid hab1
  have HAB2 := Lib.hid hab2
  have hlen : l0.length = l0.length := rfl
  clear ht hv hb hkv hkb hr hrS hcs hK h1 h2 h3 hab1 hab2 hlen
  generalize l0[k] = t at *
  obtain ⟨y, hy⟩ : ∃ y, y = nearT t x := ⟨_, rfl⟩
  rw [← hy]
  have HY := Lib.hid hy
  clear hy
  have hu := Tryd.underlying48
  have hu2 := Tryd.underlying71
  go_enter Tryd.func46, Tryd.ntmps46
  go_wp2
  refine L.grow_start [] 16 ((0, true, false) :: (1, true, false) :: (2, true, false) :: (3, true, false) :: (4, true, false) :: (5, true, false) :: (6, true, false) :: (7, true, false) :: (8, true, false) :: (9, true, false) :: (10, true, false) :: (11, true, false) :: (12, true, false) :: (13, true, true) :: (14, false, true) :: (15, true, true) :: (16, false, true) :: []) (by kernel_rfl) (([], [0], some 6) :: ([0], [6], some 7) :: ([1], [7], some 8) :: ([2], [8], some 9) :: ([3], [9], some 10) :: ([], [1], some 11) :: ([], [0], some 12) :: ([6], [12], some 13) :: ([7], [13], some 14) :: ([8], [14], some 15) :: ([], [1], some 16) :: ([9, 10], [15, 16], some 17) :: ([11], [17], some 18) :: ([], [2], some 19) :: ([12, 13], [18, 19], some 20) :: ([4, 5, 0, 1, 2, 3, 4, 5, 6, 7, 8, 9, 10, 11, 12, 13, 14], [10, 11], some 21) :: ([15, 14, 14, 0, 1, 2, 3, 4, 5, 6, 7, 8, 9, 10, 11, 12, 13, 14], [21, 20], none) :: []) (by kernel_rfl) (by kernel_rfl) (n := 17) rfl (by kernel_rfl) (fun _ _ _ _ _ h => h) (fun wg hog => ?_)
  refine L.growe_start (N := 50) (by rfl) ?_
  have e0 : ∀ w', Only [] wg w' → w'.cell? ⟨gt, 0, none⟩ = some (.slice (some ⟨gv, 0, none⟩) n cv) := fun w' q => (cell_of_row w' gt 0 _ _ _ ((hog.trans q).heap HT.out (by simp))).trans rfl
  have e2 : ∀ w', Only [] wg w' → w'.cell? ⟨gt, 2, none⟩ = some (.slice (some ad) l0.length c0) := fun w' q => (cell_of_row w' gt 2 _ _ _ ((hog.trans q).heap HT.out (by simp))).trans rfl
  have f0 : ∀ w', Only [] wg w' → w'.cell? (ad.add (k * 4)) = some (.string t.f0) := fun w' q => cellsAt_head (HC.out.only (hog.trans q) (by simp)) rfl
  have f1 : ∀ w', Only [] wg w' → w'.cell? ⟨(ad.add (k * 4)).block, (ad.add (k * 4)).off + 1, none⟩ = some (.bool t.f1) := fun w' q => cellsAt_field (HC.out.only (hog.trans q) (by simp)) 1 (by omega) rfl
  have f2 : ∀ w', Only [] wg w' → w'.cell? ⟨(ad.add (k * 4)).block, (ad.add (k * 4)).off + 2, none⟩ = some (.int .i64 t.f2) := fun w' q => cellsAt_field (HC.out.only (hog.trans q) (by simp)) 2 (by omega) rfl
  have f3 : ∀ w', Only [] wg w' → w'.cell? ⟨(ad.add (k * 4)).block, (ad.add (k * 4)).off + 3, none⟩ = some (.int .i64 t.f3) := fun w' q => cellsAt_field (HC.out.only (hog.trans q) (by simp)) 3 (by omega) rfl
  have HOG := Lib.hid hog
  clear hog
  iterate 14 (first | (refine L.ge_off rfl rfl rfl (by rfl) ?_) | (refine L.ge_move rfl rfl rfl (by rfl) rfl (by simp [L.evE, L.lk, Act.eval]; rfl) ?_) | (refine L.ge_pick rfl rfl rfl (by rfl) rfl (by simp [L.evE, L.lk, Act.eval]; rfl) (by simp [L.evE, L.lk, Act.eval]; rfl) ?_) | (refine L.ge_val rfl rfl rfl (by rfl) (by intro w' hw'; simp [execOp, L.evE, L.lk, Act.eval]; go_simp; rfl) ?_))
  refine L.ge_call rfl rfl rfl (by rfl) rfl (by simp [L.evE, L.lk, Act.eval]; rfl) (by go_simp) ?_
  refine (tags_within.calls t.f0 t.f1 t.f2 t.f3 x y wg (by rw [HY.out]; rfl)).mono ?_
  rintro e w1 ⟨rfl, hb1⟩
  refine ⟨_, rfl, Only.of_below hb1, ?_⟩
  have HO1 := Lib.hid (HOG.out.trans (Only.of_below hb1))
  clear hb1 e0 e2 f0 f1 f2 f3 HOG
  iterate 1 (first | (refine L.ge_off rfl rfl rfl (by rfl) ?_) | (refine L.ge_move rfl rfl rfl (by rfl) rfl (by simp [L.evE, L.lk, Act.eval]; rfl) ?_) | (refine L.ge_pick rfl rfl rfl (by rfl) rfl (by simp [L.evE, L.lk, Act.eval]; rfl) (by simp [L.evE, L.lk, Act.eval]; rfl) ?_) | (refine L.ge_val rfl rfl rfl (by rfl) (by intro w' hw'; simp [execOp, L.evE, L.lk, Act.eval]; go_simp; rfl) ?_))
  have HV1 := Lib.hid (HO1.out.heap HV.out (by simp))
  obtain ⟨v0, hv0⟩ : ∃ v0, w1.cell? ⟨gv, k, none⟩ = some v0 := by
    rw [cell_of_row w1 gv k _ _ _ HV1.out]
    cases h : curV[k]? with
    | none => exact absurd h HKV.out
    | some v => exact ⟨v, rfl⟩
  have hz0 : w1.frozen? ⟨gv, k, none⟩ = false := frozen_of_row w1 gv k _ _ HV1.out
  refine L.ge_last (w' := w1.setCell ⟨gv, k, none⟩ (.int .i64 y)) rfl rfl (by rfl) (by simp [execOp, L.evE, L.lk, Act.eval]; go_simp) ?_
  simp only [L.puts, Act.put, goInt, List.setIfInBounds_toArray, List.set_cons_zero, List.set_cons_succ]
  have HV2 := Lib.hid (show (w1.setCell ⟨gv, k, none⟩ (.int .i64 y)).heap[gv]? = some (.cells (curV.setIfInBounds k (.int .i64 y)) 3 (0, 0)) from heap_setCell_same w1 gv k _ _ _ HV1.out)
  have HO2 := Lib.hid (show Only [gv] w1 (w1.setCell ⟨gv, k, none⟩ (.int .i64 y)) from (Only.refl _ _).setCell (by simp) _)
  clear hv0 hz0
  generalize w1.setCell ⟨gv, k, none⟩ (.int .i64 y) = w2 at *
  have HO3 := Lib.hid ((HO1.out.mono (T := [gv]) (by simp)).trans HO2.out)
  have HT2 := Lib.hid (HO3.out.heap HT.out (by simpa using HN1.out))
  have HC2 := Lib.hid (HC.out.only HO3.out (by rw [add_block]; simpa using HAB1.out))
  have HB2 := Lib.hid (HO3.out.heap HB.out (by simpa using HN3.out.symm))
  have hkk : ((curV.setIfInBounds k (.int .i64 y))[k]?) = some (.int .i64 y) := by
    rw [Array.getElem?_setIfInBounds_self_of_lt]
    rcases Nat.lt_or_ge k curV.size with h | h
    · exact h
    · exact absurd (Array.getElem?_eq_none h) HKV.out
  have HKK := Lib.hid hkk
  clear hkk HO1 HO2 HV1 HV HT HC HB
  go_wp2
  refine L.grow_start [] 28 ((0, true, false) :: (1, true, false) :: (2, true, false) :: (3, true, false) :: (4, true, false) :: (5, true, false) :: (6, true, false) :: (7, true, false) :: (8, true, false) :: (9, true, false) :: (10, true, true) :: (11, true, true) :: (12, true, true) :: (13, true, true) :: (14, true, true) :: (15, true, true) :: (16, true, false) :: (17, true, false) :: (18, true, false) :: (19, true, false) :: (20, true, false) :: (21, true, false) :: (22, true, false) :: (23, true, false) :: (24, true, true) :: (25, true, true) :: (26, true, true) :: (27, true, true) :: (28, false, true) :: []) (by kernel_rfl) (([], [0], some 22) :: ([0], [22], some 23) :: ([1], [23], some 24) :: ([2], [24], some 25) :: ([3], [25], some 26) :: ([], [1], some 27) :: ([], [0], some 28) :: ([6], [28], some 29) :: ([7], [29], some 30) :: ([8], [30], some 31) :: ([], [1], some 32) :: ([9, 10], [31, 32], some 33) :: ([11], [33], some 34) :: ([12], [34], some 35) :: ([13], [35], some 36) :: ([14], [36], some 37) :: ([15], [0, 37], some 38) :: ([16, 15], [38, 37], some 39) :: ([17, 15], [39, 37], some 40) :: ([18, 15], [40, 37], some 41) :: ([19, 15], [41, 37], some 42) :: ([15], [1, 37], some 43) :: ([20, 21, 15], [42, 43, 37], some 44) :: ([22, 15], [44, 37], some 45) :: ([15], [2, 37], some 46) :: ([23, 24, 15], [45, 46, 37], some 47) :: ([15, 25], [37, 47], some 48) :: ([4, 5, 0, 1, 2, 3, 4, 5, 6, 7, 8, 9, 10, 11, 12, 13, 14, 15, 16, 17, 18, 19, 20, 21, 22, 23, 24, 25, 26], [26, 27], some 49) :: ([27, 26, 15, 0, 1, 2, 3, 4, 5, 6, 7, 8, 9, 10, 11, 12, 13, 14, 15, 16, 17, 18, 19, 20, 21, 22, 23, 24, 25, 26], [49, 48], none) :: []) (by kernel_rfl) (by kernel_rfl) (n := 29) rfl (by kernel_rfl) (fun _ _ _ _ _ h => h) (fun wg hog => ?_)
  refine L.growe_start (N := 50) (by rfl) ?_
  have e0 : ∀ w', Only [] wg w' → w'.cell? ⟨gt, 0, none⟩ = some (.slice (some ⟨gv, 0, none⟩) n cv) := fun w' q => (cell_of_row w' gt 0 _ _ _ ((hog.trans q).heap HT2.out (by simp))).trans rfl
  have e1 : ∀ w', Only [] wg w' → w'.cell? ⟨gt, 1, none⟩ = some (.slice (some ⟨gb, 0, none⟩) n2 cb) := fun w' q => (cell_of_row w' gt 1 _ _ _ ((hog.trans q).heap HT2.out (by simp))).trans rfl
  have e2 : ∀ w', Only [] wg w' → w'.cell? ⟨gt, 2, none⟩ = some (.slice (some ad) l0.length c0) := fun w' q => (cell_of_row w' gt 2 _ _ _ ((hog.trans q).heap HT2.out (by simp))).trans rfl
  have f1 : ∀ w', Only [] wg w' → w'.cell? ⟨(ad.add (k * 4)).block, (ad.add (k * 4)).off + 1, none⟩ = some (.bool t.f1) := fun w' q => cellsAt_field (HC2.out.only (hog.trans q) (by simp)) 1 (by omega) rfl
  have f4 : ∀ w', Only [] wg w' → w'.cell? ⟨gv, k, none⟩ = some (.int .i64 y) := fun w' q => (cell_of_row w' gv k _ _ _ ((hog.trans q).heap HV2.out (by simp))).trans HKK.out
  have HOG := Lib.hid hog
  clear hog
  cases hf1 : t.f1
  all_goals
    rw [hf1] at f1
    iterate 28 (first | (refine L.ge_off rfl rfl rfl (by rfl) ?_) | (refine L.ge_move rfl rfl rfl (by rfl) rfl (by simp [L.evE, L.lk, Act.eval]; rfl) ?_) | (refine L.ge_pick rfl rfl rfl (by rfl) rfl (by simp [L.evE, L.lk, Act.eval]; rfl) (by simp [L.evE, L.lk, Act.eval]; rfl) ?_) | (refine L.ge_val rfl rfl rfl (by rfl) (by intro w' hw'; simp [execOp, L.evE, L.lk, Act.eval]; go_simp; rfl) ?_))
    have HBG := Lib.hid (HOG.out.heap HB2.out (by simp))
    obtain ⟨v0, hv0⟩ : ∃ v0, wg.cell? ⟨gb, k, none⟩ = some v0 := by
      rw [cell_of_row wg gb k _ _ _ HBG.out]
      cases h : curB[k]? with
      | none => exact absurd h HKB.out
      | some v => exact ⟨v, rfl⟩
    have hz0 : wg.frozen? ⟨gb, k, none⟩ = false := frozen_of_row wg gb k _ _ HBG.out
    refine L.ge_last (w' := wg.setCell ⟨gb, k, none⟩ (.bool (!t.f1 && y != x))) rfl rfl (by rfl) (by simp [execOp, L.evE, L.lk, Act.eval, hf1]; go_simp) ?_
    simp only [L.puts, Act.put, goInt, List.setIfInBounds_toArray, List.set_cons_zero, List.set_cons_succ]
    have HB3 := Lib.hid (show (wg.setCell ⟨gb, k, none⟩ (.bool (!t.f1 && y != x))).heap[gb]? = some (.cells (curB.setIfInBounds k (.bool (!t.f1 && y != x))) 4 (0, 0)) from heap_setCell_same wg gb k _ _ _ HBG.out)
    have HO4 := Lib.hid (show Only [gb] wg (wg.setCell ⟨gb, k, none⟩ (.bool (!t.f1 && y != x))) from (Only.refl _ _).setCell (by simp) _)
    generalize wg.setCell ⟨gb, k, none⟩ (.bool (!t.f1 && y != x)) = w4 at *
    go_wp2
    go_end0
    refine ⟨rfl, ?_, ?_, ?_⟩
    · exact HO4.out.heap (HOG.out.heap HV2.out (by simp)) (by simpa using HN3.out)
    · exact HB3.out
    · exact ((HO3.out.mono (T := [gv, gb]) (by simp)).trans (HOG.out.mono (T := [gv, gb]) (by simp))).trans (HO4.out.mono (T := [gv, gb]) (by simp))
end Go.Proofs.YtbmdhmmahmdccaaDoor.Print
/-! ### TgPure -/
namespace Go.Proofs.YtbmdhmmahmdccaaDoor.Print
open Go.RowKit Go.Proofs.YtbmdhmmahmdccaaDoorW.PrintWords Go.Proofs.YtbmdhmmahmdccaaDoorW.PrintLast Go.Proofs.YtbmdhmmahmdccaaDoorW.PrintMore
set_option linter.unusedSimpArgs false
set_option linter.unusedVariables false
/-- Are names not too long to speak of? -/
def okTags (l : List S48) : Prop := l.length ≤ 1000000000 ∧ ∀ t ∈ l, t.f0.size ≤ 1000000000
instance (l : List S48) : Decidable (okTags l) := by unfold okTags; exact inferInstance
def checkFrom (l : List S48) : Nat → Nat → Int
  | 0, _ => 0
  | f + 1, i => if h : i < l.length then (if nameB l[i].f0 = false ∨ l[i].f2 > l[i].f3 then 1 else if firstFrom (tagIs l[i].f0) 0 l < i then 5 else checkFrom l f (i + 1)) else 0
def checkZ (l : List S48) : Int := if 12 < l.length then 2 else checkFrom l l.length 0
theorem firstFrom_range {α : Type} (p : α → Bool) : ∀ (l : List α) (k : Nat), firstFrom p k l = -1 ∨ ((k : Int) ≤ firstFrom p k l ∧ firstFrom p k l < (k + l.length : Nat)) := by
  intro l
  induction l with
  | nil => intro k; exact .inl rfl
  | cons x l ih =>
    intro k
    unfold firstFrom
    split
    · exact .inr ⟨by omega, by simp; omega⟩
    · rcases ih (k + 1) with h | h
      · exact .inl h
      · exact .inr ⟨by omega, by simp; omega⟩
theorem firstFrom_le {α : Type} (p : α → Bool) : ∀ (l : List α) (k i : Nat) (hi : i < l.length), p l[i] = true → (k : Int) ≤ firstFrom p k l ∧ firstFrom p k l ≤ (k + i : Nat) := by
  intro l
  induction l with
  | nil => intro k i hi; simp at hi
  | cons x l ih =>
    intro k i hi hp
    unfold firstFrom
    split
    · exact ⟨by omega, by omega⟩
    · cases i with
      | zero => simp at hp; rename_i h; exact absurd hp h
      | succ i =>
        have := ih (k + 1) i (by simpa using hi) (by simpa using hp)
        exact ⟨by omega, by omega⟩
theorem tagIs_self (t : S48) : tagIs t.f0 t = true := by unfold tagIs; simp
theorem rd_at (l : List S48) (i : Nat) (hi : i < l.length) : rd_T48 l (i : Int) = l[i] := getD_at l _ i hi
theorem find_is (l : List S48) (a : ByteArray) (hl : l.length ≤ 1000000000) : tags_Find.f l a = some (firstFrom (tagIs a) 0 l) := if_pos (by omega)
theorem check_loop (l : List S48) (hl : okTags l) : ∀ (f i k : Nat), l.length ≤ i + f → i ≤ l.length → 2 * f < k → tags_Check.l0 k l l (l.length : Int) (i : Int) = some (checkFrom l f i) := by
  obtain ⟨hl, hsz⟩ := hl
  intro f
  induction f with
  | zero =>
    intro i k h1 h2 hk
    obtain ⟨k, rfl⟩ : ∃ m, k = m + 1 := ⟨k - 1, by omega⟩
    simp only [tags_Check.l0, checkFrom]
    rw [if_neg (by omega)]
  | succ f ih =>
    intro i k h1 h2 hk
    obtain ⟨k, rfl⟩ : ∃ m, k = m + 1 + 1 := ⟨k - 2, by omega⟩
    rw [tags_Check.l0, checkFrom]
    by_cases hi : i < l.length
    · rw [if_pos (by omega), if_pos (by omega), if_pos (by omega), dif_pos hi, rd_at l i hi, lex_name_is _ (hsz _ (List.getElem_mem hi))]
      simp only [Option.bind_some]
      have hj : ∀ b : Bool, tags_Check.j1 (k + 1) l (i : Int) l (l.length : Int) (i : Int) b l[i].f0 l[i].f1 l[i].f2 l[i].f3 = if b = true then some 1 else if firstFrom (tagIs l[i].f0) 0 l < i then some 5 else some (checkFrom l f (i + 1)) := by
        intro b
        rw [tags_Check.j1]
        rw [find_is l _ hl]
        simp only [Option.bind_some]
        rw [wrap_small _ (by omega) (by omega)]
        have := ih (i + 1) k (by omega) (by omega) (by omega)
        rw [show (i : Int) + 1 = ((i + 1 : Nat) : Int) by omega, this]
      by_cases hn : nameB l[i].f0 = true
      · rw [if_pos hn, hj]
        by_cases hlo : l[i].f2 > l[i].f3
        · rw [if_pos (by simpa using hlo), if_pos (.inr hlo)]
        · have hno : ¬ (nameB l[i].f0 = false ∨ l[i].f2 > l[i].f3) := by rw [hn]; simp; omega
          rw [if_neg (by simpa using hlo)]
          by_cases hff : firstFrom (tagIs l[i].f0) 0 l < i
          · rw [if_pos hff, if_neg hno, if_pos hff]
          · rw [if_neg hff, if_neg hno, if_neg hff]
      · rw [if_neg hn, hj, if_pos rfl, if_pos (.inl (by simpa using hn))]
    · rw [if_neg (by omega), dif_neg hi]
theorem check_is (l : List S48) (hl : okTags l) (k : Nat) (hk : 2 * l.length < k) : tags_Check.f k l = some (checkZ l) := by
  unfold tags_Check.f checkZ
  by_cases h : 12 < l.length
  · rw [if_pos (by omega), if_pos h]
  · rw [if_neg (by omega), if_neg h]
    exact check_loop l hl l.length 0 k (by omega) (by omega) hk
/-- How many rounds a name takes at most. -/
def longest (l : List S48) : Nat := l.foldr (fun t n => max t.f0.size n) 0
/-- Tags that may be have bounds in order, and no more than so many. -/
theorem checkFrom_ok (l : List S48) : ∀ (f i : Nat), l.length ≤ i + f → checkFrom l f i = 0 → ∀ j (hj : j < l.length), i ≤ j → l[j].f2 ≤ l[j].f3 ∧ firstFrom (tagIs l[j].f0) 0 l = j := by
  intro f
  induction f with
  | zero => intro i h1 h2 j hj hij; omega
  | succ f ih =>
    intro i h1 h2 j hj hij
    unfold checkFrom at h2
    by_cases hi : i < l.length
    · rw [dif_pos hi] at h2
      split at h2
      · omega
      rename_i hb
      split at h2
      · omega
      rename_i hc
      by_cases hij2 : j = i
      · subst hij2
        obtain ⟨q1, q2⟩ := firstFrom_le (tagIs l[j].f0) l 0 j hj (tagIs_self _)
        exact ⟨by have := fun h => hb (.inr h); omega, by omega⟩
      · exact ih (i + 1) (by omega) h2 j hj (by omega)
    · omega
theorem check_ok {l : List S48} (h : checkZ l = 0) : l.length ≤ 12 ∧ ∀ j (hj : j < l.length), l[j].f2 ≤ l[j].f3 ∧ firstFrom (tagIs l[j].f0) 0 l = j := by
  unfold checkZ at h
  split at h
  · omega
  · exact ⟨by omega, fun j hj => checkFrom_ok l l.length 0 (by omega) h j hj (by omega)⟩
/-- May a tag have a number, and be bad or not? -/
def rightAt (t : S48) (v : Int) (b : Bool) : Bool := nearT t v == v && !(t.f1 && b)
def rightFrom (l : List S48) (V : List Int) (B : List Bool) : Nat → Nat → Bool
  | 0, _ => true
  | f + 1, i => if h : i < l.length then rightAt l[i] (V.getD i 0) (B.getD i false) && rightFrom l V B f (i + 1) else true
def rightB (l : List S48) (V : List Int) (B : List Bool) : Bool := checkZ l == 0 && V.length == l.length && B.length == l.length && rightFrom l V B l.length 0
theorem rightFrom_next (l : List S48) (V : List Int) (B : List Bool) (n k : Nat) (hn : l.length = n) (h : k < n) : rightFrom l V B (n - k) k = (rightAt (l[k]'(by omega)) (V.getD k 0) (B.getD k false) && rightFrom l V B (n - (k + 1)) (k + 1)) := by
  obtain ⟨m, hm⟩ : ∃ m, n - k = m + 1 := ⟨n - k - 1, by omega⟩
  rw [hm, show n - (k + 1) = m by omega, rightFrom, dif_pos (by omega)]
theorem Kd.int_at {w : World} {A : Option Addr} {xs : List Int} (h : Kd.C (Kd.int .i64) w A xs.length xs) (k : Nat) (hk : k < xs.length) : ∃ ad, A = some ad ∧ w.cell? (ad.add k) = some (.int .i64 (xs.getD k 0)) := by
  obtain ⟨ad, cs, e, _, hK, hc⟩ := Kd.C_cells h k hk
  have hk' : cs = [.int .i64 xs[k]] := hK
  subst hk'
  refine ⟨ad, e, ?_⟩
  rw [List.getD_eq_getElem?_getD, List.getElem?_eq_getElem hk]
  have := hc 0 _ rfl
  rw [show k * (Kd.int .i64).sz = k from Nat.mul_one k, Go.Deep.add_add, Nat.add_zero] at this
  exact this
theorem Kd.bool_at {w : World} {A : Option Addr} {xs : List Bool} (h : Kd.C Kd.bool w A xs.length xs) (k : Nat) (hk : k < xs.length) : ∃ ad, A = some ad ∧ w.cell? (ad.add k) = some (.bool (xs.getD k false)) := by
  obtain ⟨ad, cs, e, _, hK, hc⟩ := Kd.C_cells h k hk
  have hk' : cs = [.bool xs[k]] := hK
  subst hk'
  refine ⟨ad, e, ?_⟩
  rw [List.getD_eq_getElem?_getD, List.getElem?_eq_getElem hk]
  have := hc 0 _ rfl
  rw [show k * Kd.bool.sz = k from Nat.mul_one k, Go.Deep.add_add, Nat.add_zero] at this
  exact this
def newZ (l : List S48) : List Int × List Bool × Int := if checkZ l = 0 then (l.map (nearT · 0), List.replicate l.length false, 0) else ([], [], checkZ l)
theorem new_loop (l : List S48) (hl : l.length ≤ 1000000000) : ∀ (f i k : Nat) (V : List Int) (B : List Bool), l.length ≤ i + f → i ≤ l.length → V.length = i → f < k → tags_New.l0 k l (l.length : Int) (i : Int) V B = some (V ++ (l.drop i).map (nearT · 0), B, 0) := by
  intro f
  induction f with
  | zero =>
    intro i k V B h1 h2 h3 hk
    obtain ⟨k, rfl⟩ : ∃ m, k = m + 1 := ⟨k - 1, by omega⟩
    rw [tags_New.l0, if_neg (by omega), List.drop_eq_nil_of_le (by omega)]
    simp
  | succ f ih =>
    intro i k V B h1 h2 h3 hk
    obtain ⟨k, rfl⟩ : ∃ m, k = m + 1 := ⟨k - 1, by omega⟩
    rw [tags_New.l0]
    by_cases hi : i < l.length
    · rw [if_pos (by omega), if_pos (by omega), if_pos (by omega), rd_at l i hi]
      unfold tags_within.f
      simp only [Option.bind_some]
      rw [if_pos (by omega), wrap_small _ (by omega) (by omega), show (i : Int) + 1 = ((i + 1 : Nat) : Int) by omega, ih (i + 1) k _ B (by omega) (by omega) (by simp; omega) (by omega), List.drop_eq_getElem_cons hi, List.map_cons, List.append_assoc]
      rfl
    · rw [if_neg (by omega), List.drop_eq_nil_of_le (by omega)]
      simp
theorem new_is (l : List S48) (hl : okTags l) (k : Nat) (hk : 2 * l.length < k) : tags_New.f k l = some (newZ l) := by
  unfold tags_New.f newZ
  rw [check_is l hl k hk]
  simp only [Option.bind_some]
  by_cases h : checkZ l = 0
  · have := (check_ok h).1
    rw [if_pos h, if_pos h, if_pos (by omega), if_pos (by omega)]
    have := new_loop l hl.1 l.length 0 k [] (List.replicate l.length false) (by omega) (by omega) rfl (by omega)
    simpa using this
  · rw [if_neg h, if_neg h]
end Go.Proofs.YtbmdhmmahmdccaaDoor.Print
/-! ### ERight -/
namespace Go.Proofs.YtbmdhmmahmdccaaDoor.Print
open Go.RowKit Go.Proofs.YtbmdhmmahmdccaaDoorW.PrintWords Go.Proofs.YtbmdhmmahmdccaaDoorW.PrintLast Go.Proofs.YtbmdhmmahmdccaaDoorW.PrintMore
set_option linter.unusedSimpArgs false
set_option linter.unusedVariables false
def tags_Right.f (l0 : List S48) (l1_0 : List Int) (l1_1 : List Bool) : Option Bool := if okTags l0 ∧ l1_0.length ≤ 1000000000 ∧ l1_1.length ≤ 1000000000 then some (rightB l0 l1_0 l1_1) else none
set_option maxHeartbeats 8000000 in
set_option maxRecDepth 100000 in
theorem tags_Right.calls (A0 : Option Addr) (c0 : Nat) (l0 : List S48) (A1_0 : Option Addr) (c1_0 : Nat) (l1_0 : List Int) (A1_1 : Option Addr) (c1_1 : Nat) (l1_1 : List Bool) (r : Bool) (w : World) (hr0 : Kd.C k48 w A0 l0.length l0) (hc0 : l0.length ≤ c0) (hr1_0 : Kd.C (Kd.int .i64) w A1_0 l1_0.length l1_0) (hc1_0 : l1_0.length ≤ c1_0) (hr1_1 : Kd.C Kd.bool w A1_1 l1_1.length l1_1) (hc1_1 : l1_1.length ≤ c1_1) (hT : Tabs w) (h : tags_Right.f l0 l1_0 l1_1 = some r) :
    Calls Tryd.prog 24 #[.slice A0 l0.length c0, .agg #[.slice A1_0 l1_0.length c1_0, .slice A1_1 l1_1.length c1_1]] w fun e w' => e = .returned (.bool r) ∧ Below w.heap.size w w' := by
  unfold tags_Right.f at h
  split at h
  case isFalse => cases h
  rename_i hok
  obtain ⟨hok, hl0, hl1⟩ := hok
  obtain rfl := Option.some.inj h
  clear h
  obtain ⟨V, hV⟩ : ∃ V, V = rightB l0 l1_0 l1_1 := ⟨_, rfl⟩
  rw [← hV]
  have HV := Lib.hid hV
  have HR := Lib.hid hr0
  have HR0 := Lib.hid hr1_0
  have HR1 := Lib.hid hr1_1
  have HOK := Lib.hid hok
  have HTB := Lib.hid hT
  have hll := hok.1
  have hu := Tryd.underlying48
  have hu2 := Tryd.underlying28
  clear hV hr0 hr1_0 hr1_1 hok hT
  have HB0 := Lib.hid (show Below w.heap.size w (w.alloc (.cells #[.slice A1_0 l1_0.length c1_0, .slice A1_1 l1_1.length c1_1] 28)) from (Below.refl _ _).alloc (Nat.le_refl _) _)
  have HX0 := Lib.hid (heap_alloc_new w (.cells #[.slice A1_0 l1_0.length c1_0, .slice A1_1 l1_1.length c1_1] 28))
  obtain ⟨ch, hch⟩ : ∃ ch, ch = checkZ l0 := ⟨_, rfl⟩
  have HCH := Lib.hid hch
  clear hch
  have hcheck : ∀ W, Below w.heap.size w W → Calls Tryd.prog 14 #[.slice A0 l0.length c0] W fun e w' => e = .returned (.int .i64 ch) ∧ Below W.heap.size W w' := fun W hb => by
    rw [HCH.out]
    exact tags_Check.calls (2 * l0.length + 1) A0 c0 l0 (checkZ l0) W (Kd.C_below HR.out hb) hc0 (HTB.out.below hb) (check_is l0 HOK.out _ (by omega))
  have HC := Lib.hid hcheck
  clear hcheck
  by_cases h1 : ch = 0
  · by_cases h2 : l1_0.length = l0.length
    · by_cases h3 : l1_1.length = l0.length
      · have hv := HV.out
        unfold rightB at hv
        rw [← HCH.out, h1, h2, h3] at hv
        simp only [beq_self_eq_true, Bool.true_and] at hv
        have HV1 := Lib.hid hv
        have HC1 := Lib.hid h1
        have HH2 := Lib.hid h2
        have HH3 := Lib.hid h3
        rw [h2, h3] at HB0 HX0 ⊢
        subst h1
        clear HV hv h2 h3 HC1
        generalize hm : l0.length = m at *
        have HM := Lib.hid hm
        clear hm
        go_enter Tryd.func24, Tryd.ntmps24
        go_wp2_with (go_at_call 14; refine (HC.out _ HB0.out).mono ?_; rintro e w1 ⟨rfl, hb1⟩; have HX1 := Lib.hid ((hb1.block _ (by simp)).trans HX0.out); have HB1 := Lib.hid (below_then HB0.out HB0.out.size hb1); clear hb1; have d0 : w1.cell? ⟨w.heap.size, 0, none⟩ = some (.slice A1_0 m c1_0) := (cell_of_row w1 w.heap.size 0 _ _ _ HX1.out).trans rfl; have d1 : w1.cell? ⟨w.heap.size, 1, none⟩ = some (.slice A1_1 m c1_1) := (cell_of_row w1 w.heap.size 1 _ _ _ HX1.out).trans rfl)
        clear d0 d1
        go_loopw [5, 6, 28] (fun _ _ i wr => ∃ k : Nat, k ≤ m ∧ i = .int .i64 k ∧ Hid (V = rightFrom l0 l1_0 l1_1 (m - k) k) ∧ Hid (wr.heap[w.heap.size]? = some (.cells #[.slice A1_0 m c1_0, .slice A1_1 m c1_1] 28 (0, 0))) ∧ Hid (Below w.heap.size w wr)) (fun _ _ i _ => m - (intOf i).toNat)
        case atStart => exact ⟨0, by omega, rfl, HV1, HX1, HB1⟩
        case round =>
          obtain ⟨k, hk, rfl, hv, hx, hbw⟩ := hrel
          clear HX1 HB1
          by_cases hlt : k < m
          · have hlt' : (k : Int) < m := by omega
            have hk0 : (0 : Int) ≤ k := by omega
            have hbel : Below w.heap.size w wr := hbw.out
            obtain ⟨ad, cs, rfl, _, hK, hcs⟩ := Kd.C_cells (Kd.C_below HR.out hbel) k (by rw [HM.out]; exact hlt)
            obtain rfl := k48_open hK
            obtain ⟨a0, rfl, hi0⟩ := Kd.int_at (Kd.C_below HR0.out hbel) k (by rw [HH2.out]; exact hlt)
            obtain ⟨a1, rfl, hi1⟩ := Kd.bool_at (Kd.C_below HR1.out hbel) k (by rw [HH3.out]; exact hlt)
            have hn := rightFrom_next l0 l1_0 l1_1 m k HM.out hlt
            have hv' := hv.out
            rw [hn] at hv'
            have HV2 := Lib.hid hv'
            have HCS := Lib.hid (show CellsAt wr (ad.add (k * 4)) _ from hcs)
            have HI0 := Lib.hid hi0
            have HI1 := Lib.hid hi1
            have HX := Lib.hid hx.out
            clear hcs hK hn hv hv' hi0 hi1 hx hbel
            generalize l0[k]'(by rw [HM.out]; exact hlt) = t at *
            generalize l1_0.getD k 0 = v at *
            generalize l1_1.getD k false = bd at *
            go_wp2_with (with_reducible refine wpList_load_at rfl 48 (.tmp 31) rfl (ad.add (k * 4)) rfl _ _ HCS.out Tryd.underlying48 rfl (by kernel_rfl) ?_)
            have HT0 := Lib.hid (heap_alloc_new wr (.cells #[.string t.f0, .bool t.f1, .int .i64 t.f2, .int .i64 t.f3] 48))
            have HX2 := Lib.hid ((Below.heap_alloc wr (.cells #[.string t.f0, .bool t.f1, .int .i64 t.f2, .int .i64 t.f3] 48) w.heap.size (heap_lt HX.out)).trans HX.out)
            have HB2 := Lib.hid (hbw.out.alloc hbw.out.size (.cells #[.string t.f0, .bool t.f1, .int .i64 t.f2, .int .i64 t.f3] 48))
            have HJ0 := Lib.hid (((Below.refl wr.heap.size wr).alloc (Nat.le_refl _) (.cells #[.string t.f0, .bool t.f1, .int .i64 t.f2, .int .i64 t.f3] 48)).cell (p := a0.add k) (block_lt_of_cell HI0.out) |>.trans HI0.out)
            have HJ1 := Lib.hid (((Below.refl wr.heap.size wr).alloc (Nat.le_refl _) (.cells #[.string t.f0, .bool t.f1, .int .i64 t.f2, .int .i64 t.f3] 48)).cell (p := a1.add k) (block_lt_of_cell HI1.out) |>.trans HI1.out)
            generalize wr.alloc (.cells #[.string t.f0, .bool t.f1, .int .i64 t.f2, .int .i64 t.f3] 48) = w2 at *
            refine L.grow_start [] 24 ((0, true, false) :: (1, true, false) :: (2, true, false) :: (3, true, false) :: (4, true, false) :: (5, true, false) :: (7, true, false) :: (8, true, false) :: (9, true, false) :: (10, true, false) :: (11, true, false) :: (6, false, true) :: (12, true, true) :: (13, true, true) :: (14, true, true) :: (15, true, true) :: (16, true, true) :: (17, true, false) :: (18, true, false) :: (19, true, true) :: (20, true, true) :: (21, true, true) :: (22, true, true) :: (23, true, true) :: []) (by kernel_rfl) (([], [6], some 33) :: ([], [3], some 34) :: ([1], [34], some 35) :: ([], [5], some 36) :: ([2, 3], [35, 36], some 37) :: ([4], [37], some 38) :: ([0, 5], [33, 38], some 39) :: ([], [3], some 40) :: ([7], [40], some 41) :: ([], [5], some 42) :: ([8, 9], [41, 42], some 43) :: ([10], [43], some 44) :: ([6, 11], [39, 44], some 45) :: ([12, 6], [45], some 46) :: ([13], [6, 46], some 47) :: ([14, 13], [47, 46], some 48) :: ([15, 13, 13], [48, 46], some 49) :: ([16], [3, 49], some 50) :: ([17, 16], [50, 49], some 51) :: ([16], [5, 49], some 52) :: ([18, 19, 16], [51, 52, 49], some 53) :: ([20, 16], [53, 49], some 54) :: ([16, 21, 13], [49, 54, 46], some 55) :: ([13, 22], [46, 55], some 56) :: []) (by kernel_rfl) (by kernel_rfl) (n := 24) rfl (by kernel_rfl) (fun _ _ _ _ _ h => h) (fun wg hog => ?_)
            refine L.growe_start (N := 58) (by rfl) ?_
            have e0 : ∀ w', Only [] wg w' → w'.cell? ⟨w.heap.size, 0, none⟩ = some (.slice (some a0) m c1_0) := fun w' q => (cell_of_row w' w.heap.size 0 _ _ _ ((hog.trans q).heap HX2.out (by simp))).trans rfl
            have e1 : ∀ w', Only [] wg w' → w'.cell? ⟨w.heap.size, 1, none⟩ = some (.slice (some a1) m c1_1) := fun w' q => (cell_of_row w' w.heap.size 1 _ _ _ ((hog.trans q).heap HX2.out (by simp))).trans rfl
            have f0 : ∀ w', Only [] wg w' → w'.cell? ⟨wr.heap.size, 0, none⟩ = some (.string t.f0) := fun w' q => (cell_of_row w' wr.heap.size 0 _ _ _ ((hog.trans q).heap HT0.out (by simp))).trans rfl
            have f1 : ∀ w', Only [] wg w' → w'.cell? ⟨wr.heap.size, 1, none⟩ = some (.bool t.f1) := fun w' q => (cell_of_row w' wr.heap.size 1 _ _ _ ((hog.trans q).heap HT0.out (by simp))).trans rfl
            have f2 : ∀ w', Only [] wg w' → w'.cell? ⟨wr.heap.size, 2, none⟩ = some (.int .i64 t.f2) := fun w' q => (cell_of_row w' wr.heap.size 2 _ _ _ ((hog.trans q).heap HT0.out (by simp))).trans rfl
            have f3 : ∀ w', Only [] wg w' → w'.cell? ⟨wr.heap.size, 3, none⟩ = some (.int .i64 t.f3) := fun w' q => (cell_of_row w' wr.heap.size 3 _ _ _ ((hog.trans q).heap HT0.out (by simp))).trans rfl
            have g0 : ∀ w', Only [] wg w' → w'.cell? (a0.add k) = some (.int .i64 v) := fun w' q => (hog.trans q).cell HJ0.out (by simp)
            have g1 : ∀ w', Only [] wg w' → w'.cell? (a1.add k) = some (.bool bd) := fun w' q => (hog.trans q).cell HJ1.out (by simp)
            have HOG := Lib.hid hog
            clear hog
            iterate 11 (first | (refine L.ge_off rfl rfl rfl (by rfl) ?_) | (refine L.ge_move rfl rfl rfl (by rfl) rfl (by simp [L.evE, L.lk, Act.eval]; rfl) ?_) | (refine L.ge_pick rfl rfl rfl (by rfl) rfl (by simp [L.evE, L.lk, Act.eval]; rfl) (by simp [L.evE, L.lk, Act.eval]; rfl) ?_) | (refine L.ge_val rfl rfl rfl (by rfl) (by intro w' hw'; simp [execOp, L.evE, L.lk, Act.eval]; go_simp; rfl) ?_))
            refine L.ge_call rfl rfl rfl (by rfl) rfl (by simp [L.evE, L.lk, Act.eval]; rfl) (by go_simp) ?_
            obtain ⟨y, hy⟩ : ∃ y, y = nearT t v := ⟨_, rfl⟩
            have HY := Lib.hid hy
            refine (tags_within.calls t.f0 t.f1 t.f2 t.f3 v y wg (by rw [hy]; rfl)).mono ?_
            clear hy
            rintro e w3 ⟨rfl, hb3⟩
            refine ⟨_, rfl, Only.of_below hb3, ?_⟩
            have HO3 := Lib.hid (Only.of_below hb3)
            have e0 : ∀ w', Only [] w3 w' → w'.cell? ⟨w.heap.size, 0, none⟩ = some (.slice (some a0) m c1_0) := fun w' q => e0 w' (HO3.out.trans q)
            have e1 : ∀ w', Only [] w3 w' → w'.cell? ⟨w.heap.size, 1, none⟩ = some (.slice (some a1) m c1_1) := fun w' q => e1 w' (HO3.out.trans q)
            have f1 : ∀ w', Only [] w3 w' → w'.cell? ⟨wr.heap.size, 1, none⟩ = some (.bool t.f1) := fun w' q => f1 w' (HO3.out.trans q)
            have g0 : ∀ w', Only [] w3 w' → w'.cell? (a0.add k) = some (.int .i64 v) := fun w' q => g0 w' (HO3.out.trans q)
            have g1 : ∀ w', Only [] w3 w' → w'.cell? (a1.add k) = some (.bool bd) := fun w' q => g1 w' (HO3.out.trans q)
            have HB3 := Lib.hid (below_then HB2.out HB2.out.size (HOG.out.trans HO3.out).nil_below)
            have HX3 := Lib.hid ((HOG.out.trans HO3.out).heap HX2.out (by simp))
            clear hb3
            have hra : rightAt t v bd = (!(y != v) && !(t.f1 && bd)) := by
              unfold rightAt
              rw [HY.out]
              simp [bne]
            have hv2 := HV2.out
            rw [hra] at hv2
            have HV3 := Lib.hid hv2
            clear HV2 hv2 hra HY HCS
            generalize ht1 : t.f1 = o at *
            clear ht1
            cases hyb : (y != v) <;> cases o <;> cases bd
            all_goals
              iterate 12 (first | (refine L.ge_off rfl rfl rfl (by rfl) ?_) | (refine L.ge_move rfl rfl rfl (by rfl) rfl (by simp [L.evE, L.lk, Act.eval]; rfl) ?_) | (refine L.ge_pick rfl rfl rfl (by rfl) rfl (by simp [L.evE, L.lk, Act.eval]; rfl) (by simp [L.evE, L.lk, Act.eval]; rfl) ?_) | (refine L.ge_val rfl rfl rfl (by rfl) (by intro w' hw'; simp [execOp, L.evE, L.lk, Act.eval]; go_simp; rfl) ?_))
              refine L.ge_done ?_
              simp only [L.puts, Act.put, goInt, List.setIfInBounds_toArray, List.set_cons_zero, List.set_cons_succ]
              have hv3 := HV3.out
              rw [hyb] at hv3
              simp only [Bool.not_true, Bool.not_false, Bool.and_true, Bool.and_false, Bool.true_and, Bool.false_and] at hv3
              have HV4 := Lib.hid hv3
              clear HV3 hv3
              go_wp2
              first
                | (go_roundw
                   case rel => exact ⟨k + 1, by omega, by go_num, HV4, HX3, HB3⟩
                   case measure => simp [intOf]; omega)
                | (go_ret
                   exact ⟨by rw [HV4.out]; rfl, HB3.out⟩)
          · obtain rfl : k = m := by omega
            have hv' := hv.out
            rw [Nat.sub_self] at hv'
            have HV2 := Lib.hid hv'
            clear hv hv'
            go_wp2
            go_ret
            exact ⟨by rw [HV2.out]; rfl, hbw.out⟩
      · have hv := HV.out
        unfold rightB at hv
        have hb3 : (l1_1.length == l0.length) = false := by simpa using h3
        have hb3' : ((l1_1.length : Int) != l0.length) = true := by rw [bne_iff_ne]; omega
        rw [hb3, Bool.and_false, Bool.false_and] at hv
        have HV1 := Lib.hid hv
        have HH2 := Lib.hid h2
        have hb2' : ((l1_0.length : Int) != l0.length) = false := by rw [bne_eq_false_iff_eq]; omega
        have HC1 := Lib.hid h1
        subst h1
        clear HV hv h2 h3 hb3
        go_enter Tryd.func24, Tryd.ntmps24
        go_wp2_with (go_at_call 14; refine (HC.out _ HB0.out).mono ?_; rintro e w1 ⟨rfl, hb1⟩; have HX1 := Lib.hid ((hb1.block _ (by simp)).trans HX0.out); have HB1 := Lib.hid (below_then HB0.out HB0.out.size hb1); clear hb1; have d0 : w1.cell? ⟨w.heap.size, 0, none⟩ = some (.slice A1_0 l1_0.length c1_0) := (cell_of_row w1 w.heap.size 0 _ _ _ HX1.out).trans rfl; have d1 : w1.cell? ⟨w.heap.size, 1, none⟩ = some (.slice A1_1 l1_1.length c1_1) := (cell_of_row w1 w.heap.size 1 _ _ _ HX1.out).trans rfl)
        go_ret
        exact ⟨by rw [HV1.out]; rfl, HB1.out⟩
    · have hv := HV.out
      unfold rightB at hv
      have hb2 : (l1_0.length == l0.length) = false := by simpa using h2
      have hb2' : ((l1_0.length : Int) != l0.length) = true := by rw [bne_iff_ne]; omega
      rw [hb2, Bool.and_false, Bool.false_and, Bool.false_and] at hv
      have HV1 := Lib.hid hv
      subst h1
      clear HV hv h2 hb2
      go_enter Tryd.func24, Tryd.ntmps24
      go_wp2_with (go_at_call 14; refine (HC.out _ HB0.out).mono ?_; rintro e w1 ⟨rfl, hb1⟩; have HX1 := Lib.hid ((hb1.block _ (by simp)).trans HX0.out); have HB1 := Lib.hid (below_then HB0.out HB0.out.size hb1); clear hb1; have d0 : w1.cell? ⟨w.heap.size, 0, none⟩ = some (.slice A1_0 l1_0.length c1_0) := (cell_of_row w1 w.heap.size 0 _ _ _ HX1.out).trans rfl; have d1 : w1.cell? ⟨w.heap.size, 1, none⟩ = some (.slice A1_1 l1_1.length c1_1) := (cell_of_row w1 w.heap.size 1 _ _ _ HX1.out).trans rfl)
      go_ret
      exact ⟨by rw [HV1.out]; rfl, HB1.out⟩
  · have hv := HV.out
    unfold rightB at hv
    have hb1 : (checkZ l0 == 0) = false := by rw [← HCH.out]; simpa using h1
    have hb1' : (ch != 0) = true := by simpa using h1
    rw [hb1, Bool.false_and, Bool.false_and, Bool.false_and] at hv
    have HV1 := Lib.hid hv
    clear HV hv h1 hb1
    go_enter Tryd.func24, Tryd.ntmps24
    go_wp2_with (go_at_call 14; refine (HC.out _ HB0.out).mono ?_; rintro e w1 ⟨rfl, hb1⟩; have HB1 := Lib.hid (below_then HB0.out HB0.out.size hb1); clear hb1)
    go_ret
    exact ⟨by rw [HV1.out]; rfl, HB1.out⟩
end Go.Proofs.YtbmdhmmahmdccaaDoor.Print
/-! ### EClone -/
namespace Go.Proofs.YtbmdhmmahmdccaaDoor.Print
open Go.RowKit Go.Proofs.YtbmdhmmahmdccaaDoorW.PrintWords Go.Proofs.YtbmdhmmahmdccaaDoorW.PrintLast Go.Proofs.YtbmdhmmahmdccaaDoorW.PrintMore
set_option linter.unusedSimpArgs false
set_option linter.unusedVariables false
set_option maxHeartbeats 8000000 in
set_option maxRecDepth 100000 in
theorem clone_ints (A : Option Addr) (c : Nat) (l : List Int) (w : World) (hr : Kd.C (Kd.int .i64) w A l.length l) (hl : l.length ≤ 1000000000) :
    Calls Tryd.prog 44 #[.slice A l.length c] w fun e w' => ∃ v, e = .returned v ∧ Kd.R (Kd.int .i64) 3 w' w.heap.size (fun _ => True) v l ∧ Below w.heap.size w w' := by
  have q : ∀ (w : World) (a : Option Addr) (n c n' c' : Nat), (binOp .eql 25 (.slice a n c) (.slice none n' c')).run Tryd.prog w = .ok (.bool a.isNone) w := fun w a n c n' c' => Lib.run_eql_slice_nil w _ _ a n c n' c' Tryd.underlying25
  obtain ⟨news, hn, ha, ho⟩ := Kd.C_flat hr
  cases A with
  | none =>
    have h0 : l = [] := by
      rcases Nat.eq_zero_or_pos l.length with h | h
      · exact List.eq_nil_of_length_eq_zero h
      · obtain ⟨ad, h1, _⟩ := ha h
        cases h1
    subst h0
    clear hn ha ho hr
    go_enter Tryd.func44, Tryd.ntmps44
    go_wp2
    go_ret
    exact ⟨_, rfl, Kd.R_nil _ _ _ _ _, Below.refl _ _⟩
  | some ad =>
    have HL := Lib.hid (show news.length = l.length * 1 from hn.1)
    have HN := Lib.hid hn
    have HA := Lib.hid ha
    have HO := Lib.hid ho
    clear hr hn ha ho
    generalize hm : l.length = m at *
    have HM := Lib.hid hm
    clear hm
    go_enter Tryd.func44, Tryd.ntmps44
    go_wp2_with (at_builtin; refine wpList_append_row rfl _ _ 25 rfl w.heap.size 3 1 8 (.int .i64 0) Tryd.underlying25 info3 rfl (by omega) (.slice (some ⟨w.heap.size, 0, none⟩) 0 0) 0 [] rfl (World.ownsRow_made w #[] 0 (Nat.le_refl _) (Nat.zero_le _) (by simp)) (some ad) m c news rfl HL.out (fun hp => by obtain ⟨a2, h1, h2⟩ := HA.out hp; exact ⟨a2, h1, h2.below ((Below.refl _ _).alloc (Nat.le_refl _) _)⟩) HO.out (by unfold maxLen; omega) (by omega) (by simp) ?_; intro A' c' w' h2 h3 h4; have H2 := Lib.hid h2; have H3 := Lib.hid h3; clear h2 h3 h4)
    go_ret
    have h2 := H2.out
    rw [Nat.zero_add, List.nil_append] at h2
    refine ⟨_, rfl, Kd.R_of_own (news := news) (fun x cs h => h) HN.out (by rw [HM.out]; exact h2), ?_⟩
    exact ((Only.refl [w.heap.size] w).alloc _ |>.then H3.out (by intro i hi; simp [Value.ownBlock] at hi; left; simp [hi])).pop (Nat.le_refl _) |>.nil_below
set_option maxHeartbeats 8000000 in
set_option maxRecDepth 100000 in
theorem clone_bools (A : Option Addr) (c : Nat) (l : List Bool) (w : World) (hr : Kd.C Kd.bool w A l.length l) (hl : l.length ≤ 1000000000) :
    Calls Tryd.prog 45 #[.slice A l.length c] w fun e w' => ∃ v, e = .returned v ∧ Kd.R Kd.bool 4 w' w.heap.size (fun _ => True) v l ∧ Below w.heap.size w w' := by
  have q : ∀ (w : World) (a : Option Addr) (n c n' c' : Nat), (binOp .eql 26 (.slice a n c) (.slice none n' c')).run Tryd.prog w = .ok (.bool a.isNone) w := fun w a n c n' c' => Lib.run_eql_slice_nil w _ _ a n c n' c' Tryd.underlying26
  obtain ⟨news, hn, ha, ho⟩ := Kd.C_flat hr
  cases A with
  | none =>
    have h0 : l = [] := by
      rcases Nat.eq_zero_or_pos l.length with h | h
      · exact List.eq_nil_of_length_eq_zero h
      · obtain ⟨ad, h1, _⟩ := ha h
        cases h1
    subst h0
    clear hn ha ho hr
    go_enter Tryd.func45, Tryd.ntmps45
    go_wp2
    go_ret
    exact ⟨_, rfl, Kd.R_nil _ _ _ _ _, Below.refl _ _⟩
  | some ad =>
    have HL := Lib.hid (show news.length = l.length * 1 from hn.1)
    have HN := Lib.hid hn
    have HA := Lib.hid ha
    have HO := Lib.hid ho
    clear hr hn ha ho
    generalize hm : l.length = m at *
    have HM := Lib.hid hm
    clear hm
    go_enter Tryd.func45, Tryd.ntmps45
    go_wp2_with (at_builtin; refine wpList_append_row rfl _ _ 26 rfl w.heap.size 4 1 1 (.bool false) Tryd.underlying26 info4 rfl (by omega) (.slice (some ⟨w.heap.size, 0, none⟩) 0 0) 0 [] rfl (World.ownsRow_made w #[] 0 (Nat.le_refl _) (Nat.zero_le _) (by simp)) (some ad) m c news rfl HL.out (fun hp => by obtain ⟨a2, h1, h2⟩ := HA.out hp; exact ⟨a2, h1, h2.below ((Below.refl _ _).alloc (Nat.le_refl _) _)⟩) HO.out (by unfold maxLen; omega) (by omega) (by simp) ?_; intro A' c' w' h2 h3 h4; have H2 := Lib.hid h2; have H3 := Lib.hid h3; clear h2 h3 h4)
    go_ret
    have h2 := H2.out
    rw [Nat.zero_add, List.nil_append] at h2
    refine ⟨_, rfl, Kd.R_of_own (news := news) (fun x cs h => h) HN.out (by rw [HM.out]; exact h2), ?_⟩
    exact ((Only.refl [w.heap.size] w).alloc _ |>.then H3.out (by intro i hi; simp [Value.ownBlock] at hi; left; simp [hi])).pop (Nat.le_refl _) |>.nil_below
end Go.Proofs.YtbmdhmmahmdccaaDoor.Print
