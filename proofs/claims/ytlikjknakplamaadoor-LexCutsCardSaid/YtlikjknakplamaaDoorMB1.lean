import Derived.Test.YtlikjknakplamaaDoorMB0
import Derived.ArgAppend
import Derived.Below
import Derived.BigQuiet
import Derived.Deep.AppendLies
import Derived.Deep.CutBlock
import Derived.Deep.DeepCutAuto
import Derived.Deep.Draws
import Derived.Deep.LoopGhost
import Derived.Deep.OwnRows
import Derived.Deep.QuietTactic
import Derived.Deep.RegionHeld3
import Derived.Deep.Slices
import Derived.Great.BuildSlice
import Derived.Ground.NamesProg
import Derived.KernelRfl
import Derived.Laws.BitsLemmas
import Derived.Laws.BytesArg
import Derived.Laws.CopyOwn
import Derived.Laws.IdiomCopy
import Derived.Laws.MakeOwn
import Derived.Laws.OwnMore
import Derived.Laws.RangeAny
import Derived.Laws.Rows
import Derived.Laws.Slices
import Derived.Lib.AppendStr
import Derived.Lib.ConvBytes
import Derived.Lib.CutLaws
import Derived.Lib.DecodeN
import Derived.Lib.Hide
import Derived.Lib.IndexLaws
import Derived.Lib.LaidU8T
import Derived.Lib.OthersKept
import Derived.Lib.RuneCount
import Derived.Lib.SmallJoins
import Derived.Lib.ValidLaws
import Derived.Maps.AppendAt
import Derived.OrdersHeld
import Derived.OwnWalk
import Derived.RegionTactic
import Derived.RowKit
import Derived.RowKit3
import Derived.Shelf.LaysM
import Derived.Shelf.Small.Strs
import Derived.Shelf.Strconv.Itoa0
import Derived.Shelf.Strconv.Itoa1
import Derived.Shelf.Strconv.Itoa2
import Derived.Shelf.Strconv.Itoa3
import Derived.Shelf.Strings.Cut
import Derived.Shelf.Strings.Search1
import Derived.Shelf.Strings.Search2
import Derived.Shelf.Strings.Shaped
import Derived.Shelf.Unicode.DecodeAny
import Derived.Shelf.Unicode.DecodeSlow
import Derived.Shelf.Unicode.ValidAny
import Derived.Shelf.Utf8.RuneCount
import Derived.Tactics
import Derived.Test.YtlikjknakplamaaDoorProg
import Derived.WalkKit
import Derived.WideLaws
set_option linter.unusedVariables false
set_option linter.unusedSimpArgs false
namespace Go.Proofs.YtlikjknakplamaaDoorW.PrintWords
end Go.Proofs.YtlikjknakplamaaDoorW.PrintWords
namespace Go.Proofs.YtlikjknakplamaaDoorW.PrintLast
end Go.Proofs.YtlikjknakplamaaDoorW.PrintLast
namespace Go.Proofs.YtlikjknakplamaaDoorW.PrintMore
end Go.Proofs.YtlikjknakplamaaDoorW.PrintMore
/-! ### Shelf -/
namespace Go.Proofs
open Go.Shelf
def Tryd.lays137_ren : Go.Shelf.Ren := ⟨fun | 137 => 35 | 217 => 48 | 266 => 53 | n => n, fun | 9 => 9 | 5 => 5 | 3 => 3 | n => n, fun | n => n⟩
theorem Tryd.lays137 : Go.Proofs.Lays.n137 Tryd.prog Tryd.lays137_ren := {
  mixed := by kernel_rfl
  f137 := Tryd.func35.trans (congrArg some (by kernel_rfl))
  f217 := Tryd.func48.trans (congrArg some (by kernel_rfl))
  f266 := Tryd.func53.trans (congrArg some (by kernel_rfl))
  t3 := Tryd.underlying3
  a3 := Tryd.isAgg3
  z3 := Tryd.sizeOf3
  v3 := Tryd.zeroValue3
  t5 := Tryd.underlying5
  a5 := Tryd.isAgg5
  z5 := Tryd.sizeOf5
  v5 := Tryd.zeroValue5
  t9 := Tryd.underlying9
  a9 := Tryd.isAgg9
  z9 := Tryd.sizeOf9
  v9 := Tryd.zeroValue9 }
open Go.RowKit in
/-- strings.IndexByte: "IndexByte returns the index of the first instance of c in s, or -1 if c is not present in s.": IT RETURNS 'Lib.indexByte s c'; the world is as it was. (LAID: no walk: one application.) -/
theorem Tryd.strings_IndexByte (s : ByteArray) (c : Int) (w : World) :
    Calls Tryd.prog 35 #[.string s, .int .u8 c] w fun e w' => e = .returned (.int .i64 (Lib.indexByte s.data.toList c.toNat.toUInt8)) ∧ w' = w := Any.strings_IndexByte Tryd.lays137 s c w
def Tryd.lays195_ren : Go.Shelf.Ren := ⟨fun | 195 => 38 | n => n, fun | 9 => 9 | 3 => 3 | 0 => 0 | 4 => 4 | n => n, fun | n => n⟩
theorem Tryd.lays195 : Go.Proofs.Lays.n195 Tryd.prog Tryd.lays195_ren := {
  mixed := by kernel_rfl
  f195 := Tryd.func38.trans (congrArg some (by kernel_rfl))
  t0 := Tryd.underlying0
  a0 := Tryd.isAgg0
  z0 := Tryd.sizeOf0
  v0 := Tryd.zeroValue0
  t3 := Tryd.underlying3
  a3 := Tryd.isAgg3
  z3 := Tryd.sizeOf3
  v3 := Tryd.zeroValue3
  t4 := Tryd.underlying4
  a4 := Tryd.isAgg4
  z4 := Tryd.sizeOf4
  v4 := Tryd.zeroValue4
  t9 := Tryd.underlying9
  a9 := Tryd.isAgg9
  z9 := Tryd.sizeOf9
  v9 := Tryd.zeroValue9 }
open Go.RowKit in
/-- unicode/utf8.RuneCountInString: "RuneCountInString is like RuneCount but its input is a string." ("RuneCount returns the number of runes in p. Erroneous and short encodings are treated as single runes of width 1 byte."): EVERY STRING, valid UTF-8 or not: 'Lib.runeCount s' (plain Lean over the model's own 'Utf8.decode'; 'Lib.runeCount_le': at most len(s); 'Lib.runeCount_ascii': on ASCII: len(s)). THE ONE CONDITION: len(s) below 2^63 - 1 (the counter does not wrap): the form's reach pays it. THE WORLD BEHIND THE CALL: ONE BLOCK MORE: the model's iterator over s, at its end: all else as it was. (LAID: no walk: one application.) -/
theorem Tryd.utf8_RuneCountInString (s : ByteArray) (w : World) (hs : s.size < 9223372036854775807) :
    Calls Tryd.prog 38 #[.string s] w fun e w' => e = .returned (.int .i64 (Lib.runeCount s)) ∧ ∃ pos, w' = w.iter s pos := Any.utf8_RuneCountInString Tryd.lays195 s w hs
def Tryd.laysM171_ren : Go.Shelf.Ren := ⟨fun | 171 => 36 | 243 => 49 | 246 => 54 | 283 => 56 | 284 => 57 | 285 => 58 | 286 => 59 | 129 => 62 | 317 => 61 | 318 => 63 | 319 => 64 | 320 => 65 | 337 => 69 | 338 => 70 | n => n, fun | 3 => 3 | 9 => 9 | 2 => 2 | 4 => 4 | 171 => 77 | 0 => 0 | 53 => 59 | 37 => 60 | 5 => 5 | 173 => 80 | 212 => 84 | 51 => 85 | 20 => 20 | 213 => 86 | 46 => 73 | 232 => 91 | 233 => 92 | n => n, fun | 17 => 3 | 18 => 4 | 19 => 5 | n => n⟩
theorem Tryd.laysM171 : Go.Proofs.LaysM.n171 Tryd.prog Tryd.laysM171_ren := {
  mixed := by kernel_rfl
  f129 := Tryd.func62.trans (congrArg some (by kernel_rfl))
  f171 := Tryd.func36.trans (congrArg some (by kernel_rfl))
  f243 := Tryd.func49.trans (congrArg some (by kernel_rfl))
  f246 := Tryd.func54.trans (congrArg some (by kernel_rfl))
  f283 := Tryd.func56.trans (congrArg some (by kernel_rfl))
  f284 := Tryd.func57.trans (congrArg some (by kernel_rfl))
  f285 := Tryd.func58.trans (congrArg some (by kernel_rfl))
  f286 := Tryd.func59.trans (congrArg some (by kernel_rfl))
  f317 := Tryd.func61.trans (congrArg some (by kernel_rfl))
  f318 := Tryd.func63.trans (congrArg some (by kernel_rfl))
  f319 := Tryd.func64.trans (congrArg some (by kernel_rfl))
  f320 := Tryd.func65.trans (congrArg some (by kernel_rfl))
  f337 := Tryd.func69.trans (congrArg some (by kernel_rfl))
  f338 := Tryd.func70.trans (congrArg some (by kernel_rfl))
  t0 := Tryd.underlying0
  a0 := Tryd.isAgg0
  z0 := Tryd.sizeOf0
  v0 := Tryd.zeroValue0
  t2 := Tryd.underlying2
  a2 := Tryd.isAgg2
  z2 := Tryd.sizeOf2
  v2 := Tryd.zeroValue2
  t3 := Tryd.underlying3
  a3 := Tryd.isAgg3
  z3 := Tryd.sizeOf3
  v3 := Tryd.zeroValue3
  t4 := Tryd.underlying4
  a4 := Tryd.isAgg4
  z4 := Tryd.sizeOf4
  v4 := Tryd.zeroValue4
  t5 := Tryd.underlying5
  a5 := Tryd.isAgg5
  z5 := Tryd.sizeOf5
  v5 := Tryd.zeroValue5
  t9 := Tryd.underlying9
  a9 := Tryd.isAgg9
  z9 := Tryd.sizeOf9
  v9 := Tryd.zeroValue9
  t20 := Tryd.underlying20
  a20 := Tryd.isAgg20
  z20 := Tryd.sizeOf20
  v20 := Tryd.zeroValue20
  t37 := Tryd.underlying60
  a37 := Tryd.isAgg60
  z37 := Tryd.sizeOf60
  v37 := Tryd.zeroValue60
  t46 := Tryd.underlying73
  a46 := Tryd.isAgg73
  z46 := Tryd.sizeOf73
  v46 := Tryd.zeroValue73
  t51 := Tryd.underlying85
  a51 := Tryd.isAgg85
  z51 := Tryd.sizeOf85
  v51 := Tryd.zeroValue85
  t53 := Tryd.underlying59
  a53 := Tryd.isAgg59
  z53 := Tryd.sizeOf59
  v53 := Tryd.zeroValue59
  t171 := Tryd.underlying77
  a171 := Tryd.isAgg77
  z171 := Tryd.sizeOf77
  v171 := Tryd.zeroValue77
  t173 := Tryd.underlying80
  a173 := Tryd.isAgg80
  z173 := Tryd.sizeOf80
  v173 := Tryd.zeroValue80
  t212 := Tryd.underlying84
  a212 := Tryd.isAgg84
  z212 := Tryd.sizeOf84
  v212 := Tryd.zeroValue84
  t213 := Tryd.underlying86
  a213 := Tryd.isAgg86
  z213 := Tryd.sizeOf86
  t232 := Tryd.underlying91
  a232 := Tryd.isAgg91
  z232 := Tryd.sizeOf91
  v232 := Tryd.zeroValue91
  t233 := Tryd.underlying92
  a233 := Tryd.isAgg92
  z233 := Tryd.sizeOf92
  v233 := Tryd.zeroValue92
  g17 := by kernel_rfl
  g18 := by kernel_rfl
  g19 := by kernel_rfl
  i0 := by kernel_rfl
  i2 := by kernel_rfl
  i3 := by kernel_rfl
  i4 := by kernel_rfl
  i5 := by kernel_rfl
  i9 := by kernel_rfl
  i20 := by kernel_rfl
  i37 := by kernel_rfl
  i46 := by kernel_rfl
  i51 := by kernel_rfl
  i53 := by kernel_rfl
  i171 := by kernel_rfl
  i173 := by kernel_rfl
  i212 := by kernel_rfl
  i232 := by kernel_rfl
  i233 := by kernel_rfl
  m17 := by kernel_rfl
  m18 := by kernel_rfl
  m19 := by kernel_rfl }
open Go.RowKit Go.Sort Go.Lib in
/-- strconv.Itoa: "Itoa is equivalent to FormatInt(int64(i), 10).": i's DECIMAL NUMERAL ('Lib.itoa': a '-' where i is negative, then the digits), FOR EVERY int. The world behind the call: the world before it, new blocks behind the heap (the library's 'var a [24]byte'), draws. (LAID: no walk: one application.) -/
theorem Tryd.strconv_Itoa (n : Int) (h0 : -9223372036854775808 ≤ n) (h1 : n ≤ 9223372036854775807) (w : World) (htab : Lib.TabIs Tryd.prog w "internal/strconv.uint64pow10" .u64 Lib.pow10Tab) :
    Calls Tryd.prog 36 #[.int .i64 n] w fun e w' => e = .returned (.string ⟨(Lib.itoa n).toArray⟩) ∧ ∃ k os, w' = grow (w.drewN k) os := Any.strconv_Itoa Tryd.laysM171 n h0 h1 w htab
def Tryd.lays145_ren : Go.Shelf.Ren := ⟨fun | 145 => 52 | 220 => 55 | 219 => 60 | 217 => 48 | 225 => 66 | 224 => 67 | 267 => 68 | 266 => 53 | 314 => 71 | n => n, fun | 9 => 9 | 4 => 4 | 59 => 74 | 3 => 3 | 5 => 5 | 46 => 73 | 146 => 89 | 51 => 85 | n => n, fun | 1 => 2 | n => n⟩
theorem Tryd.lays145 : Go.Proofs.Lays.n145 Tryd.prog Tryd.lays145_ren := {
  mixed := by kernel_rfl
  f145 := Tryd.func52.trans (congrArg some (by kernel_rfl))
  f217 := Tryd.func48.trans (congrArg some (by kernel_rfl))
  f219 := Tryd.func60.trans (congrArg some (by kernel_rfl))
  f220 := Tryd.func55.trans (congrArg some (by kernel_rfl))
  f224 := Tryd.func67.trans (congrArg some (by kernel_rfl))
  f225 := Tryd.func66.trans (congrArg some (by kernel_rfl))
  f266 := Tryd.func53.trans (congrArg some (by kernel_rfl))
  f267 := Tryd.func68.trans (congrArg some (by kernel_rfl))
  f314 := Tryd.func71.trans (congrArg some (by kernel_rfl))
  t3 := Tryd.underlying3
  a3 := Tryd.isAgg3
  z3 := Tryd.sizeOf3
  v3 := Tryd.zeroValue3
  t4 := Tryd.underlying4
  a4 := Tryd.isAgg4
  z4 := Tryd.sizeOf4
  v4 := Tryd.zeroValue4
  t5 := Tryd.underlying5
  a5 := Tryd.isAgg5
  z5 := Tryd.sizeOf5
  v5 := Tryd.zeroValue5
  t9 := Tryd.underlying9
  a9 := Tryd.isAgg9
  z9 := Tryd.sizeOf9
  v9 := Tryd.zeroValue9
  t46 := Tryd.underlying73
  a46 := Tryd.isAgg73
  z46 := Tryd.sizeOf73
  v46 := Tryd.zeroValue73
  t51 := Tryd.underlying85
  a51 := Tryd.isAgg85
  z51 := Tryd.sizeOf85
  v51 := Tryd.zeroValue85
  t59 := Tryd.underlying74
  a59 := Tryd.isAgg74
  z59 := Tryd.sizeOf74
  v59 := Tryd.zeroValue74
  t146 := Tryd.underlying89
  a146 := Tryd.isAgg89
  z146 := Tryd.sizeOf89
  v146 := Tryd.zeroValue89
  g1 := by kernel_rfl }
open Go.RowKit Go.Lib in
/-- strings.Cut: "Cut slices s around the first instance of sep, returning the text before and after sep. The found result reports whether sep appears in s. If sep does not appear in s, cut returns s, "", false.": IT RETURNS 'Lib.cut s sep'; the world is as it was but for the count of draws. (LAID: no walk: one application.) -/
theorem Tryd.strings_Cut (s sep : ByteArray) (m : Int) (w : World) (hs : s.size < 4294967281) (hm : w.cell? ⟨2, 0, none⟩ = some (.int .i64 m)) :
    Calls Tryd.prog 52 #[.string s, .string sep] w fun e w' => e = .returned (.tuple #[.string ⟨(Lib.cut s.data.toList sep.data.toList).1.toArray⟩, .string ⟨(Lib.cut s.data.toList sep.data.toList).2.1.toArray⟩, .bool (Lib.cut s.data.toList sep.data.toList).2.2]) ∧ ∃ n, w' = w.drewN n := Any.strings_Cut Tryd.lays145 s sep m w hs hm
def Tryd.laysM145_ren : Go.Shelf.Ren := ⟨fun | 145 => 52 | 220 => 55 | 219 => 60 | 217 => 48 | 225 => 66 | 224 => 67 | 267 => 68 | 266 => 53 | 314 => 71 | n => n, fun | 9 => 9 | 4 => 4 | 59 => 74 | 3 => 3 | 5 => 5 | 46 => 73 | 146 => 89 | 51 => 85 | n => n, fun | 1 => 2 | n => n⟩
theorem Tryd.laysM145 : Go.Proofs.LaysM.n145 Tryd.prog Tryd.laysM145_ren := {
  mixed := by kernel_rfl
  f145 := Tryd.func52.trans (congrArg some (by kernel_rfl))
  f217 := Tryd.func48.trans (congrArg some (by kernel_rfl))
  f219 := Tryd.func60.trans (congrArg some (by kernel_rfl))
  f220 := Tryd.func55.trans (congrArg some (by kernel_rfl))
  f224 := Tryd.func67.trans (congrArg some (by kernel_rfl))
  f225 := Tryd.func66.trans (congrArg some (by kernel_rfl))
  f266 := Tryd.func53.trans (congrArg some (by kernel_rfl))
  f267 := Tryd.func68.trans (congrArg some (by kernel_rfl))
  f314 := Tryd.func71.trans (congrArg some (by kernel_rfl))
  t3 := Tryd.underlying3
  a3 := Tryd.isAgg3
  z3 := Tryd.sizeOf3
  v3 := Tryd.zeroValue3
  t4 := Tryd.underlying4
  a4 := Tryd.isAgg4
  z4 := Tryd.sizeOf4
  v4 := Tryd.zeroValue4
  t5 := Tryd.underlying5
  a5 := Tryd.isAgg5
  z5 := Tryd.sizeOf5
  v5 := Tryd.zeroValue5
  t9 := Tryd.underlying9
  a9 := Tryd.isAgg9
  z9 := Tryd.sizeOf9
  v9 := Tryd.zeroValue9
  t46 := Tryd.underlying73
  a46 := Tryd.isAgg73
  z46 := Tryd.sizeOf73
  v46 := Tryd.zeroValue73
  t51 := Tryd.underlying85
  a51 := Tryd.isAgg85
  z51 := Tryd.sizeOf85
  v51 := Tryd.zeroValue85
  t59 := Tryd.underlying74
  a59 := Tryd.isAgg74
  z59 := Tryd.sizeOf74
  v59 := Tryd.zeroValue74
  t146 := Tryd.underlying89
  a146 := Tryd.isAgg89
  z146 := Tryd.sizeOf89
  v146 := Tryd.zeroValue89
  g1 := by kernel_rfl
  i3 := by kernel_rfl
  i4 := by kernel_rfl
  i5 := by kernel_rfl
  i9 := by kernel_rfl
  i46 := by kernel_rfl
  i51 := by kernel_rfl
  i59 := by kernel_rfl
  i146 := by kernel_rfl
  m1 := by kernel_rfl
  s1_3 := fun w h => Go.Proofs.cell_of_shapedOpen_int (zero := #[.int .i64 0]) (t := 3) h (of_decide_eq_true (by kernel_rfl)) (by kernel_rfl) rfl (by kernel_rfl) (by kernel_rfl) Tryd.underlying3 }
def Tryd.lays197_ren : Go.Shelf.Ren := ⟨fun | 197 => 41 | 260 => 51 | n => n, fun | 9 => 9 | 21 => 21 | 3 => 3 | 4 => 4 | 5 => 5 | 105 => 62 | 119 => 69 | 0 => 0 | 46 => 73 | 139 => 72 | 138 => 71 | n => n, fun | 3 => 0 | 4 => 1 | n => n⟩
theorem Tryd.lays197 : Go.Proofs.Lays.n197 Tryd.prog Tryd.lays197_ren := {
  mixed := by kernel_rfl
  f197 := Tryd.func41.trans (congrArg some (by kernel_rfl))
  f260 := Tryd.func51.trans (congrArg some (by kernel_rfl))
  t0 := Tryd.underlying0
  a0 := Tryd.isAgg0
  z0 := Tryd.sizeOf0
  v0 := Tryd.zeroValue0
  t3 := Tryd.underlying3
  a3 := Tryd.isAgg3
  z3 := Tryd.sizeOf3
  v3 := Tryd.zeroValue3
  t4 := Tryd.underlying4
  a4 := Tryd.isAgg4
  z4 := Tryd.sizeOf4
  v4 := Tryd.zeroValue4
  t5 := Tryd.underlying5
  a5 := Tryd.isAgg5
  z5 := Tryd.sizeOf5
  v5 := Tryd.zeroValue5
  t9 := Tryd.underlying9
  a9 := Tryd.isAgg9
  z9 := Tryd.sizeOf9
  v9 := Tryd.zeroValue9
  t21 := Tryd.underlying21
  a21 := Tryd.isAgg21
  z21 := Tryd.sizeOf21
  v21 := Tryd.zeroValue21
  t46 := Tryd.underlying73
  a46 := Tryd.isAgg73
  z46 := Tryd.sizeOf73
  v46 := Tryd.zeroValue73
  t105 := Tryd.underlying62
  a105 := Tryd.isAgg62
  z105 := Tryd.sizeOf62
  v105 := Tryd.zeroValue62
  t119 := Tryd.underlying69
  a119 := Tryd.isAgg69
  z119 := Tryd.sizeOf69
  t138 := Tryd.underlying71
  a138 := Tryd.isAgg71
  z138 := Tryd.sizeOf71
  v138 := Tryd.zeroValue71
  t139 := Tryd.underlying72
  a139 := Tryd.isAgg72
  z139 := Tryd.sizeOf72
  v139 := Tryd.zeroValue72
  g3 := by kernel_rfl
  g4 := by kernel_rfl }
open Go.RowKit Go.Lib in
/-- **unicode/utf8.DecodeRuneInString AT EVERY STRING.** (LAID: no walk: one application.) -/
theorem Tryd.utf8_DecodeRuneInString (s : ByteArray) (w : World) (hT : Lib.Utf8Tabs 0 1 w) :
    Calls Tryd.prog 41 #[.string s] w fun e w' => e = .returned (.tuple #[.int .i32 (Lib.decodeGo s).1, .int .i64 (Lib.decodeGo s).2]) ∧ Below w.heap.size w w' := Any.utf8_DecodeRuneInString Tryd.lays197 s w hT
def Tryd.laysValid_ren : Go.Shelf.Ren := ⟨fun | 196 => 37 | 259 => 50 | n => n, fun | 9 => 9 | 4 => 4 | 3 => 3 | 5 => 5 | 12 => 12 | 119 => 69 | 0 => 0 | 46 => 73 | 139 => 72 | 138 => 71 | 53 => 59 | n => n, fun | 3 => 0 | 4 => 1 | n => n⟩
theorem Tryd.laysValid : Go.Proofs.Lays.n196 Tryd.prog Tryd.laysValid_ren := {
  mixed := by kernel_rfl
  f196 := Tryd.func37.trans (congrArg some (by kernel_rfl))
  f259 := Tryd.func50.trans (congrArg some (by kernel_rfl))
  t0 := Tryd.underlying0
  a0 := Tryd.isAgg0
  z0 := Tryd.sizeOf0
  v0 := Tryd.zeroValue0
  t3 := Tryd.underlying3
  a3 := Tryd.isAgg3
  z3 := Tryd.sizeOf3
  v3 := Tryd.zeroValue3
  t4 := Tryd.underlying4
  a4 := Tryd.isAgg4
  z4 := Tryd.sizeOf4
  v4 := Tryd.zeroValue4
  t5 := Tryd.underlying5
  a5 := Tryd.isAgg5
  z5 := Tryd.sizeOf5
  v5 := Tryd.zeroValue5
  t9 := Tryd.underlying9
  a9 := Tryd.isAgg9
  z9 := Tryd.sizeOf9
  v9 := Tryd.zeroValue9
  t12 := Tryd.underlying12
  a12 := Tryd.isAgg12
  z12 := Tryd.sizeOf12
  v12 := Tryd.zeroValue12
  t46 := Tryd.underlying73
  a46 := Tryd.isAgg73
  z46 := Tryd.sizeOf73
  v46 := Tryd.zeroValue73
  t53 := Tryd.underlying59
  a53 := Tryd.isAgg59
  z53 := Tryd.sizeOf59
  v53 := Tryd.zeroValue59
  t119 := Tryd.underlying69
  a119 := Tryd.isAgg69
  z119 := Tryd.sizeOf69
  t138 := Tryd.underlying71
  a138 := Tryd.isAgg71
  z138 := Tryd.sizeOf71
  v138 := Tryd.zeroValue71
  t139 := Tryd.underlying72
  a139 := Tryd.isAgg72
  z139 := Tryd.sizeOf72
  v139 := Tryd.zeroValue72
  g3 := by kernel_rfl
  g4 := by kernel_rfl }
end Go.Proofs
/-! ### Tabs -/
namespace Go.Proofs.YtlikjknakplamaaDoor
open Go.RowKit Go.Shelf Go.Lib
structure Tabs (w : World) : Prop where
  u8 : Lib.Utf8Tabs (Tryd.laysValid_ren.g 3) (Tryd.laysValid_ren.g 4) w
  ten : Lib.TabIs Tryd.prog w "internal/strconv.uint64pow10" .u64 Lib.pow10Tab
  most : ∃ m, w.cell? ⟨Tryd.laysM145_ren.g 1, 0, none⟩ = some (.int .i64 m)
theorem pow_named : Tryd.prog.globalNamed "internal/strconv.uint64pow10" = some (Tryd.laysM171_ren.g 17) := by kernel_rfl
theorem Tabs.below {w w' : World} (h : Tabs w) (hb : Below w.heap.size w w') : Tabs w' := by
  refine ⟨⟨fun c hc => ?_, fun i hi => ?_⟩, Go.Joins.tab_stays pow_named h.ten hb (Nat.le_refl _), ?_⟩
  · have := h.u8.1 c hc
    exact (hb.cell (World.block_lt_of_cell? w _ this)).trans this
  · have := h.u8.2 i hi
    exact ⟨(hb.cell (World.block_lt_of_cell? w _ this.1)).trans this.1, (hb.cell (World.block_lt_of_cell? w _ this.2)).trans this.2⟩
  · obtain ⟨m, hm⟩ := h.most
    exact ⟨m, (hb.cell (World.block_lt_of_cell? w _ hm)).trans hm⟩
end Go.Proofs.YtlikjknakplamaaDoor
/-! ### Print0 -/
namespace Go.Proofs.YtlikjknakplamaaDoor.Print
open Go.RowKit Go.Proofs.YtlikjknakplamaaDoorW.PrintWords Go.Proofs.YtlikjknakplamaaDoorW.PrintLast Go.Proofs.YtlikjknakplamaaDoorW.PrintMore
set_option linter.unusedVariables false
set_option linter.unusedSimpArgs false
def errW : Option Int → Value
  | none => .nilIface
  | some c => .iface 0 (.int .i64 c)
theorem errW_none : errW none = .nilIface := rfl
theorem errW_some (c : Int) : errW (some c) = .iface 0 (.int .i64 c) := rfl
theorem info3 : (Tryd.prog.info? 3).map (fun i => (i.zero, i.size, i.bytes)) = some (some (.int .i64 0), 1, 8) := by kernel_rfl
theorem info38 : (Tryd.prog.info? 38).map (fun i => (i.zero, i.size, i.bytes)) = some (some (.agg #[(.int .i64 0), (.string ⟨#[]⟩), (.int .i64 0), (.int .i64 0)]), 4, 40) := by kernel_rfl
structure S38 where
  f0 : Int
  f1 : ByteArray
  f2 : Int
  f3 : Int
def z38 : S38 := ⟨(0 : Int), (⟨#[]⟩ : ByteArray), (0 : Int), (0 : Int)⟩
def k38 : Kd S38 := Kd.iso (Kd.pair (Kd.int .i64) (Kd.pair Kd.string (Kd.pair (Kd.int .i64) (Kd.int .i64)))) (fun x : S38 => (x.f0, x.f1, x.f2, x.f3))
theorem k38_open {w : World} {x : S38} {cs : List Value} (h : k38.K w x cs) : cs = [.int .i64 x.f0, .string x.f1, .int .i64 x.f2, .int .i64 x.f3] := by
  obtain ⟨_, _, rfl, rfl, ⟨_, _, rfl, rfl, ⟨_, _, rfl, rfl, rfl⟩⟩⟩ := h
  exact rfl
theorem k38_mk (w : World) (x : S38)  : k38.K w x [.int .i64 x.f0, .string x.f1, .int .i64 x.f2, .int .i64 x.f3] := ⟨[.int .i64 x.f0], [.string x.f1, .int .i64 x.f2, .int .i64 x.f3], rfl, rfl, ⟨[.string x.f1], [.int .i64 x.f2, .int .i64 x.f3], rfl, rfl, ⟨[.int .i64 x.f2], [.int .i64 x.f3], rfl, rfl, rfl⟩⟩⟩
theorem k38_mkM (w : World) (base : Nat) (ok : Nat → Prop) (x : S38)  : k38.M w base ok x [.int .i64 x.f0, .string x.f1, .int .i64 x.f2, .int .i64 x.f3] := ⟨[.int .i64 x.f0], [.string x.f1, .int .i64 x.f2, .int .i64 x.f3], rfl, rfl, ⟨[.string x.f1], [.int .i64 x.f2, .int .i64 x.f3], rfl, rfl, ⟨[.int .i64 x.f2], [.int .i64 x.f3], rfl, rfl, rfl⟩⟩⟩
def rd_T38 (xs : List S38) (i : Int) : S38 := xs.getD i.toNat z38
theorem at_T38 {w : World} {A : Option Addr} {n : Nat} {xs : List S38} (h : Kd.C k38 w A n xs) (i : Int) (h0 : 0 ≤ i) (h1 : i < n) : ∃ ad , A = some ad ∧ w.cell? (ad.add (i.toNat * 4)) = some (.int .i64 (rd_T38 xs i).f0) ∧ w.cell? ⟨(ad.add (i.toNat * 4)).block, (ad.add (i.toNat * 4)).off + 1, none⟩ = some (.string (rd_T38 xs i).f1) ∧ w.cell? ⟨(ad.add (i.toNat * 4)).block, (ad.add (i.toNat * 4)).off + 2, none⟩ = some (.int .i64 (rd_T38 xs i).f2) ∧ w.cell? ⟨(ad.add (i.toNat * 4)).block, (ad.add (i.toNat * 4)).off + 3, none⟩ = some (.int .i64 (rd_T38 xs i).f3) := by
  obtain ⟨ad, c, e, _, hK, hc0⟩ := Kd.C_get h z38 i h0 h1
  have hc : ∀ j u, c[j]? = some u → w.cell? (ad.add (i.toNat * 4 + j)) = some u := hc0
  obtain rfl := k38_open hK
  exact ⟨ad, e, hc 0 _ rfl, by rw [← add_field _ _ 1 (by omega)]; exact hc 1 _ rfl, by rw [← add_field _ _ 2 (by omega)]; exact hc 2 _ rfl, by rw [← add_field _ _ 3 (by omega)]; exact hc 3 _ rfl⟩
end Go.Proofs.YtlikjknakplamaaDoor.Print
/-! ### Print4 -/
namespace Go.Proofs.YtlikjknakplamaaDoor.Print
open Go.RowKit Go.Proofs.YtlikjknakplamaaDoorW.PrintWords Go.Proofs.YtlikjknakplamaaDoorW.PrintLast Go.Proofs.YtlikjknakplamaaDoorW.PrintMore
set_option linter.unusedVariables false
set_option linter.unusedSimpArgs false
mutual
def malthouseref01_Rune.j2 : Nat → ByteArray → Int → Int → Int → Int → Option (Int × Int)
  | 0, _, _, _, _, _ => none
  | k + 1, x0, x1, x6, x7, x8 => if x7 > (wrap64 ((x0.size : Int) - x1)) then (some (0, 0)) else (malthouseref01_Rune.l0 k x0 x1 x6 x7 x8 1)
def malthouseref01_Rune.l0 : Nat → ByteArray → Int → Int → Int → Int → Int → Option (Int × Int)
  | 0, _, _, _, _, _, _ => none
  | k + 1, x0, x1, x6, x7, x8, x9 => if x9 < x7 then (if 0 ≤ (wrap64 (x1 + x9)) then (if (wrap64 (x1 + x9)) < (x0.size : Int) then (if (wrap64 (bt x0 (wrap64 (x1 + x9)))) < 128 then (some (0, 0)) else (if (wrap64 (bt x0 (wrap64 (x1 + x9)))) ≥ 192 then (some (0, 0)) else (malthouseref01_Rune.l0 k x0 x1 (wrap64 ((wrap64 ((wrap64 (64 * x6)) + (wrap64 (bt x0 (wrap64 (x1 + x9)))))) - 128)) x7 x8 (wrap64 (x9 + 1))))) else (none)) else (none)) else (if x6 < x8 then (some (0, 0)) else (if x6 > 1114111 then (some (0, 0)) else (if x6 ≥ 55296 then (if x6 ≤ 57343 then (some (0, 0)) else (some (x6, x7))) else (some (x6, x7)))))
def malthouseref01_Rune.j0 : Nat → ByteArray → Int → Int → Bool → Option (Int × Int)
  | 0, _, _, _, _ => none
  | k + 1, x0, x1, x6, x19 => if x19 = true then (malthouseref01_Rune.j2 k x0 x1 (wrap64 (x6 - 192)) 2 128) else (if x6 ≥ 224 then (malthouseref01_Rune.j1 k x0 x1 x6 (decide (x6 < 240))) else (malthouseref01_Rune.j1 k x0 x1 x6 false))
def malthouseref01_Rune.j1 : Nat → ByteArray → Int → Int → Bool → Option (Int × Int)
  | 0, _, _, _, _ => none
  | k + 1, x0, x1, x6, x28 => if x28 = true then (malthouseref01_Rune.j2 k x0 x1 (wrap64 (x6 - 224)) 3 2048) else (if x6 ≥ 240 then (if x6 < 248 then (malthouseref01_Rune.j2 k x0 x1 (wrap64 (x6 - 240)) 4 65536) else (some (0, 0))) else (some (0, 0)))
end
def malthouseref01_Rune.f (k : Nat) (a0 : ByteArray) (a1 : Int) : Option (Int × Int) := if 0 ≤ a1 then (if a1 < (a0.size : Int) then (if (wrap64 (bt a0 a1)) < 128 then (some (wrap64 (bt a0 a1), 1)) else (if (wrap64 (bt a0 a1)) ≥ 192 then (malthouseref01_Rune.j0 k a0 a1 (wrap64 (bt a0 a1)) (decide ((wrap64 (bt a0 a1)) < 224))) else (malthouseref01_Rune.j0 k a0 a1 (wrap64 (bt a0 a1)) false))) else (none)) else (none)
set_option maxHeartbeats 8000000 in
set_option maxRecDepth 100000 in
theorem malthouseref01_Rune.calls (k : Nat) (a0 : ByteArray) (a1 : Int) (r1 : Int) (r2 : Int) (w : World) (h : malthouseref01_Rune.f k a0 a1 = some (r1, r2)) :
    Calls Tryd.prog 44 #[.string a0, .int .i64 a1] w fun e w' => e = .returned (.tuple #[.int .i64 r1, .int .i64 r2]) ∧ Drawn0 w w' := by
  have H : (if 0 ≤ a1 then (if a1 < (a0.size : Int) then (if (wrap64 (bt a0 a1)) < 128 then (some (wrap64 (bt a0 a1), 1)) else (if (wrap64 (bt a0 a1)) ≥ 192 then (malthouseref01_Rune.j0 k a0 a1 (wrap64 (bt a0 a1)) (decide ((wrap64 (bt a0 a1)) < 224))) else (malthouseref01_Rune.j0 k a0 a1 (wrap64 (bt a0 a1)) false))) else (none)) else (none)) = some (r1, r2) := h
  clear h
  by_cases c3 : 0 ≤ a1
  · rw [if_pos c3] at H
    have c3b0 : decide (0 ≤ a1) = true := decide_eq_true c3
    clear c3
    by_cases c4 : a1 < (a0.size : Int)
    · rw [if_pos c4] at H
      have c4b0 : decide (a1 < (a0.size : Int)) = true := decide_eq_true c4
      clear c4
      have HC6 := Aside0.mk H
      clear H
      have p5 : 0 ≤ (a1 : Int) := of_decide_eq_true (by first | (with_reducible assumption) | assumption)
      have q5 : a1 < (a0.size : Int) := of_decide_eq_true (by first | (with_reducible assumption) | assumption)
      have hx5 := bt_at a0 a1
      replace p5 := eq_true p5
      replace q5 := eq_true q5
      go_enter Tryd.func44, Tryd.ntmps44
      go_upto_block 0 with (fail)
      go_cut [6, 7, 8] (fun v6 v7 v8 wc => ∃ (kq : Nat) (x6_5 : Int) (x7_5 : Int) (x8_5 : Int), v6 = .int .i64 x6_5 ∧ v7 = .int .i64 x7_5 ∧ v8 = .int .i64 x8_5 ∧ Aside0 (malthouseref01_Rune.j2 kq a0 a1 x6_5 x7_5 x8_5 = some (r1, r2)) ∧ Aside0 (kq ≤ k) ∧ Drawn0 w wc)
      case first =>
        have H := HC6.out
        clear HC6
        by_cases c7 : (wrap64 (bt a0 a1)) < 128
        · rw [if_pos c7] at H
          have c7b0 : decide ((wrap64 (bt a0 a1)) < 128) = true := decide_eq_true c7
          clear c7
          (first | rw [c7b0] | (simp only [i64_w, i32_w]; rw [c7b0]) | skip)
          simp only [Option.some.injEq, Prod.mk.injEq] at H
          obtain ⟨rfl, rfl⟩ := H
          go_wp2
          go_ret2
          exact ⟨by first | rfl | (simp; done) | (simp [*]; done), by repeat (first | exact Drawn0.refl _ | apply Drawn0.step)⟩
        · rw [if_neg c7] at H
          have c7b0 : decide ((wrap64 (bt a0 a1)) < 128) = false := decide_eq_false c7
          clear c7
          (first | rw [c7b0] | (simp only [i64_w, i32_w]; rw [c7b0]) | skip)
          have HC8 := Aside0.mk H
          clear H
          go_upto_region 7 with (fail)
          go_cut [19] (fun v19 wc => ∃ (kq : Nat) (x19_7 : Bool), v19 = .bool x19_7 ∧ Aside0 (malthouseref01_Rune.j0 kq a0 a1 (wrap64 (bt a0 a1)) x19_7 = some (r1, r2)) ∧ Aside0 (kq ≤ k) ∧ Drawn0 w wc)
          case first =>
            have H := HC8.out
            clear HC8
            by_cases c9 : (wrap64 (bt a0 a1)) ≥ 192
            · rw [if_pos c9] at H
              have c9b0 : decide (192 ≤ (wrap64 (bt a0 a1))) = true := decide_eq_true c9
              clear c9
              (first | rw [c9b0] | (simp only [i64_w, i32_w]; rw [c9b0]) | skip)
              have H' := Aside0.mk H
              clear H
              go_wp2
              go_meet
              case rel => exact ⟨_, (decide ((wrap64 (bt a0 a1)) < 224)), (by first | rfl | (simp; done) | (simp [*]; done)), H', ⟨by first | omega | exact Nat.le_refl _⟩, by repeat (first | exact Drawn0.refl _ | apply Drawn0.step)⟩
            · rw [if_neg c9] at H
              have c9b0 : decide (192 ≤ (wrap64 (bt a0 a1))) = false := decide_eq_false c9
              clear c9
              (first | rw [c9b0] | (simp only [i64_w, i32_w]; rw [c9b0]) | skip)
              have H' := Aside0.mk H
              clear H
              go_wp2
              go_meet
              case rel => exact ⟨_, (false), (by first | rfl | (simp; done) | (simp [*]; done)), H', ⟨by first | omega | exact Nat.le_refl _⟩, by repeat (first | exact Drawn0.refl _ | apply Drawn0.step)⟩
          case rest =>
            clear HC8
            try clear p2
            try clear c3
            try clear c3b0
            try clear c4
            try clear c4b0
            try clear p5
            try clear q5
            try clear hx5
            try clear p6
            try clear c7
            try clear c7b0
            try clear c9
            try clear c9b0
            try clear p5
            try clear q5
            obtain ⟨kq, x19_7, rfl, HA, HJ7, ⟨mc7, rfl⟩⟩ := hcut
            cases kq with
            | zero => exact absurd HA.out (by simp [malthouseref01_Rune.j0])
            | succ kj7 =>
              have H := HA.out
              clear HA
              simp only [malthouseref01_Rune.j0] at H
              by_cases c10 : x19_7 = true
              · subst c10
                have H1 : (malthouseref01_Rune.j2 kj7 a0 a1 (wrap64 ((wrap64 (bt a0 a1)) - 192)) 2 128) = some (r1, r2) := by rw [if_pos rfl] at H; exact H
                clear H
                have H := H1
                clear H1
                have H' := Aside0.mk H
                clear H
                go_wp2
                go_meet
                case rel => exact ⟨_, (wrap64 ((wrap64 (bt a0 a1)) - 192)), (2), (128), (by first | rfl | (simp; done) | (simp [*]; done)), (by first | rfl | (simp; done) | (simp [*]; done)), (by first | rfl | (simp; done) | (simp [*]; done)), H', ⟨by have := HJ7.out; first | omega | exact Nat.le_refl _⟩, by repeat (first | exact Drawn0.refl _ | apply Drawn0.step)⟩
              · replace c10 := Bool.eq_false_iff.mpr c10
                subst c10
                have H1 : (if (wrap64 (bt a0 a1)) ≥ 224 then (malthouseref01_Rune.j1 kj7 a0 a1 (wrap64 (bt a0 a1)) (decide ((wrap64 (bt a0 a1)) < 240))) else (malthouseref01_Rune.j1 kj7 a0 a1 (wrap64 (bt a0 a1)) false)) = some (r1, r2) := by rw [if_neg (show ¬ (false = true) by decide)] at H; exact H
                clear H
                have H := H1
                clear H1
                have HC11 := Aside0.mk H
                clear H
                go_upto_region 11 with (fail)
                go_cut [28] (fun v28 wc => ∃ (kq : Nat) (x28_10 : Bool), v28 = .bool x28_10 ∧ Aside0 (malthouseref01_Rune.j1 kq a0 a1 (wrap64 (bt a0 a1)) x28_10 = some (r1, r2)) ∧ Aside0 (kq ≤ kj7) ∧ Drawn0 w wc)
                case first =>
                  have H := HC11.out
                  clear HC11
                  by_cases c12 : (wrap64 (bt a0 a1)) ≥ 224
                  · rw [if_pos c12] at H
                    have c12b0 : decide (224 ≤ (wrap64 (bt a0 a1))) = true := decide_eq_true c12
                    clear c12
                    (first | rw [c12b0] | (simp only [i64_w, i32_w]; rw [c12b0]) | skip)
                    have H' := Aside0.mk H
                    clear H
                    go_wp2
                    go_meet
                    case rel => exact ⟨_, (decide ((wrap64 (bt a0 a1)) < 240)), (by first | rfl | (simp; done) | (simp [*]; done)), H', ⟨by have := HJ7.out; first | omega | exact Nat.le_refl _⟩, by repeat (first | exact Drawn0.refl _ | apply Drawn0.step)⟩
                  · rw [if_neg c12] at H
                    have c12b0 : decide (224 ≤ (wrap64 (bt a0 a1))) = false := decide_eq_false c12
                    clear c12
                    (first | rw [c12b0] | (simp only [i64_w, i32_w]; rw [c12b0]) | skip)
                    have H' := Aside0.mk H
                    clear H
                    go_wp2
                    go_meet
                    case rel => exact ⟨_, (false), (by first | rfl | (simp; done) | (simp [*]; done)), H', ⟨by have := HJ7.out; first | omega | exact Nat.le_refl _⟩, by repeat (first | exact Drawn0.refl _ | apply Drawn0.step)⟩
                case rest =>
                  clear HC11
                  try clear c1
                  try clear p2
                  try clear c3
                  try clear c3b0
                  try clear c4
                  try clear c4b0
                  try clear p5
                  try clear q5
                  try clear hx5
                  try clear p6
                  try clear c7
                  try clear c7b0
                  try clear c9
                  try clear c9b0
                  try clear c10
                  try clear c12
                  try clear c12b0
                  try clear p2
                  try clear p5
                  try clear p6
                  try clear q5
                  obtain ⟨kq, x28_10, rfl, HA, HJ10, ⟨mc10, rfl⟩⟩ := hcut
                  cases kq with
                  | zero => exact absurd HA.out (by simp [malthouseref01_Rune.j1])
                  | succ kj10 =>
                    have H := HA.out
                    clear HA
                    simp only [malthouseref01_Rune.j1] at H
                    by_cases c13 : x28_10 = true
                    · subst c13
                      have H1 : (malthouseref01_Rune.j2 kj10 a0 a1 (wrap64 ((wrap64 (bt a0 a1)) - 224)) 3 2048) = some (r1, r2) := by rw [if_pos rfl] at H; exact H
                      clear H
                      have H := H1
                      clear H1
                      have H' := Aside0.mk H
                      clear H
                      go_wp2
                      go_meet
                      case rel => exact ⟨_, (wrap64 ((wrap64 (bt a0 a1)) - 224)), (3), (2048), (by first | rfl | (simp; done) | (simp [*]; done)), (by first | rfl | (simp; done) | (simp [*]; done)), (by first | rfl | (simp; done) | (simp [*]; done)), H', ⟨by have := HJ7.out; have := HJ10.out; first | omega | exact Nat.le_refl _⟩, by repeat (first | exact Drawn0.refl _ | apply Drawn0.step)⟩
                    · replace c13 := Bool.eq_false_iff.mpr c13
                      subst c13
                      have H1 : (if (wrap64 (bt a0 a1)) ≥ 240 then (if (wrap64 (bt a0 a1)) < 248 then (malthouseref01_Rune.j2 kj10 a0 a1 (wrap64 ((wrap64 (bt a0 a1)) - 240)) 4 65536) else (some (0, 0))) else (some (0, 0))) = some (r1, r2) := by rw [if_neg (show ¬ (false = true) by decide)] at H; exact H
                      clear H
                      have H := H1
                      clear H1
                      by_cases c14 : (wrap64 (bt a0 a1)) ≥ 240
                      · rw [if_pos c14] at H
                        have c14b0 : decide (240 ≤ (wrap64 (bt a0 a1))) = true := decide_eq_true c14
                        clear c14
                        by_cases c15 : (wrap64 (bt a0 a1)) < 248
                        · rw [if_pos c15] at H
                          have c15b0 : decide ((wrap64 (bt a0 a1)) < 248) = true := decide_eq_true c15
                          clear c15
                          have H' := Aside0.mk H
                          clear H
                          go_wp2
                          go_meet
                          case rel => exact ⟨_, (wrap64 ((wrap64 (bt a0 a1)) - 240)), (4), (65536), (by first | rfl | (simp; done) | (simp [*]; done)), (by first | rfl | (simp; done) | (simp [*]; done)), (by first | rfl | (simp; done) | (simp [*]; done)), H', ⟨by have := HJ7.out; have := HJ10.out; first | omega | exact Nat.le_refl _⟩, by repeat (first | exact Drawn0.refl _ | apply Drawn0.step)⟩
                        · rw [if_neg c15] at H
                          have c15b0 : decide ((wrap64 (bt a0 a1)) < 248) = false := decide_eq_false c15
                          clear c15
                          simp only [Option.some.injEq, Prod.mk.injEq] at H
                          obtain ⟨rfl, rfl⟩ := H
                          go_wp2
                          go_ret2
                          exact ⟨by first | rfl | (simp; done) | (simp [*]; done), by repeat (first | exact Drawn0.refl _ | apply Drawn0.step)⟩
                      · rw [if_neg c14] at H
                        have c14b0 : decide (240 ≤ (wrap64 (bt a0 a1))) = false := decide_eq_false c14
                        clear c14
                        simp only [Option.some.injEq, Prod.mk.injEq] at H
                        obtain ⟨rfl, rfl⟩ := H
                        go_wp2
                        go_ret2
                        exact ⟨by first | rfl | (simp; done) | (simp [*]; done), by repeat (first | exact Drawn0.refl _ | apply Drawn0.step)⟩
      case rest =>
        clear HC6
        try clear c1
        try clear p2
        try clear c3
        try clear c3b0
        try clear c4
        try clear c4b0
        try clear p5
        try clear q5
        try clear hx5
        try clear p6
        try clear c7
        try clear c7b0
        try clear c9
        try clear c9b0
        try clear c10
        try clear c12
        try clear c12b0
        try clear c13
        try clear c14
        try clear c14b0
        try clear c15
        try clear c15b0
        try clear p2
        try clear p5
        try clear p6
        try clear q5
        obtain ⟨kq, x6_5, x7_5, x8_5, rfl, rfl, rfl, HA, HJ5, ⟨mc5, rfl⟩⟩ := hcut
        cases kq with
        | zero => exact absurd HA.out (by simp [malthouseref01_Rune.j2])
        | succ kj5 =>
          have H := HA.out
          clear HA
          simp only [malthouseref01_Rune.j2] at H
          by_cases c16 : x7_5 > (wrap64 ((a0.size : Int) - a1))
          · rw [if_pos c16] at H
            have c16b0 : decide ((wrap64 ((a0.size : Int) - a1)) < x7_5) = true := decide_eq_true c16
            clear c16
            simp only [Option.some.injEq, Prod.mk.injEq] at H
            obtain ⟨rfl, rfl⟩ := H
            go_wp2
            go_ret2
            exact ⟨by first | rfl | (simp; done) | (simp [*]; done), by repeat (first | exact Drawn0.refl _ | apply Drawn0.step)⟩
          · rw [if_neg c16] at H
            have c16b0 : decide ((wrap64 ((a0.size : Int) - a1)) < x7_5) = false := decide_eq_false c16
            clear c16
            have H' := Aside0.mk H
            clear H
            go_wp2
            go_loopg [6, 9] kj5 (fun kq v6 v9 w' => ∃ (x6_2 : Int) (x9_2 : Int), v6 = .int .i64 x6_2 ∧ v9 = .int .i64 x9_2 ∧ Aside0 (malthouseref01_Rune.l0 kq a0 a1 x6_2 x7_5 x8_5 x9_2 = some (r1, r2)) ∧ Aside0 (kq ≤ kj5) ∧ Drawn0 w w')
            case atStart => exact ⟨(x6_5), (1), (by first | rfl | (simp; done) | (simp [*]; done)), (by first | rfl | (simp; done) | (simp [*]; done)), H', ⟨Nat.le_refl _⟩, by repeat (first | exact Drawn0.refl _ | apply Drawn0.step)⟩
            case round =>
              clear H'
              try clear c1
              try clear p2
              try clear c3
              try clear c3b0
              try clear c4
              try clear c4b0
              try clear c5
              try clear p5
              try clear q5
              try clear hx5
              try clear p6
              try clear c7
              try clear c7b0
              try clear c9
              try clear c9b0
              try clear c10
              try clear c12
              try clear c12b0
              try clear c13
              try clear c14
              try clear c14b0
              try clear c15
              try clear c15b0
              try clear c16
              try clear c16b0
              try clear p2
              try clear p5
              try clear p6
              try clear q5
              obtain ⟨x6_2, x9_2, rfl, rfl, HA, HK2, ⟨m2, rfl⟩⟩ := hrel
              cases gk with
              | zero => exact absurd HA.out (by simp [malthouseref01_Rune.l0])
              | succ k2 =>
                have H := HA.out
                clear HA
                simp only [malthouseref01_Rune.l0] at H
                by_cases c17 : x9_2 < x7_5
                · rw [if_pos c17] at H
                  have c17b0 : decide (x9_2 < x7_5) = true := decide_eq_true c17
                  clear c17
                  obtain ⟨ji18, hji18⟩ : ∃ j_ : Int, (wrap64 (a1 + x9_2)) = j_ := ⟨_, rfl⟩
                  replace H : (if 0 ≤ (ji18) then (if (ji18) < (a0.size : Int) then (if (wrap64 (bt a0 (ji18))) < 128 then (some (0, 0)) else (if (wrap64 (bt a0 (ji18))) ≥ 192 then (some (0, 0)) else (malthouseref01_Rune.l0 k2 a0 a1 (wrap64 ((wrap64 ((wrap64 (64 * x6_2)) + (wrap64 (bt a0 (ji18))))) - 128)) x7_5 x8_5 (wrap64 (x9_2 + 1))))) else (none)) else (none)) = some (r1, r2) := by first | (rw [hji18] at H; exact H) | (simp only [hji18] at H ⊢; exact H)
                  have hji18w : (IntKind.i64.wrap (a1 + x9_2)) = ji18 := (i64_w _).trans hji18
                  by_cases c19 : 0 ≤ (ji18)
                  · rw [if_pos c19] at H
                    have c19b0 : decide (0 ≤ (ji18)) = true := decide_eq_true c19
                    clear c19
                    by_cases c20 : (ji18) < (a0.size : Int)
                    · rw [if_pos c20] at H
                      have c20b0 : decide ((ji18) < (a0.size : Int)) = true := decide_eq_true c20
                      clear c20
                      by_cases c22 : (wrap64 (bt a0 (ji18))) < 128
                      · rw [if_pos c22] at H
                        have c22b0 : decide ((wrap64 (bt a0 (ji18))) < 128) = true := decide_eq_true c22
                        clear c22
                        simp only [Option.some.injEq, Prod.mk.injEq] at H
                        obtain ⟨rfl, rfl⟩ := H
                        have p21 : 0 ≤ ((ji18) : Int) := of_decide_eq_true (by first | (with_reducible assumption) | assumption)
                        have q21 : (ji18) < (a0.size : Int) := of_decide_eq_true (by first | (with_reducible assumption) | assumption)
                        have hx21 := bt_at a0 (ji18)
                        replace p21 := eq_true p21
                        replace q21 := eq_true q21
                        go_wp2
                        go_ret2
                        exact ⟨by first | rfl | (simp; done) | (simp only [← hji18] <;> (first | rfl | simp)) | (simp [*]; done), by repeat (first | exact Drawn0.refl _ | apply Drawn0.step)⟩
                      · rw [if_neg c22] at H
                        have c22b0 : decide ((wrap64 (bt a0 (ji18))) < 128) = false := decide_eq_false c22
                        clear c22
                        by_cases c23 : (wrap64 (bt a0 (ji18))) ≥ 192
                        · rw [if_pos c23] at H
                          have c23b0 : decide (192 ≤ (wrap64 (bt a0 (ji18)))) = true := decide_eq_true c23
                          clear c23
                          simp only [Option.some.injEq, Prod.mk.injEq] at H
                          obtain ⟨rfl, rfl⟩ := H
                          have p21 : 0 ≤ ((ji18) : Int) := of_decide_eq_true (by first | (with_reducible assumption) | assumption)
                          have q21 : (ji18) < (a0.size : Int) := of_decide_eq_true (by first | (with_reducible assumption) | assumption)
                          have hx21 := bt_at a0 (ji18)
                          replace p21 := eq_true p21
                          replace q21 := eq_true q21
                          go_wp2
                          go_ret2
                          exact ⟨by first | rfl | (simp; done) | (simp only [← hji18] <;> (first | rfl | simp)) | (simp [*]; done), by repeat (first | exact Drawn0.refl _ | apply Drawn0.step)⟩
                        · rw [if_neg c23] at H
                          have c23b0 : decide (192 ≤ (wrap64 (bt a0 (ji18)))) = false := decide_eq_false c23
                          clear c23
                          have H' := Aside0.mk H
                          clear H
                          have p21 : 0 ≤ ((ji18) : Int) := of_decide_eq_true (by first | (with_reducible assumption) | assumption)
                          have q21 : (ji18) < (a0.size : Int) := of_decide_eq_true (by first | (with_reducible assumption) | assumption)
                          have hx21 := bt_at a0 (ji18)
                          replace p21 := eq_true p21
                          replace q21 := eq_true q21
                          go_wp2
                          go_roundg k2
                          case measure => have := HJ5.out; have := HK2.out; omega
                          case rel => exact ⟨(wrap64 ((wrap64 ((wrap64 (64 * x6_2)) + (wrap64 (bt a0 (ji18))))) - 128)), (wrap64 (x9_2 + 1)), (by first | rfl | (simp; done) | (simp only [← hji18] <;> (first | rfl | simp)) | (simp [*]; done)), (by first | rfl | (simp; done) | (simp [*]; done)), H', ⟨by have := HJ5.out; have := HK2.out; omega⟩, by repeat (first | exact Drawn0.refl _ | apply Drawn0.step)⟩
                    · rw [if_neg c20] at H
                      exact absurd H (by simp)
                  · rw [if_neg c19] at H
                    exact absurd H (by simp)
                · rw [if_neg c17] at H
                  have c17b0 : decide (x9_2 < x7_5) = false := decide_eq_false c17
                  clear c17
                  by_cases c24 : x6_2 < x8_5
                  · rw [if_pos c24] at H
                    have c24b0 : decide (x6_2 < x8_5) = true := decide_eq_true c24
                    clear c24
                    simp only [Option.some.injEq, Prod.mk.injEq] at H
                    obtain ⟨rfl, rfl⟩ := H
                    go_wp2
                    go_ret2
                    exact ⟨by first | rfl | (simp; done) | (simp [*]; done), by repeat (first | exact Drawn0.refl _ | apply Drawn0.step)⟩
                  · rw [if_neg c24] at H
                    have c24b0 : decide (x6_2 < x8_5) = false := decide_eq_false c24
                    clear c24
                    by_cases c25 : x6_2 > 1114111
                    · rw [if_pos c25] at H
                      have c25b0 : decide (1114111 < x6_2) = true := decide_eq_true c25
                      clear c25
                      simp only [Option.some.injEq, Prod.mk.injEq] at H
                      obtain ⟨rfl, rfl⟩ := H
                      go_wp2
                      go_ret2
                      exact ⟨by first | rfl | (simp; done) | (simp [*]; done), by repeat (first | exact Drawn0.refl _ | apply Drawn0.step)⟩
                    · rw [if_neg c25] at H
                      have c25b0 : decide (1114111 < x6_2) = false := decide_eq_false c25
                      clear c25
                      by_cases c26 : x6_2 ≥ 55296
                      · rw [if_pos c26] at H
                        have c26b0 : decide (55296 ≤ x6_2) = true := decide_eq_true c26
                        clear c26
                        by_cases c27 : x6_2 ≤ 57343
                        · rw [if_pos c27] at H
                          have c27b0 : decide (x6_2 ≤ 57343) = true := decide_eq_true c27
                          clear c27
                          simp only [Option.some.injEq, Prod.mk.injEq] at H
                          obtain ⟨rfl, rfl⟩ := H
                          go_wp2
                          go_ret2
                          exact ⟨by first | rfl | (simp; done) | (simp [*]; done), by repeat (first | exact Drawn0.refl _ | apply Drawn0.step)⟩
                        · rw [if_neg c27] at H
                          have c27b0 : decide (x6_2 ≤ 57343) = false := decide_eq_false c27
                          clear c27
                          simp only [Option.some.injEq, Prod.mk.injEq] at H
                          obtain ⟨rfl, rfl⟩ := H
                          go_wp2
                          go_ret2
                          exact ⟨by first | rfl | (simp; done) | (simp [*]; done), by repeat (first | exact Drawn0.refl _ | apply Drawn0.step)⟩
                      · rw [if_neg c26] at H
                        have c26b0 : decide (55296 ≤ x6_2) = false := decide_eq_false c26
                        clear c26
                        simp only [Option.some.injEq, Prod.mk.injEq] at H
                        obtain ⟨rfl, rfl⟩ := H
                        go_wp2
                        go_ret2
                        exact ⟨by first | rfl | (simp; done) | (simp [*]; done), by repeat (first | exact Drawn0.refl _ | apply Drawn0.step)⟩
    · rw [if_neg c4] at H
      exact absurd H (by simp)
  · rw [if_neg c3] at H
    exact absurd H (by simp)
def malthouseref01_Runes.l0 : Nat → ByteArray → Int → ByteArray → List Int → List Int → Option (ByteArray × List Int × List Int × Bool)
  | 0, _, _, _, _, _ => none
  | k + 1, x0, x5, x117000, x117001, x117002 => if x5 < (x0.size : Int) then ((malthouseref01_Rune.f k x0 x5).bind fun bt117 => (if bt117.2 = 0 then (some (x117000, x117001, x117002, false)) else (if x117001.length < 17592186044416 then (if x117002.length < 17592186044416 then (malthouseref01_Runes.l0 k x0 (wrap64 (x5 + bt117.2)) x117000 (x117001 ++ [bt117.1]) (x117002 ++ [x5])) else (none)) else (none)))) else (if x117002.length < 17592186044416 then (some (x117000, x117001, (x117002 ++ [(x0.size : Int)]), true)) else (none))
def malthouseref01_Runes.f (k : Nat) (a0 : ByteArray) : Option (ByteArray × List Int × List Int × Bool) := malthouseref01_Runes.l0 k a0 0 a0 ([] : List Int) ([] : List Int)
set_option maxHeartbeats 8000000 in
set_option maxRecDepth 100000 in
theorem malthouseref01_Runes.calls (k : Nat) (a0 : ByteArray) (r1 : ByteArray) (r2 : List Int) (r3 : List Int) (r4 : Bool) (w : World) (h : malthouseref01_Runes.f k a0 = some (r1, r2, r3, r4)) :
    Calls Tryd.prog 32 #[.string a0] w fun e w' => ∃ v1_ v2_ : Value, e = .returned (.tuple #[.agg #[.string r1, v1_, v2_], .bool r4]) ∧ Kd.R (Kd.int .i64) 3 w' w.heap.size (fun k_ => some k_ ≠ (v2_ : Value).ownBlock) v1_ r2 ∧ Kd.R (Kd.int .i64) 3 w' w.heap.size (fun k_ => some k_ ≠ (v1_ : Value).ownBlock) v2_ r3 ∧ Below w.heap.size w w' := by
  have hu53 := Tryd.underlying53
  have HB := Aside0.mk (Below.refl w.heap.size w)
  have H : (malthouseref01_Runes.l0 k a0 0 a0 ([] : List Int) ([] : List Int)) = some (r1, r2, r3, r4) := h
  clear h
  have H' := Aside0.mk H
  clear H
  go_enter Tryd.func32, Tryd.ntmps32
  go_wp2_with (first | ((with_reducible refine gate_dst (N := 2) rfl ?_); refine box_event ?hg (N := 2) ?hd (cs := #[.string (⟨#[]⟩ : ByteArray), .slice none 0 0, .slice none 0 0]) (t := 53) ?hr ?_; (case hd => rfl); (case hg => rfl); (case hr => first | (go_simp; done) | (go_simp; rfl)); intro gb115 hg w2 hbox hb; have n0_ := Aside0.mk (below_step (by repeat (first | (with_reducible first | exact HB.out | apply below_alloc | apply pw_below_drewN | apply below_drew1) | exact HB.out)) hb); have n1_ := Aside0.mk (hbox); have n2_ := Aside0.mk ((by rw [hg]; exact (below_size (by repeat (first | (with_reducible first | exact HB.out | apply below_alloc | apply pw_below_drewN | apply below_drew1) | exact HB.out))) : w.heap.size ≤ gb115)); have n3_ := Aside0.mk ((by rw [hg]; exact (below_size (by repeat (first | (with_reducible first | exact HB.out | apply below_alloc | apply pw_below_drewN | apply below_drew1) | exact HB.out))) : w.heap.size ≤ gb115)); clear HB; have HB := n0_; have BK115 := n1_; have GW115 := n2_; have GE115 := n3_; clear n0_ n1_ n2_ n3_; clear hb hbox hg) | ((with_reducible refine gate_dst (N := 4) rfl ?_); refine box_event ?hg (N := 4) ?hd (cs := #[.string (⟨#[]⟩ : ByteArray), .slice none 0 0, .slice none 0 0]) (t := 53) ?hr ?_; (case hd => rfl); (case hg => rfl); (case hr => first | (go_simp; done) | (go_simp; rfl)); intro gb116 hg w3 hbox hb; have n0_ := Aside0.mk (blk_below (g := gb115) (o := .cells #[.string (⟨#[]⟩ : ByteArray), .slice none 0 0, .slice none 0 0] 53 (0, 0)) (by (with_reducible repeat (first | refine blk_drewN ?_ _ | refine blk_drew ?_ | refine blk_alloc ?_ _)); exact BK115.out) hb); have n1_ := Aside0.mk (below_step (by repeat (first | (with_reducible first | exact HB.out | apply below_alloc | apply pw_below_drewN | apply below_drew1 | refine below_set ?_ GE115.out) | exact HB.out)) hb); have n2_ := Aside0.mk (hbox); have n3_ := Aside0.mk ((by rw [hg]; exact (below_size (by repeat (first | (with_reducible first | exact HB.out | apply below_alloc | apply pw_below_drewN | apply below_drew1 | refine below_set ?_ GE115.out) | exact HB.out))) : w.heap.size ≤ gb116)); have n4_ := Aside0.mk ((by rw [hg]; exact (below_size (by repeat (first | (with_reducible first | exact HB.out | apply below_alloc | apply pw_below_drewN | apply below_drew1 | refine below_set ?_ GE115.out) | exact HB.out))) : w.heap.size ≤ gb116)); have n5_ := Aside0.mk ((by rw [hg]; exact Nat.ne_of_lt (blk_lt (g := gb115) (o := .cells #[.string (⟨#[]⟩ : ByteArray), .slice none 0 0, .slice none 0 0] 53 (0, 0)) (by (with_reducible repeat (first | refine blk_drewN ?_ _ | refine blk_drew ?_ | refine blk_alloc ?_ _)); exact BK115.out)) : gb115 ≠ gb116)); have n6_ := Aside0.mk ((by rw [hg]; exact Nat.ne_of_gt (blk_lt (g := gb115) (o := .cells #[.string (⟨#[]⟩ : ByteArray), .slice none 0 0, .slice none 0 0] 53 (0, 0)) (by (with_reducible repeat (first | refine blk_drewN ?_ _ | refine blk_drew ?_ | refine blk_alloc ?_ _)); exact BK115.out)) : gb116 ≠ gb115)); clear BK115; clear HB; have BK115 := n0_; have HB := n1_; have BK116 := n2_; have GW116 := n3_; have GE116 := n4_; have NB115_116 := n5_; have NB116_115 := n6_; clear n0_ n1_ n2_ n3_ n4_ n5_ n6_; clear hb hbox hg; have hnb4 := NB116_115.out; have hnc4 := NB115_116.out; have hcz5_0 : w3.cell? ⟨gb116, 0, none⟩ = some (.string (⟨#[]⟩ : ByteArray)) := (blk_cell BK116.out 0).trans rfl; have hcz5_1 : w3.cell? ⟨gb116, 1, none⟩ = some (.slice none 0 0) := (blk_cell BK116.out 1).trans rfl; have hcz5_2 : w3.cell? ⟨gb116, 2, none⟩ = some (.slice none 0 0) := (blk_cell BK116.out 2).trans rfl; have hfz5_0 := blk_frozen BK116.out 0; have hfz5_1 := blk_frozen BK116.out 1; have hfz5_2 := blk_frozen BK116.out 2))
  go_loopg [5] k (fun kq v5 w' => ∃ (x5_1 : Int) (x116000_1 : ByteArray) (x117001_1 : List Int) (x117002_1 : List Int) (u117001 : Value) (u117002 : Value), v5 = .int .i64 x5_1 ∧ Aside0 (malthouseref01_Runes.l0 kq a0 x5_1 a0 x117001_1 x117002_1 = some (r1, r2, r3, r4)) ∧ Aside0 (kq ≤ k) ∧ Aside0 (Kd.R (Kd.int .i64) 3 w' w.heap.size (fun k_ => some k_ ≠ (u117002 : Value).ownBlock) u117001 x117001_1) ∧ Aside0 (Kd.R (Kd.int .i64) 3 w' w.heap.size (fun k_ => some k_ ≠ (u117001 : Value).ownBlock) u117002 x117002_1) ∧ Aside0 (w'.heap[gb115]? = some (.cells #[.string x116000_1, (.slice none 0 0), (.slice none 0 0)] 53 (0, 0))) ∧ Aside0 (w'.heap[gb116]? = some (.cells #[.string a0, u117001, u117002] 53 (0, 0))) ∧ Aside0 (Below w.heap.size w w'))
  case atStart => exact ⟨(0), ((⟨#[]⟩ : ByteArray)), (([] : List Int)), (([] : List Int)), (.slice none 0 0), (.slice none 0 0), (by first | rfl | (simp; done) | (simp [*]; done)), H', ⟨Nat.le_refl _⟩, ⟨by first | exact Kd.R_nil _ _ _ _ _ | exact Kd.N_nil _ _ _ _ _ | exact Kd.V_nil _ _ _ _ _ | exact Kd.Q_nil _ _ _ _ _ | exact Kd.S_nil _ _ _ _ _⟩, ⟨by first | exact Kd.R_nil _ _ _ _ _ | exact Kd.N_nil _ _ _ _ _ | exact Kd.V_nil _ _ _ _ _ | exact Kd.Q_nil _ _ _ _ _ | exact Kd.S_nil _ _ _ _ _⟩, ⟨by (with_reducible repeat (first | refine blk_drewN ?_ _ | refine blk_drew ?_ | refine blk_alloc ?_ _)); refine blk_far ?_ NB115_116.out _; (with_reducible repeat (first | refine blk_drewN ?_ _ | refine blk_drew ?_ | refine blk_alloc ?_ _)); refine blk_far ?_ NB115_116.out _; (with_reducible repeat (first | refine blk_drewN ?_ _ | refine blk_drew ?_ | refine blk_alloc ?_ _)); refine blk_far ?_ NB115_116.out _; (with_reducible repeat (first | refine blk_drewN ?_ _ | refine blk_drew ?_ | refine blk_alloc ?_ _)); exact BK115.out⟩, ⟨by (with_reducible repeat (first | refine blk_drewN ?_ _ | refine blk_drew ?_ | refine blk_alloc ?_ _)); refine blk_put (cs := #[.string a0, .slice none 0 0, .slice none 0 0]) ?_ 2 _ rfl; (with_reducible repeat (first | refine blk_drewN ?_ _ | refine blk_drew ?_ | refine blk_alloc ?_ _)); refine blk_put (cs := #[.string a0, .slice none 0 0, .slice none 0 0]) ?_ 1 _ rfl; (with_reducible repeat (first | refine blk_drewN ?_ _ | refine blk_drew ?_ | refine blk_alloc ?_ _)); refine blk_put (cs := #[.string (⟨#[]⟩ : ByteArray), .slice none 0 0, .slice none 0 0]) ?_ 0 _ rfl; (with_reducible repeat (first | refine blk_drewN ?_ _ | refine blk_drew ?_ | refine blk_alloc ?_ _)); exact BK116.out⟩, ⟨by repeat (first | (with_reducible first | exact HB.out | apply below_alloc | apply pw_below_drewN | apply below_drew1 | refine below_set ?_ GE115.out | refine below_set ?_ GE116.out) | exact HB.out)⟩⟩
  case round =>
    clear H'
    try clear p2
    try clear c3
    try clear c4
    try clear hcz5_0
    try clear hcz5_1
    try clear hcz5_2
    try clear hfz5_0
    try clear hfz5_1
    try clear hfz5_2
    obtain ⟨x5_1, x116000_1, x117001_1, x117002_1, u117001, u117002, rfl, HA, HK1, HO_117001, HO_117002, BK115, BK116, HB⟩ := hrel
    cases gk with
    | zero => exact absurd HA.out (by simp [malthouseref01_Runes.l0])
    | succ k1 =>
      have H := HA.out
      clear HA
      simp only [malthouseref01_Runes.l0] at H
      by_cases c6 : x5_1 < (a0.size : Int)
      · rw [if_pos c6] at H
        have c6b0 : decide (x5_1 < (a0.size : Int)) = true := decide_eq_true c6
        clear c6
        replace H := Option.bind_eq_some_iff.mp H
        obtain ⟨⟨t117, t118⟩, A70, H⟩ := H
        replace H : (if t118 = 0 then (some (a0, x117001_1, x117002_1, false)) else (if x117001_1.length < 17592186044416 then (if x117002_1.length < 17592186044416 then (malthouseref01_Runes.l0 k1 a0 (wrap64 (x5_1 + t118)) a0 (x117001_1 ++ [t117]) (x117002_1 ++ [x5_1])) else (none)) else (none))) = some (r1, r2, r3, r4) := H
        have A7 := Aside0.mk A70
        clear A70
        by_cases c8 : t118 = 0
        · rw [if_pos c8] at H
          have c8b0 : (t118 == 0) = true := beq_iff_eq.mpr c8
          have c8b1 : (t118 != 0) = false := bne_eq_false_iff_eq.mpr c8
          clear c8
          simp only [Option.some.injEq, Prod.mk.injEq] at H
          obtain ⟨rfl, rfl, rfl, rfl⟩ := H
          go_wp2_with (first | ((with_reducible refine gate_callee (f := 44) rfl ?_); refine goesL_ (some 17) rfl rfl Tryd.func44 (by kernel_rfl) rfl #[.string a0, .int .i64 x5_1] rfl (by (try simp only [List.map_toArray, List.map_cons, List.map_nil]); first | done | rfl | (simp only [List.length_drop, List.length_take]; rfl)) ?_; (with_reducible refine (malthouseref01_Rune.calls k1 a0 x5_1 t117 t118 _ A7.out).mono ?_); rintro e w' ⟨rfl, ⟨nd, rfl⟩⟩; refine ⟨_, rfl, ?_⟩; (try (rw [drewN_self wr]; generalize hq_ : World.drewN wr _ = wr; have n0_ : Aside0 (Kd.R (Kd.int .i64) 3 wr w.heap.size (fun k_ => some k_ ≠ (u117002 : Value).ownBlock) u117001 x117001_1) := ⟨by rw [← hq_]; exact (by (with_reducible repeat (first | apply Kd.R_alloc | apply Kd.R_drewN | apply Kd.R_drew)); exact HO_117001.out)⟩; have n1_ : Aside0 (Kd.R (Kd.int .i64) 3 wr w.heap.size (fun k_ => some k_ ≠ (u117001 : Value).ownBlock) u117002 x117002_1) := ⟨by rw [← hq_]; exact (by (with_reducible repeat (first | apply Kd.R_alloc | apply Kd.R_drewN | apply Kd.R_drew)); exact HO_117002.out)⟩; have n2_ : Aside0 (wr.heap[gb115]? = some (.cells #[.string x116000_1, .slice none 0 0, .slice none 0 0] 53 (0, 0))) := ⟨by rw [← hq_]; exact (by (with_reducible repeat (first | refine blk_drewN ?_ _ | refine blk_drew ?_ | refine blk_alloc ?_ _)); exact BK115.out)⟩; have n3_ : Aside0 (wr.heap[gb116]? = some (.cells #[.string a0, u117001, u117002] 53 (0, 0))) := ⟨by rw [← hq_]; exact (by (with_reducible repeat (first | refine blk_drewN ?_ _ | refine blk_drew ?_ | refine blk_alloc ?_ _)); exact BK116.out)⟩; have n4_ : Aside0 (Below w.heap.size w wr) := ⟨by rw [← hq_]; exact (by repeat (first | (with_reducible first | exact HB.out | apply below_alloc | apply pw_below_drewN | apply below_drew1 | refine below_set ?_ GE115.out | refine below_set ?_ GE116.out) | exact HB.out))⟩; clear HO_117001 HO_117002 BK115 BK116 HB hq_; have HO_117001 := n0_; have HO_117002 := n1_; have BK115 := n2_; have BK116 := n3_; have HB := n4_; clear n0_ n1_ n2_ n3_ n4_)); have hnb9 := NB116_115.out; have hnc9 := NB115_116.out; have hcz10_0 : wr.cell? ⟨gb116, 0, none⟩ = some (.string a0) := (blk_cell BK116.out 0).trans rfl; have hcz10_1 : wr.cell? ⟨gb116, 1, none⟩ = some (u117001) := (blk_cell BK116.out 1).trans rfl; have hcz10_2 : wr.cell? ⟨gb116, 2, none⟩ = some (u117002) := (blk_cell BK116.out 2).trans rfl; have hfz10_0 := blk_frozen BK116.out 0; have hfz10_1 := blk_frozen BK116.out 1; have hfz10_2 := blk_frozen BK116.out 2; have hcz11_0 : wr.cell? ⟨gb115, 0, none⟩ = some (.string x116000_1) := (blk_cell BK115.out 0).trans rfl; have hcz11_1 : wr.cell? ⟨gb115, 1, none⟩ = some (.slice none 0 0) := (blk_cell BK115.out 1).trans rfl; have hcz11_2 : wr.cell? ⟨gb115, 2, none⟩ = some (.slice none 0 0) := (blk_cell BK115.out 2).trans rfl; have hfz11_0 := blk_frozen BK115.out 0; have hfz11_1 := blk_frozen BK115.out 1; have hfz11_2 := blk_frozen BK115.out 2; obtain ⟨Ao12, co12, eo12⟩ := Kd.R_slice HO_117001.out; subst eo12; obtain ⟨Ao13, co13, eo13⟩ := Kd.R_slice HO_117002.out; subst eo13))
          refine bodyPost_ret (results_ct rfl _ _ gb115 53 #[.string a0, .slice Ao12 x117001_1.length co12, .slice Ao13 x117002_1.length co13] (0, 0) _ rfl (by (with_reducible repeat (first | refine blk_drewN ?_ _ | refine blk_drew ?_ | refine blk_alloc ?_ _)); refine blk_put (cs := #[.string a0, .slice Ao12 x117001_1.length co12, .slice none 0 0]) ?_ 2 _ rfl; (with_reducible repeat (first | refine blk_drewN ?_ _ | refine blk_drew ?_ | refine blk_alloc ?_ _)); refine blk_put (cs := #[.string a0, .slice none 0 0, .slice none 0 0]) ?_ 1 _ rfl; (with_reducible repeat (first | refine blk_drewN ?_ _ | refine blk_drew ?_ | refine blk_alloc ?_ _)); refine blk_put (cs := #[.string x116000_1, .slice none 0 0, .slice none 0 0]) ?_ 0 _ rfl; (with_reducible repeat (first | refine blk_drewN ?_ _ | refine blk_drew ?_ | refine blk_alloc ?_ _)); exact BK115.out) Tryd.underlying53 rfl (by kernel_rfl)) rfl ?_
          exact ⟨_, _, by first | rfl | (simp [errW_none, errW_some] <;> rfl) | (simp [*, errW_none, errW_some] <;> rfl), by (with_reducible repeat (first | apply Kd.R_alloc | apply Kd.R_drewN | apply Kd.R_drew)); exact Kd.R_mono (Kd.R_far (p := ⟨gb115, 2, none⟩) (Kd.R_far (p := ⟨gb115, 1, none⟩) (Kd.R_far (p := ⟨gb115, 0, none⟩) (Kd.R_types HO_117001.out BK115.out (by decide)) (fun _ hk => hk.2) (.string a0)) (fun _ hk => hk.2) (.slice Ao12 x117001_1.length co12)) (fun _ hk => hk.2) (.slice Ao13 x117002_1.length co13)) (fun _ hk => hk.1), by (with_reducible repeat (first | apply Kd.R_alloc | apply Kd.R_drewN | apply Kd.R_drew)); exact Kd.R_mono (Kd.R_far (p := ⟨gb115, 2, none⟩) (Kd.R_far (p := ⟨gb115, 1, none⟩) (Kd.R_far (p := ⟨gb115, 0, none⟩) (Kd.R_types HO_117002.out BK115.out (by decide)) (fun _ hk => hk.2) (.string a0)) (fun _ hk => hk.2) (.slice Ao12 x117001_1.length co12)) (fun _ hk => hk.2) (.slice Ao13 x117002_1.length co13)) (fun _ hk => hk.1), by repeat (first | (with_reducible first | exact HB.out | apply below_alloc | apply pw_below_drewN | apply below_drew1 | refine below_set ?_ GE115.out | refine below_set ?_ GE116.out) | exact HB.out)⟩
        · rw [if_neg c8] at H
          have c8b0 : (t118 == 0) = false := beq_eq_false_iff_ne.mpr c8
          have c8b1 : (t118 != 0) = true := bne_iff_ne.mpr c8
          by_cases c14 : x117001_1.length < 17592186044416
          · rw [if_pos c14] at H
            have LMc14 := Aside0.mk c14
            clear c14
            obtain ⟨y119, hy119⟩ : ∃ y_ : List Int, y_ = (x117001_1 ++ [t117]) := ⟨_, rfl⟩
            replace H : (if x117002_1.length < 17592186044416 then (malthouseref01_Runes.l0 k1 a0 (wrap64 (x5_1 + t118)) a0 y119 (x117002_1 ++ [x5_1])) else (none)) = some (r1, r2, r3, r4) := by first | (rw [hy119]; with_reducible exact H) | (have H2_ := (Option.bind_some _ _).symm.trans H; rw [hy119]; with_reducible exact H2_) | (have H2_ := (Option.bind_some _ _).symm.trans H; with_reducible exact H2_) | with_reducible exact H | (rw [hy119]; exact H) | exact H
            have Ny119 := Aside0.mk hy119
            clear hy119
            by_cases c15 : x117002_1.length < 17592186044416
            · rw [if_pos c15] at H
              have LMc15 := Aside0.mk c15
              clear c15
              obtain ⟨y122, hy122⟩ : ∃ y_ : List Int, y_ = (x117002_1 ++ [x5_1]) := ⟨_, rfl⟩
              replace H : (malthouseref01_Runes.l0 k1 a0 (wrap64 (x5_1 + t118)) a0 y119 y122) = some (r1, r2, r3, r4) := by first | (rw [hy122]; with_reducible exact H) | (have H2_ := (Option.bind_some _ _).symm.trans H; rw [hy122]; with_reducible exact H2_) | (have H2_ := (Option.bind_some _ _).symm.trans H; with_reducible exact H2_) | with_reducible exact H | (rw [hy122]; exact H) | exact H
              have Ny122 := Aside0.mk hy122
              clear hy122
              have H' := Aside0.mk H
              clear H
              go_wp2_with (first | ((with_reducible refine gate_callee (f := 44) rfl ?_); refine goesL_ (some 17) rfl rfl Tryd.func44 (by kernel_rfl) rfl #[.string a0, .int .i64 x5_1] rfl (by (try simp only [List.map_toArray, List.map_cons, List.map_nil]); first | done | rfl | (simp only [List.length_drop, List.length_take]; rfl)) ?_; (with_reducible refine (malthouseref01_Rune.calls k1 a0 x5_1 t117 t118 _ A7.out).mono ?_); rintro e w' ⟨rfl, ⟨nd, rfl⟩⟩; refine ⟨_, rfl, ?_⟩; (try (rw [drewN_self wr]; generalize hq_ : World.drewN wr _ = wr; have n0_ : Aside0 (Kd.R (Kd.int .i64) 3 wr w.heap.size (fun k_ => some k_ ≠ (u117002 : Value).ownBlock) u117001 x117001_1) := ⟨by rw [← hq_]; exact (by (with_reducible repeat (first | apply Kd.R_alloc | apply Kd.R_drewN | apply Kd.R_drew)); exact HO_117001.out)⟩; have n1_ : Aside0 (Kd.R (Kd.int .i64) 3 wr w.heap.size (fun k_ => some k_ ≠ (u117001 : Value).ownBlock) u117002 x117002_1) := ⟨by rw [← hq_]; exact (by (with_reducible repeat (first | apply Kd.R_alloc | apply Kd.R_drewN | apply Kd.R_drew)); exact HO_117002.out)⟩; have n2_ : Aside0 (wr.heap[gb115]? = some (.cells #[.string x116000_1, .slice none 0 0, .slice none 0 0] 53 (0, 0))) := ⟨by rw [← hq_]; exact (by (with_reducible repeat (first | refine blk_drewN ?_ _ | refine blk_drew ?_ | refine blk_alloc ?_ _)); exact BK115.out)⟩; have n3_ : Aside0 (wr.heap[gb116]? = some (.cells #[.string a0, u117001, u117002] 53 (0, 0))) := ⟨by rw [← hq_]; exact (by (with_reducible repeat (first | refine blk_drewN ?_ _ | refine blk_drew ?_ | refine blk_alloc ?_ _)); exact BK116.out)⟩; have n4_ : Aside0 (Below w.heap.size w wr) := ⟨by rw [← hq_]; exact (by repeat (first | (with_reducible first | exact HB.out | apply below_alloc | apply pw_below_drewN | apply below_drew1 | refine below_set ?_ GE115.out | refine below_set ?_ GE116.out) | exact HB.out))⟩; clear HO_117001 HO_117002 BK115 BK116 HB hq_; have HO_117001 := n0_; have HO_117002 := n1_; have BK115 := n2_; have BK116 := n3_; have HB := n4_; clear n0_ n1_ n2_ n3_ n4_)); have hnb16 := NB116_115.out; have hnc16 := NB115_116.out; have hcz17_0 : wr.cell? ⟨gb116, 0, none⟩ = some (.string a0) := (blk_cell BK116.out 0).trans rfl; have hcz17_1 : wr.cell? ⟨gb116, 1, none⟩ = some (u117001) := (blk_cell BK116.out 1).trans rfl; have hcz17_2 : wr.cell? ⟨gb116, 2, none⟩ = some (u117002) := (blk_cell BK116.out 2).trans rfl; have hfz17_0 := blk_frozen BK116.out 0; have hfz17_1 := blk_frozen BK116.out 1; have hfz17_2 := blk_frozen BK116.out 2) | ((with_reducible refine gate_builtin (b := .append) (xs := #[.tmp 24, .tmp 26]) rfl ?_); at_builtin; refine Kd.R_append (Kd.int .i64) (w0 := w) w.heap.size rfl (.tmp 24) (.tmp 26) 51 3 (.int .i64 0) 8 rfl Tryd.underlying51 info3 rfl (by decide) (by omega) u117001 x117001_1 t117 [.int .i64 t117] (fun k_ => some k_ ≠ (u117002 : Value).ownBlock) (fun _ => False) rfl rfl ?aP (fun _ hk => hk.elim) ?aF ?aO ?aB ?aS ?aL ?_; (case aP => exact rfl); (case aB => exact (by repeat (first | (with_reducible first | exact HB.out | apply below_alloc | apply pw_below_drewN | apply below_drew1 | refine below_set ?_ GE115.out | refine below_set ?_ GE116.out) | exact HB.out))); (case aF => exact (fun k_ hk => Kd.fresh' (Kd.R_lt (by (with_reducible repeat (first | apply Kd.R_alloc | apply Kd.R_drewN | apply Kd.R_drew)); exact HO_117002.out)) k_ hk)); (case aO => exact (by (with_reducible repeat (first | apply Kd.R_alloc | apply Kd.R_drewN | apply Kd.R_drew)); exact HO_117001.out)); (case aS => exact (below_size (by repeat (first | (with_reducible first | exact HB.out | apply below_alloc | apply pw_below_drewN | apply below_drew1 | refine below_set ?_ GE115.out | refine below_set ?_ GE116.out) | exact HB.out)))); (case aL => have := LMc14.out; omega); intro v120 w18 ho hb hg hat; rw [← Ny119.out] at ho; have n0_ := Aside0.mk (Kd.R_after (ok := (fun _ => True)) (by (with_reducible repeat (first | apply Kd.R_alloc | apply Kd.R_drewN | apply Kd.R_drew)); exact Kd.R_mono HO_117002.out (fun _ hk => ⟨trivial, hk⟩)) hg hat); have n1_ := Aside0.mk (blk_grown (g := gb115) (o := .cells #[.string x116000_1, .slice none 0 0, .slice none 0 0] 53 (0, 0)) (by (with_reducible repeat (first | refine blk_drewN ?_ _ | refine blk_drew ?_ | refine blk_alloc ?_ _)); exact BK115.out) hg (Kd.R_ne HO_117001.out BK115.out (by decide))); have n2_ := Aside0.mk (blk_grown (g := gb116) (o := .cells #[.string a0, u117001, u117002] 53 (0, 0)) (by (with_reducible repeat (first | refine blk_drewN ?_ _ | refine blk_drew ?_ | refine blk_alloc ?_ _)); exact BK116.out) hg (Kd.R_ne HO_117001.out BK116.out (by decide))); have n3_ := Aside0.mk (hb); have n4_ := Aside0.mk (ho); clear HO_117002; clear BK115; clear BK116; clear HB; clear HO_117001; have HO_117002 := n0_; have BK115 := n1_; have BK116 := n2_; have HB := n3_; have HO121 := n4_; clear n0_ n1_ n2_ n3_ n4_; clear ho hb hg hat; obtain ⟨Ao19, co19, eo19⟩ := Kd.R_slice HO121.out; subst eo19; have hcz20_0 : w18.cell? ⟨gb116, 0, none⟩ = some (.string a0) := (blk_cell BK116.out 0).trans rfl; have hcz20_1 : w18.cell? ⟨gb116, 1, none⟩ = some (u117001) := (blk_cell BK116.out 1).trans rfl; have hcz20_2 : w18.cell? ⟨gb116, 2, none⟩ = some (u117002) := (blk_cell BK116.out 2).trans rfl; have hfz20_0 := blk_frozen BK116.out 0; have hfz20_1 := blk_frozen BK116.out 1; have hfz20_2 := blk_frozen BK116.out 2) | ((with_reducible refine gate_builtin (b := .append) (xs := #[.tmp 30, .tmp 32]) rfl ?_); at_builtin; refine Kd.R_append (Kd.int .i64) (w0 := w) w.heap.size rfl (.tmp 30) (.tmp 32) 51 3 (.int .i64 0) 8 rfl Tryd.underlying51 info3 rfl (by decide) (by omega) u117002 x117002_1 x5_1 [.int .i64 x5_1] (fun k_ => some k_ ≠ (.slice Ao19 y119.length co19 : Value).ownBlock) (fun _ => False) rfl (by first | (go_simp; done) | (go_simp; rfl)) ?aP (fun _ hk => hk.elim) ?aF ?aO ?aB ?aS ?aL ?_; (case aP => exact rfl); (case aB => exact (by repeat (first | (with_reducible first | exact HB.out | apply below_alloc | apply pw_below_drewN | apply below_drew1 | refine below_set ?_ GE115.out | refine below_set ?_ GE116.out) | exact HB.out))); (case aF => exact (fun k_ hk => Kd.fresh' (Kd.R_lt (by (with_reducible repeat (first | apply Kd.R_alloc | apply Kd.R_drewN | apply Kd.R_drew)); exact (Kd.R_mono (Kd.R_far (p := ⟨gb116, 1, none⟩) (Kd.R_types HO121.out BK116.out (by decide)) (fun _ hk => hk.2) (.slice Ao19 y119.length co19)) (fun _ h_ => h_.1)))) k_ hk)); (case aO => exact (by (with_reducible repeat (first | apply Kd.R_alloc | apply Kd.R_drewN | apply Kd.R_drew)); exact Kd.R_mono (Kd.R_far (p := ⟨gb116, 1, none⟩) (Kd.R_types HO_117002.out BK116.out (by decide)) (fun _ hk => hk.2) (.slice Ao19 y119.length co19)) (fun _ hk => hk.1.2))); (case aS => exact (below_size (by repeat (first | (with_reducible first | exact HB.out | apply below_alloc | apply pw_below_drewN | apply below_drew1 | refine below_set ?_ GE115.out | refine below_set ?_ GE116.out) | exact HB.out)))); (case aL => have := LMc15.out; omega); intro v123 w21 ho hb hg hat; rw [← Ny122.out] at ho; have n0_ := Aside0.mk (blk_grown (g := gb115) (o := .cells #[.string x116000_1, .slice none 0 0, .slice none 0 0] 53 (0, 0)) (by (with_reducible repeat (first | refine blk_drewN ?_ _ | refine blk_drew ?_ | refine blk_alloc ?_ _)); refine blk_far ?_ NB115_116.out _; (with_reducible repeat (first | refine blk_drewN ?_ _ | refine blk_drew ?_ | refine blk_alloc ?_ _)); exact BK115.out) hg (Kd.R_ne HO_117002.out BK115.out (by decide))); have n1_ := Aside0.mk (blk_grown (g := gb116) (o := .cells #[.string a0, .slice Ao19 y119.length co19, u117002] 53 (0, 0)) (by (with_reducible repeat (first | refine blk_drewN ?_ _ | refine blk_drew ?_ | refine blk_alloc ?_ _)); refine blk_put (cs := #[.string a0, u117001, u117002]) ?_ 1 _ rfl; (with_reducible repeat (first | refine blk_drewN ?_ _ | refine blk_drew ?_ | refine blk_alloc ?_ _)); exact BK116.out) hg (Kd.R_ne HO_117002.out BK116.out (by decide))); have n2_ := Aside0.mk (Kd.R_after (ok := (fun _ => True)) (by (with_reducible repeat (first | apply Kd.R_alloc | apply Kd.R_drewN | apply Kd.R_drew)); exact Kd.R_mono (Kd.R_far (p := ⟨gb116, 1, none⟩) (Kd.R_types HO121.out BK116.out (by decide)) (fun _ hk => hk.2) (.slice Ao19 y119.length co19)) (fun _ hk => ⟨trivial, hk.1⟩)) hg hat); have n3_ := Aside0.mk (hb); have n4_ := Aside0.mk (ho); clear BK115; clear BK116; clear HO121; clear HB; clear HO_117002; have BK115 := n0_; have BK116 := n1_; have HO121 := n2_; have HB := n3_; have HO124 := n4_; clear n0_ n1_ n2_ n3_ n4_; clear ho hb hg hat; obtain ⟨Ao22, co22, eo22⟩ := Kd.R_slice HO124.out; subst eo22; have hcz23_0 : w21.cell? ⟨gb116, 0, none⟩ = some (.string a0) := (blk_cell BK116.out 0).trans rfl; have hcz23_1 : w21.cell? ⟨gb116, 1, none⟩ = some (.slice Ao19 y119.length co19) := (blk_cell BK116.out 1).trans rfl; have hcz23_2 : w21.cell? ⟨gb116, 2, none⟩ = some (u117002) := (blk_cell BK116.out 2).trans rfl; have hfz23_0 := blk_frozen BK116.out 0; have hfz23_1 := blk_frozen BK116.out 1; have hfz23_2 := blk_frozen BK116.out 2))
              go_roundg k1
              case measure => have := HK1.out; omega
              case rel => exact ⟨(wrap64 (x5_1 + t118)), (x116000_1), (y119), (y122), (.slice Ao19 y119.length co19), (.slice Ao22 y122.length co22), (by first | rfl | (simp; done) | (simp [*]; done)), H', ⟨by have := HK1.out; omega⟩, ⟨by (with_reducible repeat (first | apply Kd.R_alloc | apply Kd.R_drewN | apply Kd.R_drew)); exact Kd.R_mono (Kd.R_far (p := ⟨gb116, 2, none⟩) (Kd.R_types HO121.out BK116.out (by decide)) (fun _ hk => hk.2) (.slice Ao22 y122.length co22)) (fun _ hk => hk.1.2)⟩, ⟨by (with_reducible repeat (first | apply Kd.R_alloc | apply Kd.R_drewN | apply Kd.R_drew)); exact Kd.R_mono (Kd.R_far (p := ⟨gb116, 2, none⟩) (Kd.R_types HO124.out BK116.out (by decide)) (fun _ hk => hk.2) (.slice Ao22 y122.length co22)) (fun _ hk => hk.1)⟩, ⟨by (with_reducible repeat (first | refine blk_drewN ?_ _ | refine blk_drew ?_ | refine blk_alloc ?_ _)); refine blk_far ?_ NB115_116.out _; (with_reducible repeat (first | refine blk_drewN ?_ _ | refine blk_drew ?_ | refine blk_alloc ?_ _)); exact BK115.out⟩, ⟨by (with_reducible repeat (first | refine blk_drewN ?_ _ | refine blk_drew ?_ | refine blk_alloc ?_ _)); refine blk_put (cs := #[.string a0, .slice Ao19 y119.length co19, u117002]) ?_ 2 _ rfl; (with_reducible repeat (first | refine blk_drewN ?_ _ | refine blk_drew ?_ | refine blk_alloc ?_ _)); exact BK116.out⟩, ⟨by repeat (first | (with_reducible first | exact HB.out | apply below_alloc | apply pw_below_drewN | apply below_drew1 | refine below_set ?_ GE115.out | refine below_set ?_ GE116.out) | exact HB.out)⟩⟩
            · rw [if_neg c15] at H
              exact absurd H (by simp)
          · rw [if_neg c14] at H
            exact absurd H (by simp)
      · rw [if_neg c6] at H
        have c6b0 : decide (x5_1 < (a0.size : Int)) = false := decide_eq_false c6
        clear c6
        by_cases c24 : x117002_1.length < 17592186044416
        · rw [if_pos c24] at H
          have LMc24 := Aside0.mk c24
          clear c24
          obtain ⟨y125, hy125⟩ : ∃ y_ : List Int, y_ = (x117002_1 ++ [(a0.size : Int)]) := ⟨_, rfl⟩
          replace H : (some (a0, x117001_1, y125, true)) = some (r1, r2, r3, r4) := by first | (rw [hy125]; with_reducible exact H) | (have H2_ := (Option.bind_some _ _).symm.trans H; rw [hy125]; with_reducible exact H2_) | (have H2_ := (Option.bind_some _ _).symm.trans H; with_reducible exact H2_) | with_reducible exact H | (rw [hy125]; exact H) | exact H
          have Ny125 := Aside0.mk hy125
          clear hy125
          simp only [Option.some.injEq, Prod.mk.injEq] at H
          obtain ⟨rfl, rfl, rfl, rfl⟩ := H
          have hnb25 := NB116_115.out
          have hnc25 := NB115_116.out
          have hcz26_0 : wr.cell? ⟨gb116, 0, none⟩ = some (.string a0) := (blk_cell BK116.out 0).trans rfl
          have hcz26_1 : wr.cell? ⟨gb116, 1, none⟩ = some (u117001) := (blk_cell BK116.out 1).trans rfl
          have hcz26_2 : wr.cell? ⟨gb116, 2, none⟩ = some (u117002) := (blk_cell BK116.out 2).trans rfl
          have hfz26_0 := blk_frozen BK116.out 0
          have hfz26_1 := blk_frozen BK116.out 1
          have hfz26_2 := blk_frozen BK116.out 2
          go_wp2_with (first | ((with_reducible refine gate_builtin (b := .append) (xs := #[.tmp 39, .tmp 42]) rfl ?_); at_builtin; refine Kd.R_append (Kd.int .i64) (w0 := w) w.heap.size rfl (.tmp 39) (.tmp 42) 51 3 (.int .i64 0) 8 rfl Tryd.underlying51 info3 rfl (by decide) (by omega) u117002 x117002_1 (a0.size : Int) [.int .i64 (a0.size : Int)] (fun k_ => some k_ ≠ (u117001 : Value).ownBlock) (fun _ => False) rfl rfl ?aP (fun _ hk => hk.elim) ?aF ?aO ?aB ?aS ?aL ?_; (case aP => exact rfl); (case aB => exact (by repeat (first | (with_reducible first | exact HB.out | apply below_alloc | apply pw_below_drewN | apply below_drew1 | refine below_set ?_ GE115.out | refine below_set ?_ GE116.out) | exact HB.out))); (case aF => exact (fun k_ hk => Kd.fresh' (Kd.R_lt (by (with_reducible repeat (first | apply Kd.R_alloc | apply Kd.R_drewN | apply Kd.R_drew)); exact HO_117001.out)) k_ hk)); (case aO => exact (by (with_reducible repeat (first | apply Kd.R_alloc | apply Kd.R_drewN | apply Kd.R_drew)); exact HO_117002.out)); (case aS => exact (below_size (by repeat (first | (with_reducible first | exact HB.out | apply below_alloc | apply pw_below_drewN | apply below_drew1 | refine below_set ?_ GE115.out | refine below_set ?_ GE116.out) | exact HB.out)))); (case aL => have := LMc24.out; omega); intro v126 w27 ho hb hg hat; rw [← Ny125.out] at ho; have n0_ := Aside0.mk (Kd.R_after (ok := (fun _ => True)) (by (with_reducible repeat (first | apply Kd.R_alloc | apply Kd.R_drewN | apply Kd.R_drew)); exact Kd.R_mono HO_117001.out (fun _ hk => ⟨trivial, hk⟩)) hg hat); have n1_ := Aside0.mk (blk_grown (g := gb115) (o := .cells #[.string x116000_1, .slice none 0 0, .slice none 0 0] 53 (0, 0)) (by (with_reducible repeat (first | refine blk_drewN ?_ _ | refine blk_drew ?_ | refine blk_alloc ?_ _)); exact BK115.out) hg (Kd.R_ne HO_117002.out BK115.out (by decide))); have n2_ := Aside0.mk (blk_grown (g := gb116) (o := .cells #[.string a0, u117001, u117002] 53 (0, 0)) (by (with_reducible repeat (first | refine blk_drewN ?_ _ | refine blk_drew ?_ | refine blk_alloc ?_ _)); exact BK116.out) hg (Kd.R_ne HO_117002.out BK116.out (by decide))); have n3_ := Aside0.mk (hb); have n4_ := Aside0.mk (ho); clear HO_117001; clear BK115; clear BK116; clear HB; clear HO_117002; have HO_117001 := n0_; have BK115 := n1_; have BK116 := n2_; have HB := n3_; have HO127 := n4_; clear n0_ n1_ n2_ n3_ n4_; clear ho hb hg hat; obtain ⟨Ao28, co28, eo28⟩ := Kd.R_slice HO127.out; subst eo28; have hcz29_0 : w27.cell? ⟨gb116, 0, none⟩ = some (.string a0) := (blk_cell BK116.out 0).trans rfl; have hcz29_1 : w27.cell? ⟨gb116, 1, none⟩ = some (u117001) := (blk_cell BK116.out 1).trans rfl; have hcz29_2 : w27.cell? ⟨gb116, 2, none⟩ = some (u117002) := (blk_cell BK116.out 2).trans rfl; have hfz29_0 := blk_frozen BK116.out 0; have hfz29_1 := blk_frozen BK116.out 1; have hfz29_2 := blk_frozen BK116.out 2; have hcz30_0 : w27.cell? ⟨gb115, 0, none⟩ = some (.string x116000_1) := (blk_cell BK115.out 0).trans rfl; have hcz30_1 : w27.cell? ⟨gb115, 1, none⟩ = some (.slice none 0 0) := (blk_cell BK115.out 1).trans rfl; have hcz30_2 : w27.cell? ⟨gb115, 2, none⟩ = some (.slice none 0 0) := (blk_cell BK115.out 2).trans rfl; have hfz30_0 := blk_frozen BK115.out 0; have hfz30_1 := blk_frozen BK115.out 1; have hfz30_2 := blk_frozen BK115.out 2; obtain ⟨Ao31, co31, eo31⟩ := Kd.R_slice HO_117001.out; subst eo31))
          refine bodyPost_ret (results_ct rfl _ _ gb115 53 #[.string a0, .slice Ao31 x117001_1.length co31, .slice Ao28 y125.length co28] (0, 0) _ rfl (by (with_reducible repeat (first | refine blk_drewN ?_ _ | refine blk_drew ?_ | refine blk_alloc ?_ _)); refine blk_put (cs := #[.string a0, .slice Ao31 x117001_1.length co31, .slice none 0 0]) ?_ 2 _ rfl; (with_reducible repeat (first | refine blk_drewN ?_ _ | refine blk_drew ?_ | refine blk_alloc ?_ _)); refine blk_put (cs := #[.string a0, .slice none 0 0, .slice none 0 0]) ?_ 1 _ rfl; (with_reducible repeat (first | refine blk_drewN ?_ _ | refine blk_drew ?_ | refine blk_alloc ?_ _)); refine blk_put (cs := #[.string x116000_1, .slice none 0 0, .slice none 0 0]) ?_ 0 _ rfl; (with_reducible repeat (first | refine blk_drewN ?_ _ | refine blk_drew ?_ | refine blk_alloc ?_ _)); refine blk_far ?_ NB115_116.out _; (with_reducible repeat (first | refine blk_drewN ?_ _ | refine blk_drew ?_ | refine blk_alloc ?_ _)); exact BK115.out) Tryd.underlying53 rfl (by kernel_rfl)) rfl ?_
          exact ⟨_, _, by first | rfl | (simp [errW_none, errW_some] <;> rfl) | (simp [*, errW_none, errW_some] <;> rfl), by (with_reducible repeat (first | apply Kd.R_alloc | apply Kd.R_drewN | apply Kd.R_drew)); exact Kd.R_mono (Kd.R_far (p := ⟨gb115, 2, none⟩) (Kd.R_far (p := ⟨gb115, 1, none⟩) (Kd.R_far (p := ⟨gb115, 0, none⟩) (Kd.R_far (p := ⟨gb116, 2, none⟩) (Kd.R_types (Kd.R_types HO_117001.out BK116.out (by decide)) BK115.out (by decide)) (fun _ hk => hk.1.2) (.slice Ao28 y125.length co28)) (fun _ hk => hk.2) (.string a0)) (fun _ hk => hk.2) (.slice Ao31 x117001_1.length co31)) (fun _ hk => hk.2) (.slice Ao28 y125.length co28)) (fun _ hk => hk.1.1.2), by (with_reducible repeat (first | apply Kd.R_alloc | apply Kd.R_drewN | apply Kd.R_drew)); exact Kd.R_mono (Kd.R_far (p := ⟨gb115, 2, none⟩) (Kd.R_far (p := ⟨gb115, 1, none⟩) (Kd.R_far (p := ⟨gb115, 0, none⟩) (Kd.R_far (p := ⟨gb116, 2, none⟩) (Kd.R_types (Kd.R_types HO127.out BK116.out (by decide)) BK115.out (by decide)) (fun _ hk => hk.1.2) (.slice Ao28 y125.length co28)) (fun _ hk => hk.2) (.string a0)) (fun _ hk => hk.2) (.slice Ao31 x117001_1.length co31)) (fun _ hk => hk.2) (.slice Ao28 y125.length co28)) (fun _ hk => hk.1.1), by repeat (first | (with_reducible first | exact HB.out | apply below_alloc | apply pw_below_drewN | apply below_drew1 | refine below_set ?_ GE115.out | refine below_set ?_ GE116.out) | exact HB.out)⟩
        · rw [if_neg c24] at H
          exact absurd H (by simp)
end Go.Proofs.YtlikjknakplamaaDoor.Print
/-! ### LexPure -/
namespace Go.Proofs.YtlikjknakplamaaDoor
/-- The signs. -/
def signs : List Int := [40, 41, 123, 125, 44, 59, 58, 61, 43, 45, 42, 47, 37, 60, 62, 33, 38, 124]
/-- What a rune is. -/
def classZ (r : Int) : Int :=
  if r = 32 ∨ r = 9 ∨ r = 13 ∨ r = 10 then 1
  else if (97 ≤ r ∧ r ≤ 122) ∨ (65 ≤ r ∧ r ≤ 90) ∨ r = 95 then 2
  else if 192 ≤ r ∧ r ≤ 591 ∧ r ≠ 215 ∧ r ≠ 247 then 2
  else if 48 ≤ r ∧ r ≤ 57 then 3
  else if r = 34 then 5
  else if r = 35 then 6
  else if r ∈ signs then 4 else 0
def wordyZ (r : Int) : Bool := classZ r == 2 || classZ r == 3
end Go.Proofs.YtlikjknakplamaaDoor
/-! ### EClass -/
namespace Go.Proofs.YtlikjknakplamaaDoor.Print
open Go.RowKit Go.Proofs.YtlikjknakplamaaDoorW.PrintWords Go.Proofs.YtlikjknakplamaaDoorW.PrintLast Go.Proofs.YtlikjknakplamaaDoorW.PrintMore
set_option linter.unusedSimpArgs false
set_option linter.unusedVariables false
def malthouseref01_Class.f (a0 : Int) : Option Int := some (classZ a0)
theorem sign_at (S : ByteArray) (hS : S = ⟨#[40, 41, 123, 125, 44, 59, 58, 61, 43, 45, 42, 47, 37, 60, 62, 33, 38, 124]⟩) (k : Nat) (h : k < S.size) : ((S[k]'h).toNat : Int) = signs.getD k 0 := by
  subst hS
  have h18 : k < 18 := h
  match k, h18 with
  | 0, _ => rfl
  | 1, _ => rfl
  | 2, _ => rfl
  | 3, _ => rfl
  | 4, _ => rfl
  | 5, _ => rfl
  | 6, _ => rfl
  | 7, _ => rfl
  | 8, _ => rfl
  | 9, _ => rfl
  | 10, _ => rfl
  | 11, _ => rfl
  | 12, _ => rfl
  | 13, _ => rfl
  | 14, _ => rfl
  | 15, _ => rfl
  | 16, _ => rfl
  | 17, _ => rfl
  | k + 18, h => omega
theorem wrap_byte (b : UInt8) : wrap64 (b.toNat : Int) = b.toNat := by
  have := b.toNat_lt
  unfold wrap64
  omega
/-- What is no blank, letter, digit, quote or hash. -/
def lateZ (r : Int) : Prop := ¬ (r = 32 ∨ r = 9 ∨ r = 13 ∨ r = 10) ∧ ¬ ((97 ≤ r ∧ r ≤ 122) ∨ (65 ≤ r ∧ r ≤ 90) ∨ r = 95) ∧ ¬ (192 ≤ r ∧ r ≤ 591 ∧ r ≠ 215 ∧ r ≠ 247) ∧ ¬ (48 ≤ r ∧ r ≤ 57) ∧ r ≠ 34 ∧ r ≠ 35
theorem class_late {r : Int} (h : lateZ r) : classZ r = if r ∈ signs then 4 else 0 := by
  obtain ⟨h1, h2, h3, h4, h5, h6⟩ := h
  unfold classZ
  rw [if_neg h1, if_neg h2, if_neg h3, if_neg h4, if_neg h5, if_neg h6]
set_option maxHeartbeats 8000000 in
set_option maxRecDepth 100000 in
theorem malthouseref01_Class.calls (a0 : Int) (r : Int) (w : World) (h : malthouseref01_Class.f a0 = some r) :
    Calls Tryd.prog 17 #[.int .i64 a0] w fun e w' => e = .returned (.int .i64 r) ∧ Drawn0 w w' := by
  obtain rfl := Option.some.inj h
  clear h
  obtain ⟨c, hc⟩ : ∃ c, c = classZ a0 := ⟨_, rfl⟩
  rw [← hc]
  have HC := Lib.hid hc
  clear hc
  cases hb1 : (a0 != 215) <;> cases hb2 : (a0 != 247)
  all_goals
    go_enter Tryd.func17, Tryd.ntmps17
    go_wp2
  all_goals (try simp only [beq_eq_false_iff_ne, beq_iff_eq, bne_iff_ne, bne_eq_false_iff_eq, ne_eq] at *)
  all_goals first
    | (exfalso; omega)
    | (go_ret; refine ⟨?_, Drawn0.refl _⟩; rw [HC.out]; unfold classZ; (first | rw [if_pos (by omega)] | rw [if_neg (by omega), if_pos (by omega)] | rw [if_neg (by omega), if_neg (by omega), if_pos (by omega)] | rw [if_neg (by omega), if_neg (by omega), if_neg (by omega), if_pos (by omega)] | rw [if_neg (by omega), if_neg (by omega), if_neg (by omega), if_neg (by omega), if_pos (by omega)] | rw [if_neg (by omega), if_neg (by omega), if_neg (by omega), if_neg (by omega), if_neg (by omega), if_pos (by omega)]) <;> rfl)
    | (have hl : lateZ a0 := by unfold lateZ; omega
       clear hb1 hb2
       have h4 := HC.out
       rw [class_late hl] at h4
       have H4 := Lib.hid h4
       clear h4 hl HC
       generalize hS : (⟨#[40, 41, 123, 125, 44, 59, 58, 61, 43, 45, 42, 47, 37, 60, 62, 33, 38, 124]⟩ : ByteArray) = S
       have HS := Lib.hid hS.symm
       have hsz : S.size = 18 := by rw [← hS]; rfl
       have HSZ := Lib.hid hsz
       clear hS hsz
       go_loopw [4] (fun i wr => ∃ k : Nat, k ≤ 18 ∧ i = .int .i64 k ∧ Hid (∀ j, j < k → a0 ≠ signs.getD j 0) ∧ wr = w) (fun i _ => 18 - (intOf i).toNat)
       case atStart => exact ⟨0, by omega, rfl, Lib.hid (fun j h => by omega), rfl⟩
       case round =>
        obtain ⟨k, hk, rfl, hno, rfl⟩ := hrel
        by_cases hlt : k < S.size
        · have hlt' : (k : Int) < S.size := by omega
          have hk18 : k < 18 := by have := HSZ.out; omega
          have hat := sign_at S HS.out k hlt
          by_cases heq : a0 = signs.getD k 0
          · have hb : (wrap64 ((S[k]'hlt).toNat : Int) == a0) = true := by rw [wrap_byte (S[k]'hlt), hat, heq]; simp
            have hmem : a0 ∈ signs := by
              rw [heq, List.getD_eq_getElem?_getD, List.getElem?_eq_getElem (show k < signs.length from hk18)]
              exact List.getElem_mem _
            have H9 := Lib.hid hmem
            clear heq hat hmem
            go_wp2
            go_ret
            exact ⟨by rw [H4.out, if_pos H9.out]; rfl, Drawn0.refl _⟩
          · have hb : (wrap64 ((S[k]'hlt).toNat : Int) == a0) = false := by rw [wrap_byte (S[k]'hlt), hat, beq_eq_false_iff_ne]; exact fun e => heq e.symm
            have H9 := Lib.hid heq
            clear heq hat
            go_wp2
            go_roundw
            case rel =>
              refine ⟨k + 1, by omega, by go_num, Lib.hid (fun j hj => ?_), trivial⟩
              by_cases hjk : j = k
              · subst hjk; exact H9.out
              · exact hno.out j (by omega)
            case measure => simp [intOf]; omega
        · have hlt' : (S.size : Int) ≤ k := by have := HSZ.out; omega
          have hk18 : k = 18 := by have := HSZ.out; omega
          have hnm : a0 ∉ signs := by
            intro hm
            obtain ⟨j, hj, he⟩ := List.getElem_of_mem hm
            have hj18 : j < 18 := hj
            have := hno.out j (by omega)
            rw [List.getD_eq_getElem?_getD, List.getElem?_eq_getElem hj] at this
            exact this he.symm
          have H9 := Lib.hid hnm
          clear hnm
          go_wp2
          go_ret
          exact ⟨by rw [H4.out, if_neg H9.out]; rfl, Drawn0.refl _⟩)
end Go.Proofs.YtlikjknakplamaaDoor.Print
/-! ### Print5 -/
namespace Go.Proofs.YtlikjknakplamaaDoor.Print
open Go.RowKit Go.Proofs.YtlikjknakplamaaDoorW.PrintWords Go.Proofs.YtlikjknakplamaaDoorW.PrintLast Go.Proofs.YtlikjknakplamaaDoorW.PrintMore
set_option linter.unusedVariables false
set_option linter.unusedSimpArgs false
mutual
def malthouseref01_past.l0 : Nat → Int → ByteArray → List Int → List Int → Option (Int)
  | 0, _, _, _, _ => none
  | k + 1, x1, x129000, x129001, x129002 => if x1 < (x129001.length : Int) then (if 0 ≤ x1 then ((malthouseref01_Class.f (rd x129001 x1)).bind fun t130 => (if t130 = 6 then (malthouseref01_past.l1 k x1 x129000 x129001 x129002) else (if t130 = 1 then (malthouseref01_past.l0 k (wrap64 (x1 + 1)) x129000 x129001 x129002) else (some x1)))) else (none)) else (some x1)
def malthouseref01_past.l1 : Nat → Int → ByteArray → List Int → List Int → Option (Int)
  | 0, _, _, _, _ => none
  | k + 1, x1, x129000, x129001, x129002 => if x1 < (x129001.length : Int) then (if 0 ≤ x1 then (if (rd x129001 x1) = 10 then (malthouseref01_past.l0 k x1 x129000 x129001 x129002) else (malthouseref01_past.l1 k (wrap64 (x1 + 1)) x129000 x129001 x129002)) else (none)) else (malthouseref01_past.l0 k x1 x129000 x129001 x129002)
end
def malthouseref01_past.f (k : Nat) (a0_0 : ByteArray) (l0_1 : List Int) (l0_2 : List Int) (a1 : Int) : Option (Int) := malthouseref01_past.l0 k a1 a0_0 l0_1 l0_2
set_option maxHeartbeats 8000000 in
set_option maxRecDepth 100000 in
theorem malthouseref01_past.calls (k : Nat) (a0_0 : ByteArray) (A0_1 : Option Addr) (c0_1 : Nat) (l0_1 : List Int) (A0_2 : Option Addr) (c0_2 : Nat) (l0_2 : List Int) (a1 : Int) (r : Int) (w : World) (hr0_1 : Kd.C (Kd.int .i64) w A0_1 l0_1.length l0_1) (hc0_1 : l0_1.length ≤ c0_1) (hr0_2 : Kd.C (Kd.int .i64) w A0_2 l0_2.length l0_2) (hc0_2 : l0_2.length ≤ c0_2) (h : malthouseref01_past.f k a0_0 l0_1 l0_2 a1 = some r) :
    Calls Tryd.prog 33 #[.agg #[.string a0_0, .slice A0_1 l0_1.length c0_1, .slice A0_2 l0_2.length c0_2], .int .i64 a1] w fun e w' => e = .returned (.int .i64 r) ∧ Below w.heap.size w w' := by
  have hu53 := Tryd.underlying53
  have HR0_1 := Aside0.mk hr0_1
  have HC0_1 := Aside0.mk hc0_1
  clear hr0_1 hc0_1
  have HR0_2 := Aside0.mk hr0_2
  have HC0_2 := Aside0.mk hc0_2
  clear hr0_2 hc0_2
  have HB := Aside0.mk (Below.refl w.heap.size w)
  have H : (malthouseref01_past.l0 k a1 a0_0 l0_1 l0_2) = some r := h
  clear h
  have H' := Aside0.mk H
  clear H
  go_enter Tryd.func33, Tryd.ntmps33
  go_wp2_with (first | ((with_reducible refine gate_dst (N := 2) rfl ?_); refine box_event ?hg (N := 2) ?hd (cs := #[.string a0_0, .slice A0_1 l0_1.length c0_1, .slice A0_2 l0_2.length c0_2]) (t := 53) ?hr ?_; (case hd => rfl); (case hg => rfl); (case hr => first | (go_simp; done) | (go_simp; rfl)); intro gb128 hg w3 hbox hb; have n0_ := Aside0.mk (below_step (by repeat (first | (with_reducible first | exact HB.out | apply below_alloc | apply pw_below_drewN | apply below_drew1) | exact HB.out)) hb); have n1_ := Aside0.mk (hbox); have n2_ := Aside0.mk ((by rw [hg]; exact (below_size (by repeat (first | (with_reducible first | exact HB.out | apply below_alloc | apply pw_below_drewN | apply below_drew1) | exact HB.out))) : w.heap.size ≤ gb128)); have n3_ := Aside0.mk ((by rw [hg]; exact (below_size (by repeat (first | (with_reducible first | exact HB.out | apply below_alloc | apply pw_below_drewN | apply below_drew1) | exact HB.out))) : w.heap.size ≤ gb128)); clear HB; have HB := n0_; have BK128 := n1_; have GW128 := n2_; have GE128 := n3_; clear n0_ n1_ n2_ n3_; clear hb hbox hg))
  go_loopg [1] k (fun kq v1 w' => ∃ (x1_1 : Int), v1 = .int .i64 x1_1 ∧ Aside0 (malthouseref01_past.l0 kq x1_1 a0_0 l0_1 l0_2 = some r) ∧ Aside0 (kq ≤ k) ∧ Aside0 (w'.heap[gb128]? = some (.cells #[.string a0_0, (.slice A0_1 l0_1.length c0_1), (.slice A0_2 l0_2.length c0_2)] 53 (0, 0))) ∧ Aside0 (Below w.heap.size w w'))
  case atStart => exact ⟨(a1), (by first | rfl | (simp; done) | (simp [*]; done)), H', ⟨Nat.le_refl _⟩, ⟨by (with_reducible repeat (first | refine blk_drewN ?_ _ | refine blk_drew ?_ | refine blk_alloc ?_ _)); exact BK128.out⟩, ⟨by repeat (first | (with_reducible first | exact HB.out | apply below_alloc | apply pw_below_drewN | apply below_drew1 | refine below_set ?_ GE128.out) | exact HB.out)⟩⟩
  case round =>
    clear H'
    try clear p2
    try clear c3
    obtain ⟨x1_1, rfl, HA, HK1, BK128, HB⟩ := hrel
    cases gk with
    | zero => exact absurd HA.out (by simp [malthouseref01_past.l0])
    | succ k1 =>
      have H := HA.out
      clear HA
      simp only [malthouseref01_past.l0] at H
      by_cases c4 : x1_1 < (l0_1.length : Int)
      · rw [if_pos c4] at H
        have c4b0 : decide (x1_1 < (l0_1.length : Int)) = true := decide_eq_true c4
        clear c4
        by_cases c5 : 0 ≤ x1_1
        · rw [if_pos c5] at H
          have c5b0 : decide (0 ≤ x1_1) = true := decide_eq_true c5
          clear c5
          replace H := Option.bind_eq_some_iff.mp H
          obtain ⟨t130, A60, H⟩ := H
          replace H : (if t130 = 6 then (malthouseref01_past.l1 k1 x1_1 a0_0 l0_1 l0_2) else (if t130 = 1 then (malthouseref01_past.l0 k1 (wrap64 (x1_1 + 1)) a0_0 l0_1 l0_2) else (some x1_1))) = some r := H
          have A6 := Aside0.mk A60
          clear A60
          by_cases c7 : t130 = 6
          · rw [if_pos c7] at H
            have c7b0 : (t130 == 6) = true := beq_iff_eq.mpr c7
            have c7b1 : (t130 != 6) = false := bne_eq_false_iff_eq.mpr c7
            clear c7
            have H' := Aside0.mk H
            clear H
            have hcz8_0 : wr.cell? ⟨gb128, 0, none⟩ = some (.string a0_0) := (blk_cell BK128.out 0).trans rfl
            have hcz8_1 : wr.cell? ⟨gb128, 1, none⟩ = some (.slice A0_1 l0_1.length c0_1) := (blk_cell BK128.out 1).trans rfl
            have hcz8_2 : wr.cell? ⟨gb128, 2, none⟩ = some (.slice A0_2 l0_2.length c0_2) := (blk_cell BK128.out 2).trans rfl
            have hfz8_0 := blk_frozen BK128.out 0
            have hfz8_1 := blk_frozen BK128.out 1
            have hfz8_2 := blk_frozen BK128.out 2
            have p129 : 0 ≤ (x1_1 : Int) := of_decide_eq_true (by first | (with_reducible assumption) | assumption)
            have q129 : x1_1 < (l0_1.length : Int) := of_decide_eq_true (by first | (with_reducible assumption) | assumption)
            obtain ⟨ad129, e129, hx129_0⟩ := Kd.at_int HR0_1.out x1_1 p129 q129
            cases e129
            replace hx129_0 := (HB.out.cell (World.block_lt_of_cell? w _ hx129_0)).trans hx129_0
            replace p129 := eq_true p129
            replace q129 := eq_true q129
            go_wp2_with (first | ((with_reducible refine gate_callee (f := 17) rfl ?_); refine goesL_ (some 16) rfl rfl Tryd.func17 (by kernel_rfl) rfl #[.int .i64 (rd l0_1 x1_1)] rfl (by (try simp only [List.map_toArray, List.map_cons, List.map_nil]); first | done | rfl | (simp only [List.length_drop, List.length_take]; rfl)) ?_; (with_reducible refine (malthouseref01_Class.calls (rd l0_1 x1_1) t130 _ A6.out).mono ?_); rintro e w' ⟨rfl, ⟨nd, rfl⟩⟩; refine ⟨_, rfl, ?_⟩))
            go_loopg [1] k1 (fun kq v1 w' => ∃ (x1_2 : Int), v1 = .int .i64 x1_2 ∧ Aside0 (malthouseref01_past.l1 kq x1_2 a0_0 l0_1 l0_2 = some r) ∧ Aside0 (kq ≤ k1) ∧ Aside0 (w'.heap[gb128]? = some (.cells #[.string a0_0, (.slice (some ad129) l0_1.length c0_1), (.slice A0_2 l0_2.length c0_2)] 53 (0, 0))) ∧ Aside0 (Below w.heap.size w w'))
            case atStart => exact ⟨(x1_1), (by first | rfl | (simp; done) | (simp [*]; done)), H', ⟨Nat.le_refl _⟩, ⟨by (with_reducible repeat (first | refine blk_drewN ?_ _ | refine blk_drew ?_ | refine blk_alloc ?_ _)); exact BK128.out⟩, ⟨by repeat (first | (with_reducible first | exact HB.out | apply below_alloc | apply pw_below_drewN | apply below_drew1 | refine below_set ?_ GE128.out) | exact HB.out)⟩⟩
            case round =>
              clear H'
              try clear c1
              try clear p1
              try clear q1
              try clear hx1
              try clear p2
              try clear c3
              try clear c4
              try clear c4b0
              try clear c5
              try clear c5b0
              try clear p6
              try clear c7
              try clear c7b0
              try clear c7b1
              try clear hcz8_0
              try clear hcz8_1
              try clear hcz8_2
              try clear hfz8_0
              try clear hfz8_1
              try clear hfz8_2
              try clear hx129_0
              try clear p129
              try clear p2
              try clear q129
              obtain ⟨x1_2, rfl, HA, HK2, BK128, HB⟩ := hrel
              cases gk with
              | zero => exact absurd HA.out (by simp [malthouseref01_past.l1])
              | succ k2 =>
                have H := HA.out
                clear HA
                simp only [malthouseref01_past.l1] at H
                by_cases c9 : x1_2 < (l0_1.length : Int)
                · rw [if_pos c9] at H
                  have c9b0 : decide (x1_2 < (l0_1.length : Int)) = true := decide_eq_true c9
                  clear c9
                  by_cases c10 : 0 ≤ x1_2
                  · rw [if_pos c10] at H
                    have c10b0 : decide (0 ≤ x1_2) = true := decide_eq_true c10
                    clear c10
                    by_cases c11 : (rd l0_1 x1_2) = 10
                    · rw [if_pos c11] at H
                      have c11b0 : ((rd l0_1 x1_2) == 10) = true := beq_iff_eq.mpr c11
                      have c11b1 : ((rd l0_1 x1_2) != 10) = false := bne_eq_false_iff_eq.mpr c11
                      clear c11
                      have H' := Aside0.mk H
                      clear H
                      have hcz12_0 : wr.cell? ⟨gb128, 0, none⟩ = some (.string a0_0) := (blk_cell BK128.out 0).trans rfl
                      have hcz12_1 : wr.cell? ⟨gb128, 1, none⟩ = some (.slice (some ad129) l0_1.length c0_1) := (blk_cell BK128.out 1).trans rfl
                      have hcz12_2 : wr.cell? ⟨gb128, 2, none⟩ = some (.slice A0_2 l0_2.length c0_2) := (blk_cell BK128.out 2).trans rfl
                      have hfz12_0 := blk_frozen BK128.out 0
                      have hfz12_1 := blk_frozen BK128.out 1
                      have hfz12_2 := blk_frozen BK128.out 2
                      have p131 : 0 ≤ (x1_2 : Int) := of_decide_eq_true (by first | (with_reducible assumption) | assumption)
                      have q131 : x1_2 < (l0_1.length : Int) := of_decide_eq_true (by first | (with_reducible assumption) | assumption)
                      obtain ⟨ad131, e131, hx131_0⟩ := Kd.at_int HR0_1.out x1_2 p131 q131
                      obtain rfl : ad129 = ad131 := (by injection e131)
                      replace hx131_0 := (HB.out.cell (World.block_lt_of_cell? w _ hx131_0)).trans hx131_0
                      replace p131 := eq_true p131
                      replace q131 := eq_true q131
                      go_wp2
                      go_roundg k2
                      case measure => have := HK1.out; have := HK2.out; omega
                      case rel => exact ⟨(x1_2), (by first | rfl | (simp; done) | (simp [*]; done)), H', ⟨by have := HK1.out; have := HK2.out; omega⟩, ⟨by (with_reducible repeat (first | refine blk_drewN ?_ _ | refine blk_drew ?_ | refine blk_alloc ?_ _)); exact BK128.out⟩, ⟨by repeat (first | (with_reducible first | exact HB.out | apply below_alloc | apply pw_below_drewN | apply below_drew1 | refine below_set ?_ GE128.out) | exact HB.out)⟩⟩
                    · rw [if_neg c11] at H
                      have c11b0 : ((rd l0_1 x1_2) == 10) = false := beq_eq_false_iff_ne.mpr c11
                      have c11b1 : ((rd l0_1 x1_2) != 10) = true := bne_iff_ne.mpr c11
                      have H' := Aside0.mk H
                      clear H
                      have hcz13_0 : wr.cell? ⟨gb128, 0, none⟩ = some (.string a0_0) := (blk_cell BK128.out 0).trans rfl
                      have hcz13_1 : wr.cell? ⟨gb128, 1, none⟩ = some (.slice (some ad129) l0_1.length c0_1) := (blk_cell BK128.out 1).trans rfl
                      have hcz13_2 : wr.cell? ⟨gb128, 2, none⟩ = some (.slice A0_2 l0_2.length c0_2) := (blk_cell BK128.out 2).trans rfl
                      have hfz13_0 := blk_frozen BK128.out 0
                      have hfz13_1 := blk_frozen BK128.out 1
                      have hfz13_2 := blk_frozen BK128.out 2
                      have p131 : 0 ≤ (x1_2 : Int) := of_decide_eq_true (by first | (with_reducible assumption) | assumption)
                      have q131 : x1_2 < (l0_1.length : Int) := of_decide_eq_true (by first | (with_reducible assumption) | assumption)
                      obtain ⟨ad131, e131, hx131_0⟩ := Kd.at_int HR0_1.out x1_2 p131 q131
                      obtain rfl : ad129 = ad131 := (by injection e131)
                      replace hx131_0 := (HB.out.cell (World.block_lt_of_cell? w _ hx131_0)).trans hx131_0
                      replace p131 := eq_true p131
                      replace q131 := eq_true q131
                      go_wp2
                      go_roundg k2
                      case measure => have := HK1.out; have := HK2.out; omega
                      case rel => exact ⟨(wrap64 (x1_2 + 1)), (by first | rfl | (simp; done) | (simp [*]; done)), H', ⟨by have := HK1.out; have := HK2.out; omega⟩, ⟨by (with_reducible repeat (first | refine blk_drewN ?_ _ | refine blk_drew ?_ | refine blk_alloc ?_ _)); exact BK128.out⟩, ⟨by repeat (first | (with_reducible first | exact HB.out | apply below_alloc | apply pw_below_drewN | apply below_drew1 | refine below_set ?_ GE128.out) | exact HB.out)⟩⟩
                  · rw [if_neg c10] at H
                    exact absurd H (by simp)
                · rw [if_neg c9] at H
                  have c9b0 : decide (x1_2 < (l0_1.length : Int)) = false := decide_eq_false c9
                  clear c9
                  have H' := Aside0.mk H
                  clear H
                  have hcz14_0 : wr.cell? ⟨gb128, 0, none⟩ = some (.string a0_0) := (blk_cell BK128.out 0).trans rfl
                  have hcz14_1 : wr.cell? ⟨gb128, 1, none⟩ = some (.slice (some ad129) l0_1.length c0_1) := (blk_cell BK128.out 1).trans rfl
                  have hcz14_2 : wr.cell? ⟨gb128, 2, none⟩ = some (.slice A0_2 l0_2.length c0_2) := (blk_cell BK128.out 2).trans rfl
                  have hfz14_0 := blk_frozen BK128.out 0
                  have hfz14_1 := blk_frozen BK128.out 1
                  have hfz14_2 := blk_frozen BK128.out 2
                  go_wp2
                  go_roundg k2
                  case measure => have := HK1.out; have := HK2.out; omega
                  case rel => exact ⟨(x1_2), (by first | rfl | (simp; done) | (simp [*]; done)), H', ⟨by have := HK1.out; have := HK2.out; omega⟩, ⟨by (with_reducible repeat (first | refine blk_drewN ?_ _ | refine blk_drew ?_ | refine blk_alloc ?_ _)); exact BK128.out⟩, ⟨by repeat (first | (with_reducible first | exact HB.out | apply below_alloc | apply pw_below_drewN | apply below_drew1 | refine below_set ?_ GE128.out) | exact HB.out)⟩⟩
          · rw [if_neg c7] at H
            have c7b0 : (t130 == 6) = false := beq_eq_false_iff_ne.mpr c7
            have c7b1 : (t130 != 6) = true := bne_iff_ne.mpr c7
            by_cases c15 : t130 = 1
            · rw [if_pos c15] at H
              have c15b0 : (t130 == 1) = true := beq_iff_eq.mpr c15
              have c15b1 : (t130 != 1) = false := bne_eq_false_iff_eq.mpr c15
              clear c15
              have H' := Aside0.mk H
              clear H
              have hcz16_0 : wr.cell? ⟨gb128, 0, none⟩ = some (.string a0_0) := (blk_cell BK128.out 0).trans rfl
              have hcz16_1 : wr.cell? ⟨gb128, 1, none⟩ = some (.slice A0_1 l0_1.length c0_1) := (blk_cell BK128.out 1).trans rfl
              have hcz16_2 : wr.cell? ⟨gb128, 2, none⟩ = some (.slice A0_2 l0_2.length c0_2) := (blk_cell BK128.out 2).trans rfl
              have hfz16_0 := blk_frozen BK128.out 0
              have hfz16_1 := blk_frozen BK128.out 1
              have hfz16_2 := blk_frozen BK128.out 2
              have p129 : 0 ≤ (x1_1 : Int) := of_decide_eq_true (by first | (with_reducible assumption) | assumption)
              have q129 : x1_1 < (l0_1.length : Int) := of_decide_eq_true (by first | (with_reducible assumption) | assumption)
              obtain ⟨ad129, e129, hx129_0⟩ := Kd.at_int HR0_1.out x1_1 p129 q129
              cases e129
              replace hx129_0 := (HB.out.cell (World.block_lt_of_cell? w _ hx129_0)).trans hx129_0
              replace p129 := eq_true p129
              replace q129 := eq_true q129
              go_wp2_with (first | ((with_reducible refine gate_callee (f := 17) rfl ?_); refine goesL_ (some 16) rfl rfl Tryd.func17 (by kernel_rfl) rfl #[.int .i64 (rd l0_1 x1_1)] rfl (by (try simp only [List.map_toArray, List.map_cons, List.map_nil]); first | done | rfl | (simp only [List.length_drop, List.length_take]; rfl)) ?_; (with_reducible refine (malthouseref01_Class.calls (rd l0_1 x1_1) t130 _ A6.out).mono ?_); rintro e w' ⟨rfl, ⟨nd, rfl⟩⟩; refine ⟨_, rfl, ?_⟩))
              go_roundg k1
              case measure => have := HK1.out; omega
              case rel => exact ⟨(wrap64 (x1_1 + 1)), (by first | rfl | (simp; done) | (simp [*]; done)), H', ⟨by have := HK1.out; omega⟩, ⟨by (with_reducible repeat (first | refine blk_drewN ?_ _ | refine blk_drew ?_ | refine blk_alloc ?_ _)); exact BK128.out⟩, ⟨by repeat (first | (with_reducible first | exact HB.out | apply below_alloc | apply pw_below_drewN | apply below_drew1 | refine below_set ?_ GE128.out) | exact HB.out)⟩⟩
            · rw [if_neg c15] at H
              have c15b0 : (t130 == 1) = false := beq_eq_false_iff_ne.mpr c15
              have c15b1 : (t130 != 1) = true := bne_iff_ne.mpr c15
              obtain rfl := Option.some.inj H
              have hcz17_0 : wr.cell? ⟨gb128, 0, none⟩ = some (.string a0_0) := (blk_cell BK128.out 0).trans rfl
              have hcz17_1 : wr.cell? ⟨gb128, 1, none⟩ = some (.slice A0_1 l0_1.length c0_1) := (blk_cell BK128.out 1).trans rfl
              have hcz17_2 : wr.cell? ⟨gb128, 2, none⟩ = some (.slice A0_2 l0_2.length c0_2) := (blk_cell BK128.out 2).trans rfl
              have hfz17_0 := blk_frozen BK128.out 0
              have hfz17_1 := blk_frozen BK128.out 1
              have hfz17_2 := blk_frozen BK128.out 2
              have p129 : 0 ≤ (x1_1 : Int) := of_decide_eq_true (by first | (with_reducible assumption) | assumption)
              have q129 : x1_1 < (l0_1.length : Int) := of_decide_eq_true (by first | (with_reducible assumption) | assumption)
              obtain ⟨ad129, e129, hx129_0⟩ := Kd.at_int HR0_1.out x1_1 p129 q129
              cases e129
              replace hx129_0 := (HB.out.cell (World.block_lt_of_cell? w _ hx129_0)).trans hx129_0
              replace p129 := eq_true p129
              replace q129 := eq_true q129
              go_wp2_with (first | ((with_reducible refine gate_callee (f := 17) rfl ?_); refine goesL_ (some 16) rfl rfl Tryd.func17 (by kernel_rfl) rfl #[.int .i64 (rd l0_1 x1_1)] rfl (by (try simp only [List.map_toArray, List.map_cons, List.map_nil]); first | done | rfl | (simp only [List.length_drop, List.length_take]; rfl)) ?_; (with_reducible refine (malthouseref01_Class.calls (rd l0_1 x1_1) t130 _ A6.out).mono ?_); rintro e w' ⟨rfl, ⟨nd, rfl⟩⟩; refine ⟨_, rfl, ?_⟩))
              go_ret
              exact ⟨by first | rfl | (simp [errW_none, errW_some] <;> rfl) | (simp [*, errW_none, errW_some] <;> rfl), by repeat (first | (with_reducible first | exact HB.out | apply below_alloc | apply pw_below_drewN | apply below_drew1 | refine below_set ?_ GE128.out) | exact HB.out)⟩
        · rw [if_neg c5] at H
          exact absurd H (by simp)
      · rw [if_neg c4] at H
        have c4b0 : decide (x1_1 < (l0_1.length : Int)) = false := decide_eq_false c4
        clear c4
        obtain rfl := Option.some.inj H
        have hcz18_0 : wr.cell? ⟨gb128, 0, none⟩ = some (.string a0_0) := (blk_cell BK128.out 0).trans rfl
        have hcz18_1 : wr.cell? ⟨gb128, 1, none⟩ = some (.slice A0_1 l0_1.length c0_1) := (blk_cell BK128.out 1).trans rfl
        have hcz18_2 : wr.cell? ⟨gb128, 2, none⟩ = some (.slice A0_2 l0_2.length c0_2) := (blk_cell BK128.out 2).trans rfl
        have hfz18_0 := blk_frozen BK128.out 0
        have hfz18_1 := blk_frozen BK128.out 1
        have hfz18_2 := blk_frozen BK128.out 2
        go_wp2
        go_ret
        exact ⟨by first | rfl | (simp [errW_none, errW_some] <;> rfl) | (simp [*, errW_none, errW_some] <;> rfl), by repeat (first | (with_reducible first | exact HB.out | apply below_alloc | apply pw_below_drewN | apply below_drew1 | refine below_set ?_ GE128.out) | exact HB.out)⟩
end Go.Proofs.YtlikjknakplamaaDoor.Print
/-! ### Print2 -/
namespace Go.Proofs.YtlikjknakplamaaDoor.Print
open Go.RowKit Go.Proofs.YtlikjknakplamaaDoorW.PrintWords Go.Proofs.YtlikjknakplamaaDoorW.PrintLast Go.Proofs.YtlikjknakplamaaDoorW.PrintMore
set_option linter.unusedVariables false
set_option linter.unusedSimpArgs false
def malthouseref01_wordy.f (a0 : Int) : Option (Bool) := (malthouseref01_Class.f a0).bind fun t101 => (if t101 = 2 then (some true) else (some (t101 == 3)))
set_option maxHeartbeats 8000000 in
set_option maxRecDepth 100000 in
theorem malthouseref01_wordy.calls (a0 : Int) (r : Bool) (w : World) (h : malthouseref01_wordy.f a0 = some r) :
    Calls Tryd.prog 40 #[.int .i64 a0] w fun e w' => e = .returned (.bool r) ∧ Drawn0 w w' := by
  have H : ((malthouseref01_Class.f a0).bind fun t101 => (if t101 = 2 then (some true) else (some (t101 == 3)))) = some r := h
  clear h
  replace H := Option.bind_eq_some_iff.mp H
  obtain ⟨t101, A20, H⟩ := H
  replace H : (if t101 = 2 then (some true) else (some (t101 == 3))) = some r := H
  have A2 := Aside0.mk A20
  clear A20
  by_cases c3 : t101 = 2
  · rw [if_pos c3] at H
    have c3b0 : (t101 == 2) = true := beq_iff_eq.mpr c3
    have c3b1 : (t101 != 2) = false := bne_eq_false_iff_eq.mpr c3
    clear c3
    obtain rfl := Option.some.inj H
    go_enter Tryd.func40, Tryd.ntmps40
    go_wp2_with (first | ((with_reducible refine gate_callee (f := 17) rfl ?_); refine goesL_ (some 5) rfl rfl Tryd.func17 (by kernel_rfl) rfl #[.int .i64 a0] rfl (by (try simp only [List.map_toArray, List.map_cons, List.map_nil]); first | done | rfl | (simp only [List.length_drop, List.length_take]; rfl)) ?_; (with_reducible refine (malthouseref01_Class.calls a0 t101 _ A2.out).mono ?_); rintro e w' ⟨rfl, ⟨nd, rfl⟩⟩; refine ⟨_, rfl, ?_⟩))
    go_ret
    exact ⟨by first | rfl | (simp; done) | (simp [*]; done), by repeat (first | exact Drawn0.refl _ | apply Drawn0.step)⟩
  · rw [if_neg c3] at H
    have c3b0 : (t101 == 2) = false := beq_eq_false_iff_ne.mpr c3
    have c3b1 : (t101 != 2) = true := bne_iff_ne.mpr c3
    obtain rfl := Option.some.inj H
    go_enter Tryd.func40, Tryd.ntmps40
    go_wp2_with (first | ((with_reducible refine gate_callee (f := 17) rfl ?_); refine goesL_ (some 5) rfl rfl Tryd.func17 (by kernel_rfl) rfl #[.int .i64 a0] rfl (by (try simp only [List.map_toArray, List.map_cons, List.map_nil]); first | done | rfl | (simp only [List.length_drop, List.length_take]; rfl)) ?_; (with_reducible refine (malthouseref01_Class.calls a0 t101 _ A2.out).mono ?_); rintro e w' ⟨rfl, ⟨nd, rfl⟩⟩; refine ⟨_, rfl, ?_⟩))
    go_ret
    exact ⟨by first | rfl | (simp; done) | (simp [*]; done), by repeat (first | exact Drawn0.refl _ | apply Drawn0.step)⟩
def malthouseref01_word.l0 : Nat → Int → ByteArray → List Int → List Int → Option (Int)
  | 0, _, _, _, _ => none
  | k + 1, x1, x103000, x103001, x103002 => if x1 < (x103001.length : Int) then (if 0 ≤ x1 then ((malthouseref01_wordy.f (rd x103001 x1)).bind fun t104 => (if t104 = true then (malthouseref01_word.l0 k (wrap64 (x1 + 1)) x103000 x103001 x103002) else (some x1))) else (none)) else (some x1)
def malthouseref01_word.f (k : Nat) (a0_0 : ByteArray) (l0_1 : List Int) (l0_2 : List Int) (a1 : Int) : Option (Int) := malthouseref01_word.l0 k a1 a0_0 l0_1 l0_2
set_option maxHeartbeats 8000000 in
set_option maxRecDepth 100000 in
theorem malthouseref01_word.calls (k : Nat) (a0_0 : ByteArray) (A0_1 : Option Addr) (c0_1 : Nat) (l0_1 : List Int) (A0_2 : Option Addr) (c0_2 : Nat) (l0_2 : List Int) (a1 : Int) (r : Int) (w : World) (hr0_1 : Kd.C (Kd.int .i64) w A0_1 l0_1.length l0_1) (hc0_1 : l0_1.length ≤ c0_1) (hr0_2 : Kd.C (Kd.int .i64) w A0_2 l0_2.length l0_2) (hc0_2 : l0_2.length ≤ c0_2) (h : malthouseref01_word.f k a0_0 l0_1 l0_2 a1 = some r) :
    Calls Tryd.prog 45 #[.agg #[.string a0_0, .slice A0_1 l0_1.length c0_1, .slice A0_2 l0_2.length c0_2], .int .i64 a1] w fun e w' => e = .returned (.int .i64 r) ∧ Below w.heap.size w w' := by
  have hu53 := Tryd.underlying53
  have HR0_1 := Aside0.mk hr0_1
  have HC0_1 := Aside0.mk hc0_1
  clear hr0_1 hc0_1
  have HR0_2 := Aside0.mk hr0_2
  have HC0_2 := Aside0.mk hc0_2
  clear hr0_2 hc0_2
  have HB := Aside0.mk (Below.refl w.heap.size w)
  have H : (malthouseref01_word.l0 k a1 a0_0 l0_1 l0_2) = some r := h
  clear h
  have H' := Aside0.mk H
  clear H
  go_enter Tryd.func45, Tryd.ntmps45
  go_wp2_with (first | ((with_reducible refine gate_dst (N := 2) rfl ?_); refine box_event ?hg (N := 2) ?hd (cs := #[.string a0_0, .slice A0_1 l0_1.length c0_1, .slice A0_2 l0_2.length c0_2]) (t := 53) ?hr ?_; (case hd => rfl); (case hg => rfl); (case hr => first | (go_simp; done) | (go_simp; rfl)); intro gb102 hg w3 hbox hb; have n0_ := Aside0.mk (below_step (by repeat (first | (with_reducible first | exact HB.out | apply below_alloc | apply pw_below_drewN | apply below_drew1) | exact HB.out)) hb); have n1_ := Aside0.mk (hbox); have n2_ := Aside0.mk ((by rw [hg]; exact (below_size (by repeat (first | (with_reducible first | exact HB.out | apply below_alloc | apply pw_below_drewN | apply below_drew1) | exact HB.out))) : w.heap.size ≤ gb102)); have n3_ := Aside0.mk ((by rw [hg]; exact (below_size (by repeat (first | (with_reducible first | exact HB.out | apply below_alloc | apply pw_below_drewN | apply below_drew1) | exact HB.out))) : w.heap.size ≤ gb102)); clear HB; have HB := n0_; have BK102 := n1_; have GW102 := n2_; have GE102 := n3_; clear n0_ n1_ n2_ n3_; clear hb hbox hg))
  go_loopg [1] k (fun kq v1 w' => ∃ (x1_1 : Int), v1 = .int .i64 x1_1 ∧ Aside0 (malthouseref01_word.l0 kq x1_1 a0_0 l0_1 l0_2 = some r) ∧ Aside0 (kq ≤ k) ∧ Aside0 (w'.heap[gb102]? = some (.cells #[.string a0_0, (.slice A0_1 l0_1.length c0_1), (.slice A0_2 l0_2.length c0_2)] 53 (0, 0))) ∧ Aside0 (Below w.heap.size w w'))
  case atStart => exact ⟨(a1), (by first | rfl | (simp; done) | (simp [*]; done)), H', ⟨Nat.le_refl _⟩, ⟨by (with_reducible repeat (first | refine blk_drewN ?_ _ | refine blk_drew ?_ | refine blk_alloc ?_ _)); exact BK102.out⟩, ⟨by repeat (first | (with_reducible first | exact HB.out | apply below_alloc | apply pw_below_drewN | apply below_drew1 | refine below_set ?_ GE102.out) | exact HB.out)⟩⟩
  case round =>
    clear H'
    try clear p2
    obtain ⟨x1_1, rfl, HA, HK1, BK102, HB⟩ := hrel
    cases gk with
    | zero => exact absurd HA.out (by simp [malthouseref01_word.l0])
    | succ k1 =>
      have H := HA.out
      clear HA
      simp only [malthouseref01_word.l0] at H
      by_cases c4 : x1_1 < (l0_1.length : Int)
      · rw [if_pos c4] at H
        have c4b0 : decide (x1_1 < (l0_1.length : Int)) = true := decide_eq_true c4
        clear c4
        by_cases c5 : 0 ≤ x1_1
        · rw [if_pos c5] at H
          have c5b0 : decide (0 ≤ x1_1) = true := decide_eq_true c5
          clear c5
          replace H := Option.bind_eq_some_iff.mp H
          obtain ⟨t104, A60, H⟩ := H
          replace H : (if t104 = true then (malthouseref01_word.l0 k1 (wrap64 (x1_1 + 1)) a0_0 l0_1 l0_2) else (some x1_1)) = some r := H
          have A6 := Aside0.mk A60
          clear A60
          by_cases c7 : t104 = true
          · subst c7
            have H1 : (malthouseref01_word.l0 k1 (wrap64 (x1_1 + 1)) a0_0 l0_1 l0_2) = some r := by rw [if_pos rfl] at H; exact H
            clear H
            have H := H1
            clear H1
            have H' := Aside0.mk H
            clear H
            have hcz8_0 : wr.cell? ⟨gb102, 0, none⟩ = some (.string a0_0) := (blk_cell BK102.out 0).trans rfl
            have hcz8_1 : wr.cell? ⟨gb102, 1, none⟩ = some (.slice A0_1 l0_1.length c0_1) := (blk_cell BK102.out 1).trans rfl
            have hcz8_2 : wr.cell? ⟨gb102, 2, none⟩ = some (.slice A0_2 l0_2.length c0_2) := (blk_cell BK102.out 2).trans rfl
            have hfz8_0 := blk_frozen BK102.out 0
            have hfz8_1 := blk_frozen BK102.out 1
            have hfz8_2 := blk_frozen BK102.out 2
            have p103 : 0 ≤ (x1_1 : Int) := of_decide_eq_true (by first | (with_reducible assumption) | assumption)
            have q103 : x1_1 < (l0_1.length : Int) := of_decide_eq_true (by first | (with_reducible assumption) | assumption)
            obtain ⟨ad103, e103, hx103_0⟩ := Kd.at_int HR0_1.out x1_1 p103 q103
            cases e103
            replace hx103_0 := (HB.out.cell (World.block_lt_of_cell? w _ hx103_0)).trans hx103_0
            replace p103 := eq_true p103
            replace q103 := eq_true q103
            go_wp2_with (first | ((with_reducible refine gate_callee (f := 40) rfl ?_); refine goesL_ (some 16) rfl rfl Tryd.func40 (by kernel_rfl) rfl #[.int .i64 (rd l0_1 x1_1)] rfl (by (try simp only [List.map_toArray, List.map_cons, List.map_nil]); first | done | rfl | (simp only [List.length_drop, List.length_take]; rfl)) ?_; (with_reducible refine (malthouseref01_wordy.calls (rd l0_1 x1_1) true _ A6.out).mono ?_); rintro e w' ⟨rfl, ⟨nd, rfl⟩⟩; refine ⟨_, rfl, ?_⟩))
            go_roundg k1
            case measure => have := HK1.out; omega
            case rel => exact ⟨(wrap64 (x1_1 + 1)), (by first | rfl | (simp; done) | (simp [*]; done)), H', ⟨by have := HK1.out; omega⟩, ⟨by (with_reducible repeat (first | refine blk_drewN ?_ _ | refine blk_drew ?_ | refine blk_alloc ?_ _)); exact BK102.out⟩, ⟨by repeat (first | (with_reducible first | exact HB.out | apply below_alloc | apply pw_below_drewN | apply below_drew1 | refine below_set ?_ GE102.out) | exact HB.out)⟩⟩
          · replace c7 := Bool.eq_false_iff.mpr c7
            subst c7
            have H1 : (some x1_1) = some r := by rw [if_neg (show ¬ (false = true) by decide)] at H; exact H
            clear H
            have H := H1
            clear H1
            obtain rfl := Option.some.inj H
            have hcz9_0 : wr.cell? ⟨gb102, 0, none⟩ = some (.string a0_0) := (blk_cell BK102.out 0).trans rfl
            have hcz9_1 : wr.cell? ⟨gb102, 1, none⟩ = some (.slice A0_1 l0_1.length c0_1) := (blk_cell BK102.out 1).trans rfl
            have hcz9_2 : wr.cell? ⟨gb102, 2, none⟩ = some (.slice A0_2 l0_2.length c0_2) := (blk_cell BK102.out 2).trans rfl
            have hfz9_0 := blk_frozen BK102.out 0
            have hfz9_1 := blk_frozen BK102.out 1
            have hfz9_2 := blk_frozen BK102.out 2
            have p103 : 0 ≤ (x1_1 : Int) := of_decide_eq_true (by first | (with_reducible assumption) | assumption)
            have q103 : x1_1 < (l0_1.length : Int) := of_decide_eq_true (by first | (with_reducible assumption) | assumption)
            obtain ⟨ad103, e103, hx103_0⟩ := Kd.at_int HR0_1.out x1_1 p103 q103
            cases e103
            replace hx103_0 := (HB.out.cell (World.block_lt_of_cell? w _ hx103_0)).trans hx103_0
            replace p103 := eq_true p103
            replace q103 := eq_true q103
            go_wp2_with (first | ((with_reducible refine gate_callee (f := 40) rfl ?_); refine goesL_ (some 16) rfl rfl Tryd.func40 (by kernel_rfl) rfl #[.int .i64 (rd l0_1 x1_1)] rfl (by (try simp only [List.map_toArray, List.map_cons, List.map_nil]); first | done | rfl | (simp only [List.length_drop, List.length_take]; rfl)) ?_; (with_reducible refine (malthouseref01_wordy.calls (rd l0_1 x1_1) false _ A6.out).mono ?_); rintro e w' ⟨rfl, ⟨nd, rfl⟩⟩; refine ⟨_, rfl, ?_⟩))
            go_ret
            exact ⟨by first | rfl | (simp [errW_none, errW_some] <;> rfl) | (simp [*, errW_none, errW_some] <;> rfl), by repeat (first | (with_reducible first | exact HB.out | apply below_alloc | apply pw_below_drewN | apply below_drew1 | refine below_set ?_ GE102.out) | exact HB.out)⟩
        · rw [if_neg c5] at H
          exact absurd H (by simp)
      · rw [if_neg c4] at H
        have c4b0 : decide (x1_1 < (l0_1.length : Int)) = false := decide_eq_false c4
        clear c4
        obtain rfl := Option.some.inj H
        have hcz10_0 : wr.cell? ⟨gb102, 0, none⟩ = some (.string a0_0) := (blk_cell BK102.out 0).trans rfl
        have hcz10_1 : wr.cell? ⟨gb102, 1, none⟩ = some (.slice A0_1 l0_1.length c0_1) := (blk_cell BK102.out 1).trans rfl
        have hcz10_2 : wr.cell? ⟨gb102, 2, none⟩ = some (.slice A0_2 l0_2.length c0_2) := (blk_cell BK102.out 2).trans rfl
        have hfz10_0 := blk_frozen BK102.out 0
        have hfz10_1 := blk_frozen BK102.out 1
        have hfz10_2 := blk_frozen BK102.out 2
        go_wp2
        go_ret
        exact ⟨by first | rfl | (simp [errW_none, errW_some] <;> rfl) | (simp [*, errW_none, errW_some] <;> rfl), by repeat (first | (with_reducible first | exact HB.out | apply below_alloc | apply pw_below_drewN | apply below_drew1 | refine below_set ?_ GE102.out) | exact HB.out)⟩
def malthouseref01_part.f (a0_0 : ByteArray) (l0_1 : List Int) (l0_2 : List Int) (a1 : Int) (a2 : Int) : Option (ByteArray) := if 0 ≤ a1 then (if a1 < (l0_2.length : Int) then (if 0 ≤ a2 then (if a2 < (l0_2.length : Int) then (if 0 ≤ (rd l0_2 a1) then (if (rd l0_2 a1) ≤ (rd l0_2 a2) then (if (rd l0_2 a2) ≤ (a0_0.size : Int) then (some (a0_0.extract ((rd l0_2 a1) : Int).toNat ((rd l0_2 a2) : Int).toNat)) else (none)) else (none)) else (none)) else (none)) else (none)) else (none)) else (none)
set_option maxHeartbeats 8000000 in
set_option maxRecDepth 100000 in
theorem malthouseref01_part.calls (a0_0 : ByteArray) (A0_1 : Option Addr) (c0_1 : Nat) (l0_1 : List Int) (A0_2 : Option Addr) (c0_2 : Nat) (l0_2 : List Int) (a1 : Int) (a2 : Int) (r : ByteArray) (w : World) (hr0_1 : Kd.C (Kd.int .i64) w A0_1 l0_1.length l0_1) (hc0_1 : l0_1.length ≤ c0_1) (hr0_2 : Kd.C (Kd.int .i64) w A0_2 l0_2.length l0_2) (hc0_2 : l0_2.length ≤ c0_2) (h : malthouseref01_part.f a0_0 l0_1 l0_2 a1 a2 = some r) :
    Calls Tryd.prog 46 #[.agg #[.string a0_0, .slice A0_1 l0_1.length c0_1, .slice A0_2 l0_2.length c0_2], .int .i64 a1, .int .i64 a2] w fun e w' => e = .returned (.string r) ∧ Below w.heap.size w w' := by
  have hu53 := Tryd.underlying53
  have HR0_1 := Aside0.mk hr0_1
  have HC0_1 := Aside0.mk hc0_1
  clear hr0_1 hc0_1
  have HR0_2 := Aside0.mk hr0_2
  have HC0_2 := Aside0.mk hc0_2
  clear hr0_2 hc0_2
  have HB := Aside0.mk (Below.refl w.heap.size w)
  have H : (if 0 ≤ a1 then (if a1 < (l0_2.length : Int) then (if 0 ≤ a2 then (if a2 < (l0_2.length : Int) then (if 0 ≤ (rd l0_2 a1) then (if (rd l0_2 a1) ≤ (rd l0_2 a2) then (if (rd l0_2 a2) ≤ (a0_0.size : Int) then (some (a0_0.extract ((rd l0_2 a1) : Int).toNat ((rd l0_2 a2) : Int).toNat)) else (none)) else (none)) else (none)) else (none)) else (none)) else (none)) else (none)) = some r := h
  clear h
  by_cases c4 : 0 ≤ a1
  · rw [if_pos c4] at H
    have c4b0 : decide (0 ≤ a1) = true := decide_eq_true c4
    clear c4
    by_cases c5 : a1 < (l0_2.length : Int)
    · rw [if_pos c5] at H
      have c5b0 : decide (a1 < (l0_2.length : Int)) = true := decide_eq_true c5
      clear c5
      by_cases c6 : 0 ≤ a2
      · rw [if_pos c6] at H
        have c6b0 : decide (0 ≤ a2) = true := decide_eq_true c6
        clear c6
        by_cases c7 : a2 < (l0_2.length : Int)
        · rw [if_pos c7] at H
          have c7b0 : decide (a2 < (l0_2.length : Int)) = true := decide_eq_true c7
          clear c7
          by_cases c8 : 0 ≤ (rd l0_2 a1)
          · rw [if_pos c8] at H
            have c8b0 := eq_true c8
            have c8b1 : decide (0 ≤ (rd l0_2 a1)) = true := decide_eq_true c8
            clear c8
            by_cases c9 : (rd l0_2 a1) ≤ (rd l0_2 a2)
            · rw [if_pos c9] at H
              have c9b0 := eq_true c9
              have c9b1 : decide ((rd l0_2 a1) ≤ (rd l0_2 a2)) = true := decide_eq_true c9
              clear c9
              by_cases c10 : (rd l0_2 a2) ≤ (a0_0.size : Int)
              · rw [if_pos c10] at H
                have c10b0 := eq_true c10
                have c10b1 : decide ((rd l0_2 a2) ≤ (a0_0.size : Int)) = true := decide_eq_true c10
                clear c10
                obtain rfl := Option.some.inj H
                go_enter Tryd.func46, Tryd.ntmps46
                go_wp2_with (first | ((with_reducible refine gate_dst (N := 3) rfl ?_); refine box_event ?hg (N := 3) ?hd (cs := #[.string a0_0, .slice A0_1 l0_1.length c0_1, .slice A0_2 l0_2.length c0_2]) (t := 53) ?hr ?_; (case hd => rfl); (case hg => rfl); (case hr => first | (go_simp; done) | (go_simp; rfl)); intro gb105 hg w11 hbox hb; have n0_ := Aside0.mk (below_step (by repeat (first | (with_reducible first | exact HB.out | apply below_alloc | apply pw_below_drewN | apply below_drew1) | exact HB.out)) hb); have n1_ := Aside0.mk (hbox); have n2_ := Aside0.mk ((by rw [hg]; exact (below_size (by repeat (first | (with_reducible first | exact HB.out | apply below_alloc | apply pw_below_drewN | apply below_drew1) | exact HB.out))) : w.heap.size ≤ gb105)); have n3_ := Aside0.mk ((by rw [hg]; exact (below_size (by repeat (first | (with_reducible first | exact HB.out | apply below_alloc | apply pw_below_drewN | apply below_drew1) | exact HB.out))) : w.heap.size ≤ gb105)); clear HB; have HB := n0_; have BK105 := n1_; have GW105 := n2_; have GE105 := n3_; clear n0_ n1_ n2_ n3_; clear hb hbox hg; have hcz12_0 : w11.cell? ⟨gb105, 0, none⟩ = some (.string a0_0) := (blk_cell BK105.out 0).trans rfl; have hcz12_1 : w11.cell? ⟨gb105, 1, none⟩ = some (.slice A0_1 l0_1.length c0_1) := (blk_cell BK105.out 1).trans rfl; have hcz12_2 : w11.cell? ⟨gb105, 2, none⟩ = some (.slice A0_2 l0_2.length c0_2) := (blk_cell BK105.out 2).trans rfl; have hfz12_0 := blk_frozen BK105.out 0; have hfz12_1 := blk_frozen BK105.out 1; have hfz12_2 := blk_frozen BK105.out 2; have p106 : 0 ≤ (a1 : Int) := of_decide_eq_true (by first | (with_reducible assumption) | assumption); have q106 : a1 < (l0_2.length : Int) := of_decide_eq_true (by first | (with_reducible assumption) | assumption); obtain ⟨ad106, e106, hx106_0⟩ := Kd.at_int HR0_2.out a1 p106 q106; cases e106; replace hx106_0 := (HB.out.cell (World.block_lt_of_cell? w _ hx106_0)).trans hx106_0; replace p106 := eq_true p106; replace q106 := eq_true q106; have p107 : 0 ≤ (a2 : Int) := of_decide_eq_true (by first | (with_reducible assumption) | assumption); have q107 : a2 < (l0_2.length : Int) := of_decide_eq_true (by first | (with_reducible assumption) | assumption); obtain ⟨ad107, e107, hx107_0⟩ := Kd.at_int HR0_2.out a2 p107 q107; obtain rfl : ad106 = ad107 := (by injection e107); replace hx107_0 := (HB.out.cell (World.block_lt_of_cell? w _ hx107_0)).trans hx107_0; replace p107 := eq_true p107; replace q107 := eq_true q107))
                repeat (go_quiet (first | ((with_reducible refine gate_dst (N := 3) rfl ?_); refine box_event ?hg (N := 3) ?hd (cs := #[.string a0_0, .slice A0_1 l0_1.length c0_1, .slice A0_2 l0_2.length c0_2]) (t := 53) ?hr ?_; (case hd => rfl); (case hg => rfl); (case hr => first | (go_simp; done) | (go_simp; rfl)); intro gb105 hg w11 hbox hb; have n0_ := Aside0.mk (below_step (by repeat (first | (with_reducible first | exact HB.out | apply below_alloc | apply pw_below_drewN | apply below_drew1) | exact HB.out)) hb); have n1_ := Aside0.mk (hbox); have n2_ := Aside0.mk ((by rw [hg]; exact (below_size (by repeat (first | (with_reducible first | exact HB.out | apply below_alloc | apply pw_below_drewN | apply below_drew1) | exact HB.out))) : w.heap.size ≤ gb105)); have n3_ := Aside0.mk ((by rw [hg]; exact (below_size (by repeat (first | (with_reducible first | exact HB.out | apply below_alloc | apply pw_below_drewN | apply below_drew1) | exact HB.out))) : w.heap.size ≤ gb105)); clear HB; have HB := n0_; have BK105 := n1_; have GW105 := n2_; have GE105 := n3_; clear n0_ n1_ n2_ n3_; clear hb hbox hg; have hcz12_0 : w11.cell? ⟨gb105, 0, none⟩ = some (.string a0_0) := (blk_cell BK105.out 0).trans rfl; have hcz12_1 : w11.cell? ⟨gb105, 1, none⟩ = some (.slice A0_1 l0_1.length c0_1) := (blk_cell BK105.out 1).trans rfl; have hcz12_2 : w11.cell? ⟨gb105, 2, none⟩ = some (.slice A0_2 l0_2.length c0_2) := (blk_cell BK105.out 2).trans rfl; have hfz12_0 := blk_frozen BK105.out 0; have hfz12_1 := blk_frozen BK105.out 1; have hfz12_2 := blk_frozen BK105.out 2; have p106 : 0 ≤ (a1 : Int) := of_decide_eq_true (by first | (with_reducible assumption) | assumption); have q106 : a1 < (l0_2.length : Int) := of_decide_eq_true (by first | (with_reducible assumption) | assumption); obtain ⟨ad106, e106, hx106_0⟩ := Kd.at_int HR0_2.out a1 p106 q106; cases e106; replace hx106_0 := (HB.out.cell (World.block_lt_of_cell? w _ hx106_0)).trans hx106_0; replace p106 := eq_true p106; replace q106 := eq_true q106; have p107 : 0 ≤ (a2 : Int) := of_decide_eq_true (by first | (with_reducible assumption) | assumption); have q107 : a2 < (l0_2.length : Int) := of_decide_eq_true (by first | (with_reducible assumption) | assumption); obtain ⟨ad107, e107, hx107_0⟩ := Kd.at_int HR0_2.out a2 p107 q107; obtain rfl : ad106 = ad107 := (by injection e107); replace hx107_0 := (HB.out.cell (World.block_lt_of_cell? w _ hx107_0)).trans hx107_0; replace p107 := eq_true p107; replace q107 := eq_true q107)); try go_wp2_with (first | ((with_reducible refine gate_dst (N := 3) rfl ?_); refine box_event ?hg (N := 3) ?hd (cs := #[.string a0_0, .slice A0_1 l0_1.length c0_1, .slice A0_2 l0_2.length c0_2]) (t := 53) ?hr ?_; (case hd => rfl); (case hg => rfl); (case hr => first | (go_simp; done) | (go_simp; rfl)); intro gb105 hg w11 hbox hb; have n0_ := Aside0.mk (below_step (by repeat (first | (with_reducible first | exact HB.out | apply below_alloc | apply pw_below_drewN | apply below_drew1) | exact HB.out)) hb); have n1_ := Aside0.mk (hbox); have n2_ := Aside0.mk ((by rw [hg]; exact (below_size (by repeat (first | (with_reducible first | exact HB.out | apply below_alloc | apply pw_below_drewN | apply below_drew1) | exact HB.out))) : w.heap.size ≤ gb105)); have n3_ := Aside0.mk ((by rw [hg]; exact (below_size (by repeat (first | (with_reducible first | exact HB.out | apply below_alloc | apply pw_below_drewN | apply below_drew1) | exact HB.out))) : w.heap.size ≤ gb105)); clear HB; have HB := n0_; have BK105 := n1_; have GW105 := n2_; have GE105 := n3_; clear n0_ n1_ n2_ n3_; clear hb hbox hg; have hcz12_0 : w11.cell? ⟨gb105, 0, none⟩ = some (.string a0_0) := (blk_cell BK105.out 0).trans rfl; have hcz12_1 : w11.cell? ⟨gb105, 1, none⟩ = some (.slice A0_1 l0_1.length c0_1) := (blk_cell BK105.out 1).trans rfl; have hcz12_2 : w11.cell? ⟨gb105, 2, none⟩ = some (.slice A0_2 l0_2.length c0_2) := (blk_cell BK105.out 2).trans rfl; have hfz12_0 := blk_frozen BK105.out 0; have hfz12_1 := blk_frozen BK105.out 1; have hfz12_2 := blk_frozen BK105.out 2; have p106 : 0 ≤ (a1 : Int) := of_decide_eq_true (by first | (with_reducible assumption) | assumption); have q106 : a1 < (l0_2.length : Int) := of_decide_eq_true (by first | (with_reducible assumption) | assumption); obtain ⟨ad106, e106, hx106_0⟩ := Kd.at_int HR0_2.out a1 p106 q106; cases e106; replace hx106_0 := (HB.out.cell (World.block_lt_of_cell? w _ hx106_0)).trans hx106_0; replace p106 := eq_true p106; replace q106 := eq_true q106; have p107 : 0 ≤ (a2 : Int) := of_decide_eq_true (by first | (with_reducible assumption) | assumption); have q107 : a2 < (l0_2.length : Int) := of_decide_eq_true (by first | (with_reducible assumption) | assumption); obtain ⟨ad107, e107, hx107_0⟩ := Kd.at_int HR0_2.out a2 p107 q107; obtain rfl : ad106 = ad107 := (by injection e107); replace hx107_0 := (HB.out.cell (World.block_lt_of_cell? w _ hx107_0)).trans hx107_0; replace p107 := eq_true p107; replace q107 := eq_true q107)))
                go_ret
                exact ⟨by first | rfl | (simp [errW_none, errW_some] <;> rfl) | (simp [*, errW_none, errW_some] <;> rfl), by repeat (first | (with_reducible first | exact HB.out | apply below_alloc | apply pw_below_drewN | apply below_drew1 | refine below_set ?_ GE105.out) | exact HB.out)⟩
              · rw [if_neg c10] at H
                exact absurd H (by simp)
            · rw [if_neg c9] at H
              exact absurd H (by simp)
          · rw [if_neg c8] at H
            exact absurd H (by simp)
        · rw [if_neg c7] at H
          exact absurd H (by simp)
      · rw [if_neg c6] at H
        exact absurd H (by simp)
    · rw [if_neg c5] at H
      exact absurd H (by simp)
  · rw [if_neg c4] at H
    exact absurd H (by simp)
end Go.Proofs.YtlikjknakplamaaDoor.Print
/-! ### Print3 -/
namespace Go.Proofs.YtlikjknakplamaaDoor.Print
open Go.RowKit Go.Proofs.YtlikjknakplamaaDoorW.PrintWords Go.Proofs.YtlikjknakplamaaDoorW.PrintLast Go.Proofs.YtlikjknakplamaaDoorW.PrintMore
set_option linter.unusedVariables false
set_option linter.unusedSimpArgs false
mutual
def malthouseref01_quoted.j1 : Nat → Int → Int → ByteArray → List Int → List Int → Option (Int × ByteArray × Int × Int × Int × Int)
  | 0, _, _, _, _, _ => none
  | k + 1, x1, x7, x109000, x109001, x109002 => if x7 = (x109001.length : Int) then (malthouseref01_quoted.j2 k x1 x7 true x109000 x109001 x109002) else (if 0 ≤ x7 then (if x7 < (x109001.length : Int) then (malthouseref01_quoted.j2 k x1 x7 ((rd x109001 x7) == 10) x109000 x109001 x109002) else (none)) else (none))
def malthouseref01_quoted.j2 : Nat → Int → Int → Bool → ByteArray → List Int → List Int → Option (Int × ByteArray × Int × Int × Int × Int)
  | 0, _, _, _, _, _, _ => none
  | k + 1, x1, x7, x46, x109000, x109001, x109002 => if x46 = true then (some (0, (⟨#[]⟩ : ByteArray), 0, 0, 0, 11)) else (malthouseref01_quoted.l1 k x1 x7 (wrap64 (x1 + 1)) x109000 x109001 x109002)
def malthouseref01_quoted.l1 : Nat → Int → Int → Int → ByteArray → List Int → List Int → Option (Int × ByteArray × Int × Int × Int × Int)
  | 0, _, _, _, _, _, _ => none
  | k + 1, x1, x7, x8, x109000, x109001, x109002 => if x8 < x7 then (if 0 ≤ x8 then (if x8 < (x109001.length : Int) then (if (rd x109001 x8) < 32 then (some (0, (⟨#[]⟩ : ByteArray), 0, 0, 0, 11)) else (malthouseref01_quoted.l1 k x1 x7 (wrap64 (x8 + 1)) x109000 x109001 x109002)) else (none)) else (none)) else (if (wrap64 ((wrap64 (x7 - x1)) - 1)) > 20 then (some (0, (⟨#[]⟩ : ByteArray), 0, 0, 0, 2)) else ((malthouseref01_part.f x109000 x109001 x109002 (wrap64 (x1 + 1)) x7).bind fun t114 => (some (3, t114, 0, x1, wrap64 (x7 + 1), 0))))
def malthouseref01_quoted.l0 : Nat → Int → Int → ByteArray → List Int → List Int → Option (Int × ByteArray × Int × Int × Int × Int)
  | 0, _, _, _, _, _ => none
  | k + 1, x1, x7, x109000, x109001, x109002 => if x7 < (x109001.length : Int) then (if 0 ≤ x7 then (if (rd x109001 x7) = 34 then (malthouseref01_quoted.j1 k x1 x7 x109000 x109001 x109002) else (if (rd x109001 x7) = 10 then (malthouseref01_quoted.j1 k x1 x7 x109000 x109001 x109002) else (malthouseref01_quoted.l0 k x1 (wrap64 (x7 + 1)) x109000 x109001 x109002))) else (none)) else (malthouseref01_quoted.j1 k x1 x7 x109000 x109001 x109002)
end
def malthouseref01_quoted.f (k : Nat) (a0_0 : ByteArray) (l0_1 : List Int) (l0_2 : List Int) (a1 : Int) : Option (Int × ByteArray × Int × Int × Int × Int) := malthouseref01_quoted.l0 k a1 (wrap64 (a1 + 1)) a0_0 l0_1 l0_2
set_option maxHeartbeats 8000000 in
set_option maxRecDepth 100000 in
theorem malthouseref01_quoted.calls (k : Nat) (a0_0 : ByteArray) (A0_1 : Option Addr) (c0_1 : Nat) (l0_1 : List Int) (A0_2 : Option Addr) (c0_2 : Nat) (l0_2 : List Int) (a1 : Int) (r1 : Int) (r2 : ByteArray) (r3 : Int) (r4 : Int) (r5 : Int) (r6 : Int) (w : World) (hr0_1 : Kd.C (Kd.int .i64) w A0_1 l0_1.length l0_1) (hc0_1 : l0_1.length ≤ c0_1) (hr0_2 : Kd.C (Kd.int .i64) w A0_2 l0_2.length l0_2) (hc0_2 : l0_2.length ≤ c0_2) (h : malthouseref01_quoted.f k a0_0 l0_1 l0_2 a1 = some (r1, r2, r3, r4, r5, r6)) :
    Calls Tryd.prog 47 #[.agg #[.string a0_0, .slice A0_1 l0_1.length c0_1, .slice A0_2 l0_2.length c0_2], .int .i64 a1] w fun e w' => e = .returned (.tuple #[.agg #[.int .i64 r1, .string r2, .int .i64 r3, .int .i64 r4], .int .i64 r5, .int .i64 r6]) ∧ Below w.heap.size w w' := by
  have hu53 := Tryd.underlying53
  have hu38 := Tryd.underlying38
  have HR0_1 := Aside0.mk hr0_1
  have HC0_1 := Aside0.mk hc0_1
  clear hr0_1 hc0_1
  have HR0_2 := Aside0.mk hr0_2
  have HC0_2 := Aside0.mk hc0_2
  clear hr0_2 hc0_2
  have HB := Aside0.mk (Below.refl w.heap.size w)
  have H : (malthouseref01_quoted.l0 k a1 (wrap64 (a1 + 1)) a0_0 l0_1 l0_2) = some (r1, r2, r3, r4, r5, r6) := h
  clear h
  have HC3 := Aside0.mk H
  clear H
  go_enter Tryd.func47, Tryd.ntmps47
  go_upto_block 0 with (first | ((with_reducible refine gate_dst (N := 2) rfl ?_); refine box_event ?hg (N := 2) ?hd (cs := #[.string a0_0, .slice A0_1 l0_1.length c0_1, .slice A0_2 l0_2.length c0_2]) (t := 53) ?hr ?_; (case hd => rfl); (case hg => rfl); (case hr => first | (go_simp; done) | (go_simp; rfl)); intro gb108 hg w4 hbox hb; have n0_ := Aside0.mk (below_step (by repeat (first | (with_reducible first | exact HB.out | apply below_alloc | apply pw_below_drewN | apply below_drew1) | exact HB.out)) hb); have n1_ := Aside0.mk (hbox); have n2_ := Aside0.mk ((by rw [hg]; exact (below_size (by repeat (first | (with_reducible first | exact HB.out | apply below_alloc | apply pw_below_drewN | apply below_drew1) | exact HB.out))) : w.heap.size ≤ gb108)); have n3_ := Aside0.mk ((by rw [hg]; exact (below_size (by repeat (first | (with_reducible first | exact HB.out | apply below_alloc | apply pw_below_drewN | apply below_drew1) | exact HB.out))) : w.heap.size ≤ gb108)); clear HB; have HB := n0_; have BK108 := n1_; have GW108 := n2_; have GE108 := n3_; clear n0_ n1_ n2_ n3_; clear hb hbox hg) | ((with_reducible refine gate_dst (N := 4) rfl ?_); refine box_event ?hg (N := 4) ?hd (cs := #[.int .i64 0, .string (⟨#[]⟩ : ByteArray), .int .i64 0, .int .i64 0]) (t := 38) ?hr ?_; (case hd => rfl); (case hg => rfl); (case hr => first | (go_simp; done) | (go_simp; rfl)); intro gb109 hg w5 hbox hb; have n0_ := Aside0.mk (blk_below (g := gb108) (o := .cells #[.string a0_0, .slice A0_1 l0_1.length c0_1, .slice A0_2 l0_2.length c0_2] 53 (0, 0)) (by (with_reducible repeat (first | refine blk_drewN ?_ _ | refine blk_drew ?_ | refine blk_alloc ?_ _)); exact BK108.out) hb); have n1_ := Aside0.mk (below_step (by repeat (first | (with_reducible first | exact HB.out | apply below_alloc | apply pw_below_drewN | apply below_drew1 | refine below_set ?_ GE108.out) | exact HB.out)) hb); have n2_ := Aside0.mk (hbox); have n3_ := Aside0.mk ((by rw [hg]; exact (below_size (by repeat (first | (with_reducible first | exact HB.out | apply below_alloc | apply pw_below_drewN | apply below_drew1 | refine below_set ?_ GE108.out) | exact HB.out))) : w.heap.size ≤ gb109)); have n4_ := Aside0.mk ((by rw [hg]; exact (below_size (by repeat (first | (with_reducible first | exact HB.out | apply below_alloc | apply pw_below_drewN | apply below_drew1 | refine below_set ?_ GE108.out) | exact HB.out))) : w.heap.size ≤ gb109)); have n5_ := Aside0.mk ((by rw [hg]; exact Nat.ne_of_lt (blk_lt (g := gb108) (o := .cells #[.string a0_0, .slice A0_1 l0_1.length c0_1, .slice A0_2 l0_2.length c0_2] 53 (0, 0)) (by (with_reducible repeat (first | refine blk_drewN ?_ _ | refine blk_drew ?_ | refine blk_alloc ?_ _)); exact BK108.out)) : gb108 ≠ gb109)); have n6_ := Aside0.mk ((by rw [hg]; exact Nat.ne_of_gt (blk_lt (g := gb108) (o := .cells #[.string a0_0, .slice A0_1 l0_1.length c0_1, .slice A0_2 l0_2.length c0_2] 53 (0, 0)) (by (with_reducible repeat (first | refine blk_drewN ?_ _ | refine blk_drew ?_ | refine blk_alloc ?_ _)); exact BK108.out)) : gb109 ≠ gb108)); clear BK108; clear HB; have BK108 := n0_; have HB := n1_; have BK109 := n2_; have GW109 := n3_; have GE109 := n4_; have NB108_109 := n5_; have NB109_108 := n6_; clear n0_ n1_ n2_ n3_ n4_ n5_ n6_; clear hb hbox hg))
  (try simp only [Act.put, List.setIfInBounds_toArray, List.set_cons_zero, List.set_cons_succ])
  go_cut [7] (fun v7 wc => ∃ (kq : Nat) (x7_2 : Int), v7 = .int .i64 x7_2 ∧ Aside0 (malthouseref01_quoted.j1 kq a1 x7_2 a0_0 l0_1 l0_2 = some (r1, r2, r3, r4, r5, r6)) ∧ Aside0 (kq ≤ k) ∧ Aside0 (wc.heap[gb108]? = some (.cells #[.string a0_0, (.slice A0_1 l0_1.length c0_1), (.slice A0_2 l0_2.length c0_2)] 53 (0, 0))) ∧ Aside0 (wc.heap[gb109]? = some (.cells #[.int .i64 0, .string (⟨#[]⟩ : ByteArray), .int .i64 0, .int .i64 0] 38 (0, 0))) ∧ Aside0 (Below w.heap.size w wc))
  case first =>
    have H := HC3.out
    clear HC3
    have H' := Aside0.mk H
    clear H
    go_wp2
    go_loopg [7] k (fun kq v7 w' => ∃ (x7_1 : Int), v7 = .int .i64 x7_1 ∧ Aside0 (malthouseref01_quoted.l0 kq a1 x7_1 a0_0 l0_1 l0_2 = some (r1, r2, r3, r4, r5, r6)) ∧ Aside0 (kq ≤ k) ∧ Aside0 (w'.heap[gb108]? = some (.cells #[.string a0_0, (.slice A0_1 l0_1.length c0_1), (.slice A0_2 l0_2.length c0_2)] 53 (0, 0))) ∧ Aside0 (w'.heap[gb109]? = some (.cells #[.int .i64 0, .string (⟨#[]⟩ : ByteArray), .int .i64 0, .int .i64 0] 38 (0, 0))) ∧ Aside0 (Below w.heap.size w w'))
    case atStart => exact ⟨(wrap64 (a1 + 1)), (by first | rfl | (simp; done) | (simp [*]; done)), H', ⟨Nat.le_refl _⟩, ⟨by (with_reducible repeat (first | refine blk_drewN ?_ _ | refine blk_drew ?_ | refine blk_alloc ?_ _)); exact BK108.out⟩, ⟨by (with_reducible repeat (first | refine blk_drewN ?_ _ | refine blk_drew ?_ | refine blk_alloc ?_ _)); exact BK109.out⟩, ⟨by repeat (first | (with_reducible first | exact HB.out | apply below_alloc | apply pw_below_drewN | apply below_drew1 | refine below_set ?_ GE108.out | refine below_set ?_ GE109.out) | exact HB.out)⟩⟩
    case round =>
      clear H'
      try clear p2
      try clear c4
      obtain ⟨x7_1, rfl, HA, HK1, BK108, BK109, HB⟩ := hrel
      cases gk with
      | zero => exact absurd HA.out (by simp [malthouseref01_quoted.l0])
      | succ k1 =>
        have H := HA.out
        clear HA
        simp only [malthouseref01_quoted.l0] at H
        by_cases c6 : x7_1 < (l0_1.length : Int)
        · rw [if_pos c6] at H
          have c6b0 : decide (x7_1 < (l0_1.length : Int)) = true := decide_eq_true c6
          clear c6
          (first | rw [c6b0] | (simp only [i64_w, i32_w]; rw [c6b0]) | skip)
          by_cases c7 : 0 ≤ x7_1
          · rw [if_pos c7] at H
            have c7b0 : decide (0 ≤ x7_1) = true := decide_eq_true c7
            clear c7
            by_cases c8 : (rd l0_1 x7_1) = 34
            · rw [if_pos c8] at H
              have c8b0 : ((rd l0_1 x7_1) == 34) = true := beq_iff_eq.mpr c8
              have c8b1 : ((rd l0_1 x7_1) != 34) = false := bne_eq_false_iff_eq.mpr c8
              clear c8
              have H' := Aside0.mk H
              clear H
              have hnb9 := NB108_109.out
              have hnc9 := NB109_108.out
              have hcz10_0 : wr.cell? ⟨gb108, 0, none⟩ = some (.string a0_0) := (blk_cell BK108.out 0).trans rfl
              have hcz10_1 : wr.cell? ⟨gb108, 1, none⟩ = some (.slice A0_1 l0_1.length c0_1) := (blk_cell BK108.out 1).trans rfl
              have hcz10_2 : wr.cell? ⟨gb108, 2, none⟩ = some (.slice A0_2 l0_2.length c0_2) := (blk_cell BK108.out 2).trans rfl
              have hfz10_0 := blk_frozen BK108.out 0
              have hfz10_1 := blk_frozen BK108.out 1
              have hfz10_2 := blk_frozen BK108.out 2
              have p110 : 0 ≤ (x7_1 : Int) := of_decide_eq_true (by first | (with_reducible assumption) | assumption)
              have q110 : x7_1 < (l0_1.length : Int) := of_decide_eq_true (by first | (with_reducible assumption) | assumption)
              obtain ⟨ad110, e110, hx110_0⟩ := Kd.at_int HR0_1.out x7_1 p110 q110
              cases e110
              replace hx110_0 := (HB.out.cell (World.block_lt_of_cell? w _ hx110_0)).trans hx110_0
              replace p110 := eq_true p110
              replace q110 := eq_true q110
              go_wp2
              go_meet
              case rel => exact ⟨_, (x7_1), (by first | rfl | (simp; done) | (simp [*]; done)), H', ⟨by have := HK1.out; first | omega | exact Nat.le_refl _⟩, ⟨by (with_reducible repeat (first | refine blk_drewN ?_ _ | refine blk_drew ?_ | refine blk_alloc ?_ _)); exact BK108.out⟩, ⟨by (with_reducible repeat (first | refine blk_drewN ?_ _ | refine blk_drew ?_ | refine blk_alloc ?_ _)); exact BK109.out⟩, ⟨by repeat (first | (with_reducible first | exact HB.out | apply below_alloc | apply pw_below_drewN | apply below_drew1 | refine below_set ?_ GE108.out | refine below_set ?_ GE109.out) | exact HB.out)⟩⟩
            · rw [if_neg c8] at H
              have c8b0 : ((rd l0_1 x7_1) == 34) = false := beq_eq_false_iff_ne.mpr c8
              have c8b1 : ((rd l0_1 x7_1) != 34) = true := bne_iff_ne.mpr c8
              by_cases c11 : (rd l0_1 x7_1) = 10
              · rw [if_pos c11] at H
                have c11b0 : ((rd l0_1 x7_1) == 10) = true := beq_iff_eq.mpr c11
                have c11b1 : ((rd l0_1 x7_1) != 10) = false := bne_eq_false_iff_eq.mpr c11
                clear c11
                have H' := Aside0.mk H
                clear H
                have hnb12 := NB108_109.out
                have hnc12 := NB109_108.out
                have hcz13_0 : wr.cell? ⟨gb108, 0, none⟩ = some (.string a0_0) := (blk_cell BK108.out 0).trans rfl
                have hcz13_1 : wr.cell? ⟨gb108, 1, none⟩ = some (.slice A0_1 l0_1.length c0_1) := (blk_cell BK108.out 1).trans rfl
                have hcz13_2 : wr.cell? ⟨gb108, 2, none⟩ = some (.slice A0_2 l0_2.length c0_2) := (blk_cell BK108.out 2).trans rfl
                have hfz13_0 := blk_frozen BK108.out 0
                have hfz13_1 := blk_frozen BK108.out 1
                have hfz13_2 := blk_frozen BK108.out 2
                have p110 : 0 ≤ (x7_1 : Int) := of_decide_eq_true (by first | (with_reducible assumption) | assumption)
                have q110 : x7_1 < (l0_1.length : Int) := of_decide_eq_true (by first | (with_reducible assumption) | assumption)
                obtain ⟨ad110, e110, hx110_0⟩ := Kd.at_int HR0_1.out x7_1 p110 q110
                cases e110
                replace hx110_0 := (HB.out.cell (World.block_lt_of_cell? w _ hx110_0)).trans hx110_0
                replace p110 := eq_true p110
                replace q110 := eq_true q110
                have p111 : 0 ≤ (x7_1 : Int) := of_decide_eq_true (by first | (with_reducible assumption) | assumption)
                have q111 : x7_1 < (l0_1.length : Int) := of_decide_eq_true (by first | (with_reducible assumption) | assumption)
                obtain ⟨ad111, e111, hx111_0⟩ := Kd.at_int HR0_1.out x7_1 p111 q111
                obtain rfl : ad110 = ad111 := (by injection e111)
                replace hx111_0 := (HB.out.cell (World.block_lt_of_cell? w _ hx111_0)).trans hx111_0
                replace p111 := eq_true p111
                replace q111 := eq_true q111
                go_wp2
                go_meet
                case rel => exact ⟨_, (x7_1), (by first | rfl | (simp; done) | (simp [*]; done)), H', ⟨by have := HK1.out; first | omega | exact Nat.le_refl _⟩, ⟨by (with_reducible repeat (first | refine blk_drewN ?_ _ | refine blk_drew ?_ | refine blk_alloc ?_ _)); exact BK108.out⟩, ⟨by (with_reducible repeat (first | refine blk_drewN ?_ _ | refine blk_drew ?_ | refine blk_alloc ?_ _)); exact BK109.out⟩, ⟨by repeat (first | (with_reducible first | exact HB.out | apply below_alloc | apply pw_below_drewN | apply below_drew1 | refine below_set ?_ GE108.out | refine below_set ?_ GE109.out) | exact HB.out)⟩⟩
              · rw [if_neg c11] at H
                have c11b0 : ((rd l0_1 x7_1) == 10) = false := beq_eq_false_iff_ne.mpr c11
                have c11b1 : ((rd l0_1 x7_1) != 10) = true := bne_iff_ne.mpr c11
                have H' := Aside0.mk H
                clear H
                have hnb14 := NB108_109.out
                have hnc14 := NB109_108.out
                have hcz15_0 : wr.cell? ⟨gb108, 0, none⟩ = some (.string a0_0) := (blk_cell BK108.out 0).trans rfl
                have hcz15_1 : wr.cell? ⟨gb108, 1, none⟩ = some (.slice A0_1 l0_1.length c0_1) := (blk_cell BK108.out 1).trans rfl
                have hcz15_2 : wr.cell? ⟨gb108, 2, none⟩ = some (.slice A0_2 l0_2.length c0_2) := (blk_cell BK108.out 2).trans rfl
                have hfz15_0 := blk_frozen BK108.out 0
                have hfz15_1 := blk_frozen BK108.out 1
                have hfz15_2 := blk_frozen BK108.out 2
                have p110 : 0 ≤ (x7_1 : Int) := of_decide_eq_true (by first | (with_reducible assumption) | assumption)
                have q110 : x7_1 < (l0_1.length : Int) := of_decide_eq_true (by first | (with_reducible assumption) | assumption)
                obtain ⟨ad110, e110, hx110_0⟩ := Kd.at_int HR0_1.out x7_1 p110 q110
                cases e110
                replace hx110_0 := (HB.out.cell (World.block_lt_of_cell? w _ hx110_0)).trans hx110_0
                replace p110 := eq_true p110
                replace q110 := eq_true q110
                have p111 : 0 ≤ (x7_1 : Int) := of_decide_eq_true (by first | (with_reducible assumption) | assumption)
                have q111 : x7_1 < (l0_1.length : Int) := of_decide_eq_true (by first | (with_reducible assumption) | assumption)
                obtain ⟨ad111, e111, hx111_0⟩ := Kd.at_int HR0_1.out x7_1 p111 q111
                obtain rfl : ad110 = ad111 := (by injection e111)
                replace hx111_0 := (HB.out.cell (World.block_lt_of_cell? w _ hx111_0)).trans hx111_0
                replace p111 := eq_true p111
                replace q111 := eq_true q111
                go_wp2
                go_roundg k1
                case measure => have := HK1.out; omega
                case rel => exact ⟨(wrap64 (x7_1 + 1)), (by first | rfl | (simp; done) | (simp [*]; done)), H', ⟨by have := HK1.out; omega⟩, ⟨by (with_reducible repeat (first | refine blk_drewN ?_ _ | refine blk_drew ?_ | refine blk_alloc ?_ _)); exact BK108.out⟩, ⟨by (with_reducible repeat (first | refine blk_drewN ?_ _ | refine blk_drew ?_ | refine blk_alloc ?_ _)); exact BK109.out⟩, ⟨by repeat (first | (with_reducible first | exact HB.out | apply below_alloc | apply pw_below_drewN | apply below_drew1 | refine below_set ?_ GE108.out | refine below_set ?_ GE109.out) | exact HB.out)⟩⟩
          · rw [if_neg c7] at H
            exact absurd H (by simp)
        · rw [if_neg c6] at H
          have c6b0 : decide (x7_1 < (l0_1.length : Int)) = false := decide_eq_false c6
          clear c6
          (first | rw [c6b0] | (simp only [i64_w, i32_w]; rw [c6b0]) | skip)
          have H' := Aside0.mk H
          clear H
          have hnb16 := NB108_109.out
          have hnc16 := NB109_108.out
          have hcz17_0 : wr.cell? ⟨gb108, 0, none⟩ = some (.string a0_0) := (blk_cell BK108.out 0).trans rfl
          have hcz17_1 : wr.cell? ⟨gb108, 1, none⟩ = some (.slice A0_1 l0_1.length c0_1) := (blk_cell BK108.out 1).trans rfl
          have hcz17_2 : wr.cell? ⟨gb108, 2, none⟩ = some (.slice A0_2 l0_2.length c0_2) := (blk_cell BK108.out 2).trans rfl
          have hfz17_0 := blk_frozen BK108.out 0
          have hfz17_1 := blk_frozen BK108.out 1
          have hfz17_2 := blk_frozen BK108.out 2
          go_wp2
          go_meet
          case rel => exact ⟨_, (x7_1), (by first | rfl | (simp; done) | (simp [*]; done)), H', ⟨by have := HK1.out; first | omega | exact Nat.le_refl _⟩, ⟨by (with_reducible repeat (first | refine blk_drewN ?_ _ | refine blk_drew ?_ | refine blk_alloc ?_ _)); exact BK108.out⟩, ⟨by (with_reducible repeat (first | refine blk_drewN ?_ _ | refine blk_drew ?_ | refine blk_alloc ?_ _)); exact BK109.out⟩, ⟨by repeat (first | (with_reducible first | exact HB.out | apply below_alloc | apply pw_below_drewN | apply below_drew1 | refine below_set ?_ GE108.out | refine below_set ?_ GE109.out) | exact HB.out)⟩⟩
  case rest =>
    clear HC3
    try clear c1
    try clear p1
    try clear q1
    try clear hx1
    try clear p2
    try clear c4
    try clear c6
    try clear c6b0
    try clear p6
    try clear c7
    try clear c7b0
    try clear c8
    try clear c8b0
    try clear c8b1
    try clear c9
    try clear c11
    try clear c11b0
    try clear c11b1
    try clear p11
    try clear q11
    try clear hx11
    try clear c12
    try clear c14
    try clear c16
    try clear hcz10_0
    try clear hcz10_1
    try clear hcz10_2
    try clear hcz13_0
    try clear hcz13_1
    try clear hcz13_2
    try clear hcz15_0
    try clear hcz15_1
    try clear hcz15_2
    try clear hcz17_0
    try clear hcz17_1
    try clear hcz17_2
    try clear hfz10_0
    try clear hfz10_1
    try clear hfz10_2
    try clear hfz13_0
    try clear hfz13_1
    try clear hfz13_2
    try clear hfz15_0
    try clear hfz15_1
    try clear hfz15_2
    try clear hfz17_0
    try clear hfz17_1
    try clear hfz17_2
    try clear hx110_0
    try clear hx111_0
    try clear p110
    try clear p111
    try clear p2
    try clear q110
    try clear q111
    obtain ⟨kq, x7_2, rfl, HA, HJ2, BK108, BK109, HB⟩ := hcut
    cases kq with
    | zero => exact absurd HA.out (by simp [malthouseref01_quoted.j1])
    | succ kj2 =>
      have H := HA.out
      clear HA
      simp only [malthouseref01_quoted.j1] at H
      have HC18 := Aside0.mk H
      clear H
      go_upto_region 4 with (fail)
      go_cut [46] (fun v46 wc => ∃ (kq : Nat) (x46_17 : Bool), v46 = .bool x46_17 ∧ Aside0 (malthouseref01_quoted.j2 kq a1 x7_2 x46_17 a0_0 l0_1 l0_2 = some (r1, r2, r3, r4, r5, r6)) ∧ Aside0 (kq ≤ kj2) ∧ Aside0 (wc.heap[gb108]? = some (.cells #[.string a0_0, (.slice A0_1 l0_1.length c0_1), (.slice A0_2 l0_2.length c0_2)] 53 (0, 0))) ∧ Aside0 (wc.heap[gb109]? = some (.cells #[.int .i64 0, .string (⟨#[]⟩ : ByteArray), .int .i64 0, .int .i64 0] 38 (0, 0))) ∧ Aside0 (Below w.heap.size w wc))
      case first =>
        have H := HC18.out
        clear HC18
        by_cases c19 : x7_2 = (l0_1.length : Int)
        · rw [if_pos c19] at H
          have c19b0 : (x7_2 == (l0_1.length : Int)) = true := beq_iff_eq.mpr c19
          have c19b1 : (x7_2 != (l0_1.length : Int)) = false := bne_eq_false_iff_eq.mpr c19
          clear c19
          (first | rw [c19b0] | (simp only [i64_w, i32_w]; rw [c19b0]) | skip)
          have H' := Aside0.mk H
          clear H
          have hnb20 := NB108_109.out
          have hnc20 := NB109_108.out
          have hcz21_0 : wc.cell? ⟨gb108, 0, none⟩ = some (.string a0_0) := (blk_cell BK108.out 0).trans rfl
          have hcz21_1 : wc.cell? ⟨gb108, 1, none⟩ = some (.slice A0_1 l0_1.length c0_1) := (blk_cell BK108.out 1).trans rfl
          have hcz21_2 : wc.cell? ⟨gb108, 2, none⟩ = some (.slice A0_2 l0_2.length c0_2) := (blk_cell BK108.out 2).trans rfl
          have hfz21_0 := blk_frozen BK108.out 0
          have hfz21_1 := blk_frozen BK108.out 1
          have hfz21_2 := blk_frozen BK108.out 2
          go_wp2
          go_meet
          case rel => exact ⟨_, (true), (by first | rfl | (simp; done) | (simp [*]; done)), H', ⟨by have := HJ2.out; first | omega | exact Nat.le_refl _⟩, ⟨by (with_reducible repeat (first | refine blk_drewN ?_ _ | refine blk_drew ?_ | refine blk_alloc ?_ _)); exact BK108.out⟩, ⟨by (with_reducible repeat (first | refine blk_drewN ?_ _ | refine blk_drew ?_ | refine blk_alloc ?_ _)); exact BK109.out⟩, ⟨by repeat (first | (with_reducible first | exact HB.out | apply below_alloc | apply pw_below_drewN | apply below_drew1 | refine below_set ?_ GE108.out | refine below_set ?_ GE109.out) | exact HB.out)⟩⟩
        · rw [if_neg c19] at H
          have c19b0 : (x7_2 == (l0_1.length : Int)) = false := beq_eq_false_iff_ne.mpr c19
          have c19b1 : (x7_2 != (l0_1.length : Int)) = true := bne_iff_ne.mpr c19
          (first | rw [c19b0] | (simp only [i64_w, i32_w]; rw [c19b0]) | skip)
          by_cases c22 : 0 ≤ x7_2
          · rw [if_pos c22] at H
            have c22b0 : decide (0 ≤ x7_2) = true := decide_eq_true c22
            clear c22
            by_cases c23 : x7_2 < (l0_1.length : Int)
            · rw [if_pos c23] at H
              have c23b0 : decide (x7_2 < (l0_1.length : Int)) = true := decide_eq_true c23
              clear c23
              have H' := Aside0.mk H
              clear H
              have hnb24 := NB108_109.out
              have hnc24 := NB109_108.out
              have hcz25_0 : wc.cell? ⟨gb108, 0, none⟩ = some (.string a0_0) := (blk_cell BK108.out 0).trans rfl
              have hcz25_1 : wc.cell? ⟨gb108, 1, none⟩ = some (.slice A0_1 l0_1.length c0_1) := (blk_cell BK108.out 1).trans rfl
              have hcz25_2 : wc.cell? ⟨gb108, 2, none⟩ = some (.slice A0_2 l0_2.length c0_2) := (blk_cell BK108.out 2).trans rfl
              have hfz25_0 := blk_frozen BK108.out 0
              have hfz25_1 := blk_frozen BK108.out 1
              have hfz25_2 := blk_frozen BK108.out 2
              have p112 : 0 ≤ (x7_2 : Int) := of_decide_eq_true (by first | (with_reducible assumption) | assumption)
              have q112 : x7_2 < (l0_1.length : Int) := of_decide_eq_true (by first | (with_reducible assumption) | assumption)
              obtain ⟨ad112, e112, hx112_0⟩ := Kd.at_int HR0_1.out x7_2 p112 q112
              cases e112
              replace hx112_0 := (HB.out.cell (World.block_lt_of_cell? w _ hx112_0)).trans hx112_0
              replace p112 := eq_true p112
              replace q112 := eq_true q112
              go_wp2
              go_meet
              case rel => exact ⟨_, (((rd l0_1 x7_2) == 10)), (by first | rfl | (simp; done) | (simp [*]; done)), H', ⟨by have := HJ2.out; first | omega | exact Nat.le_refl _⟩, ⟨by (with_reducible repeat (first | refine blk_drewN ?_ _ | refine blk_drew ?_ | refine blk_alloc ?_ _)); exact BK108.out⟩, ⟨by (with_reducible repeat (first | refine blk_drewN ?_ _ | refine blk_drew ?_ | refine blk_alloc ?_ _)); exact BK109.out⟩, ⟨by repeat (first | (with_reducible first | exact HB.out | apply below_alloc | apply pw_below_drewN | apply below_drew1 | refine below_set ?_ GE108.out | refine below_set ?_ GE109.out) | exact HB.out)⟩⟩
            · rw [if_neg c23] at H
              exact absurd H (by simp)
          · rw [if_neg c22] at H
            exact absurd H (by simp)
      case rest =>
        clear HC18
        try clear c1
        try clear p1
        try clear q1
        try clear hx1
        try clear c2
        try clear p2
        try clear c4
        try clear c6
        try clear c6b0
        try clear p6
        try clear c7
        try clear c7b0
        try clear c8
        try clear c8b0
        try clear c8b1
        try clear c9
        try clear c11
        try clear c11b0
        try clear c11b1
        try clear p11
        try clear q11
        try clear hx11
        try clear c12
        try clear c14
        try clear c16
        try clear c19
        try clear c19b0
        try clear c19b1
        try clear c20
        try clear c22
        try clear c22b0
        try clear c23
        try clear c23b0
        try clear c24
        try clear hcz10_0
        try clear hcz10_1
        try clear hcz10_2
        try clear hcz13_0
        try clear hcz13_1
        try clear hcz13_2
        try clear hcz15_0
        try clear hcz15_1
        try clear hcz15_2
        try clear hcz17_0
        try clear hcz17_1
        try clear hcz17_2
        try clear hcz21_0
        try clear hcz21_1
        try clear hcz21_2
        try clear hcz25_0
        try clear hcz25_1
        try clear hcz25_2
        try clear hfz10_0
        try clear hfz10_1
        try clear hfz10_2
        try clear hfz13_0
        try clear hfz13_1
        try clear hfz13_2
        try clear hfz15_0
        try clear hfz15_1
        try clear hfz15_2
        try clear hfz17_0
        try clear hfz17_1
        try clear hfz17_2
        try clear hfz21_0
        try clear hfz21_1
        try clear hfz21_2
        try clear hfz25_0
        try clear hfz25_1
        try clear hfz25_2
        try clear hx110_0
        try clear hx111_0
        try clear hx112_0
        try clear p1
        try clear p11
        try clear p110
        try clear p111
        try clear p112
        try clear p2
        try clear p6
        try clear q1
        try clear q11
        try clear q110
        try clear q111
        try clear q112
        obtain ⟨kq, x46_17, rfl, HA, HJ17, BK108, BK109, HB⟩ := hcut
        cases kq with
        | zero => exact absurd HA.out (by simp [malthouseref01_quoted.j2])
        | succ kj17 =>
          have H := HA.out
          clear HA
          simp only [malthouseref01_quoted.j2] at H
          by_cases c26 : x46_17 = true
          · subst c26
            have H1 : (some (0, (⟨#[]⟩ : ByteArray), 0, 0, 0, 11)) = some (r1, r2, r3, r4, r5, r6) := by rw [if_pos rfl] at H; exact H
            clear H
            have H := H1
            clear H1
            simp only [Option.some.injEq, Prod.mk.injEq] at H
            obtain ⟨rfl, rfl, rfl, rfl, rfl, rfl⟩ := H
            have hnb27 := NB109_108.out
            have hnc27 := NB108_109.out
            have hcz28_0 : wc.cell? ⟨gb109, 0, none⟩ = some (.int .i64 0) := (blk_cell BK109.out 0).trans rfl
            have hcz28_1 : wc.cell? ⟨gb109, 1, none⟩ = some (.string (⟨#[]⟩ : ByteArray)) := (blk_cell BK109.out 1).trans rfl
            have hcz28_2 : wc.cell? ⟨gb109, 2, none⟩ = some (.int .i64 0) := (blk_cell BK109.out 2).trans rfl
            have hcz28_3 : wc.cell? ⟨gb109, 3, none⟩ = some (.int .i64 0) := (blk_cell BK109.out 3).trans rfl
            have hfz28_0 := blk_frozen BK109.out 0
            have hfz28_1 := blk_frozen BK109.out 1
            have hfz28_2 := blk_frozen BK109.out 2
            have hfz28_3 := blk_frozen BK109.out 3
            go_wp2
            refine bodyPost_ret (results_ctt rfl _ _ gb109 38 #[.int .i64 0, .string (⟨#[]⟩ : ByteArray), .int .i64 0, .int .i64 0] (0, 0) _ rfl (by (with_reducible repeat (first | refine blk_drewN ?_ _ | refine blk_drew ?_ | refine blk_alloc ?_ _)); refine blk_put (cs := #[.int .i64 0, .string (⟨#[]⟩ : ByteArray), .int .i64 0, .int .i64 0]) ?_ 3 _ rfl; (with_reducible repeat (first | refine blk_drewN ?_ _ | refine blk_drew ?_ | refine blk_alloc ?_ _)); refine blk_put (cs := #[.int .i64 0, .string (⟨#[]⟩ : ByteArray), .int .i64 0, .int .i64 0]) ?_ 2 _ rfl; (with_reducible repeat (first | refine blk_drewN ?_ _ | refine blk_drew ?_ | refine blk_alloc ?_ _)); refine blk_put (cs := #[.int .i64 0, .string (⟨#[]⟩ : ByteArray), .int .i64 0, .int .i64 0]) ?_ 1 _ rfl; (with_reducible repeat (first | refine blk_drewN ?_ _ | refine blk_drew ?_ | refine blk_alloc ?_ _)); refine blk_put (cs := #[.int .i64 0, .string (⟨#[]⟩ : ByteArray), .int .i64 0, .int .i64 0]) ?_ 0 _ rfl; (with_reducible repeat (first | refine blk_drewN ?_ _ | refine blk_drew ?_ | refine blk_alloc ?_ _)); exact BK109.out) Tryd.underlying38 rfl (by kernel_rfl)) rfl ?_
            exact ⟨by first | rfl | (simp [errW_none, errW_some] <;> rfl) | (simp [*, errW_none, errW_some] <;> rfl), by repeat (first | (with_reducible first | exact HB.out | apply below_alloc | apply pw_below_drewN | apply below_drew1 | refine below_set ?_ GE108.out | refine below_set ?_ GE109.out) | exact HB.out)⟩
          · replace c26 := Bool.eq_false_iff.mpr c26
            subst c26
            have H1 : (malthouseref01_quoted.l1 kj17 a1 x7_2 (wrap64 (a1 + 1)) a0_0 l0_1 l0_2) = some (r1, r2, r3, r4, r5, r6) := by rw [if_neg (show ¬ (false = true) by decide)] at H; exact H
            clear H
            have H := H1
            clear H1
            have H' := Aside0.mk H
            clear H
            go_wp2
            go_loopg [8] kj17 (fun kq v8 w' => ∃ (x8_3 : Int) (x110000_3 : Int) (x110001_3 : ByteArray) (x110002_3 : Int) (x110003_3 : Int), v8 = .int .i64 x8_3 ∧ Aside0 (malthouseref01_quoted.l1 kq a1 x7_2 x8_3 a0_0 l0_1 l0_2 = some (r1, r2, r3, r4, r5, r6)) ∧ Aside0 (kq ≤ kj17) ∧ Aside0 (w'.heap[gb108]? = some (.cells #[.string a0_0, (.slice A0_1 l0_1.length c0_1), (.slice A0_2 l0_2.length c0_2)] 53 (0, 0))) ∧ Aside0 (w'.heap[gb109]? = some (.cells #[.int .i64 x110000_3, .string x110001_3, .int .i64 x110002_3, .int .i64 x110003_3] 38 (0, 0))) ∧ Aside0 (Below w.heap.size w w'))
            case atStart => exact ⟨(wrap64 (a1 + 1)), (0), ((⟨#[]⟩ : ByteArray)), (0), (0), (by first | rfl | (simp; done) | (simp [*]; done)), H', ⟨Nat.le_refl _⟩, ⟨by (with_reducible repeat (first | refine blk_drewN ?_ _ | refine blk_drew ?_ | refine blk_alloc ?_ _)); exact BK108.out⟩, ⟨by (with_reducible repeat (first | refine blk_drewN ?_ _ | refine blk_drew ?_ | refine blk_alloc ?_ _)); exact BK109.out⟩, ⟨by repeat (first | (with_reducible first | exact HB.out | apply below_alloc | apply pw_below_drewN | apply below_drew1 | refine below_set ?_ GE108.out | refine below_set ?_ GE109.out) | exact HB.out)⟩⟩
            case round =>
              clear H'
              try clear c1
              try clear p1
              try clear q1
              try clear hx1
              try clear c2
              try clear p2
              try clear c4
              try clear c6
              try clear c6b0
              try clear p6
              try clear c7
              try clear c7b0
              try clear c8
              try clear c8b0
              try clear c8b1
              try clear c9
              try clear c11
              try clear c11b0
              try clear c11b1
              try clear p11
              try clear q11
              try clear hx11
              try clear c12
              try clear c14
              try clear c16
              try clear c19
              try clear c19b0
              try clear c19b1
              try clear c20
              try clear c22
              try clear c22b0
              try clear c23
              try clear c23b0
              try clear c24
              try clear c26
              try clear c27
              try clear hcz10_0
              try clear hcz10_1
              try clear hcz10_2
              try clear hcz13_0
              try clear hcz13_1
              try clear hcz13_2
              try clear hcz15_0
              try clear hcz15_1
              try clear hcz15_2
              try clear hcz17_0
              try clear hcz17_1
              try clear hcz17_2
              try clear hcz21_0
              try clear hcz21_1
              try clear hcz21_2
              try clear hcz25_0
              try clear hcz25_1
              try clear hcz25_2
              try clear hcz28_0
              try clear hcz28_1
              try clear hcz28_2
              try clear hcz28_3
              try clear hfz10_0
              try clear hfz10_1
              try clear hfz10_2
              try clear hfz13_0
              try clear hfz13_1
              try clear hfz13_2
              try clear hfz15_0
              try clear hfz15_1
              try clear hfz15_2
              try clear hfz17_0
              try clear hfz17_1
              try clear hfz17_2
              try clear hfz21_0
              try clear hfz21_1
              try clear hfz21_2
              try clear hfz25_0
              try clear hfz25_1
              try clear hfz25_2
              try clear hfz28_0
              try clear hfz28_1
              try clear hfz28_2
              try clear hfz28_3
              try clear hx110_0
              try clear hx111_0
              try clear hx112_0
              try clear p1
              try clear p11
              try clear p110
              try clear p111
              try clear p112
              try clear p2
              try clear p6
              try clear q1
              try clear q11
              try clear q110
              try clear q111
              try clear q112
              obtain ⟨x8_3, x110000_3, x110001_3, x110002_3, x110003_3, rfl, HA, HK3, BK108, BK109, HB⟩ := hrel
              cases gk with
              | zero => exact absurd HA.out (by simp [malthouseref01_quoted.l1])
              | succ k3 =>
                have H := HA.out
                clear HA
                simp only [malthouseref01_quoted.l1] at H
                by_cases c29 : x8_3 < x7_2
                · rw [if_pos c29] at H
                  have c29b0 : decide (x8_3 < x7_2) = true := decide_eq_true c29
                  clear c29
                  by_cases c30 : 0 ≤ x8_3
                  · rw [if_pos c30] at H
                    have c30b0 : decide (0 ≤ x8_3) = true := decide_eq_true c30
                    clear c30
                    by_cases c31 : x8_3 < (l0_1.length : Int)
                    · rw [if_pos c31] at H
                      have c31b0 : decide (x8_3 < (l0_1.length : Int)) = true := decide_eq_true c31
                      clear c31
                      by_cases c32 : (rd l0_1 x8_3) < 32
                      · rw [if_pos c32] at H
                        have c32b0 : decide ((rd l0_1 x8_3) < 32) = true := decide_eq_true c32
                        clear c32
                        simp only [Option.some.injEq, Prod.mk.injEq] at H
                        obtain ⟨rfl, rfl, rfl, rfl, rfl, rfl⟩ := H
                        have hnb33 := NB108_109.out
                        have hnc33 := NB109_108.out
                        have hcz34_0 : wr.cell? ⟨gb108, 0, none⟩ = some (.string a0_0) := (blk_cell BK108.out 0).trans rfl
                        have hcz34_1 : wr.cell? ⟨gb108, 1, none⟩ = some (.slice A0_1 l0_1.length c0_1) := (blk_cell BK108.out 1).trans rfl
                        have hcz34_2 : wr.cell? ⟨gb108, 2, none⟩ = some (.slice A0_2 l0_2.length c0_2) := (blk_cell BK108.out 2).trans rfl
                        have hfz34_0 := blk_frozen BK108.out 0
                        have hfz34_1 := blk_frozen BK108.out 1
                        have hfz34_2 := blk_frozen BK108.out 2
                        have p113 : 0 ≤ (x8_3 : Int) := of_decide_eq_true (by first | (with_reducible assumption) | assumption)
                        have q113 : x8_3 < (l0_1.length : Int) := of_decide_eq_true (by first | (with_reducible assumption) | assumption)
                        obtain ⟨ad113, e113, hx113_0⟩ := Kd.at_int HR0_1.out x8_3 p113 q113
                        cases e113
                        replace hx113_0 := (HB.out.cell (World.block_lt_of_cell? w _ hx113_0)).trans hx113_0
                        replace p113 := eq_true p113
                        replace q113 := eq_true q113
                        have hcz35_0 : wr.cell? ⟨gb109, 0, none⟩ = some (.int .i64 x110000_3) := (blk_cell BK109.out 0).trans rfl
                        have hcz35_1 : wr.cell? ⟨gb109, 1, none⟩ = some (.string x110001_3) := (blk_cell BK109.out 1).trans rfl
                        have hcz35_2 : wr.cell? ⟨gb109, 2, none⟩ = some (.int .i64 x110002_3) := (blk_cell BK109.out 2).trans rfl
                        have hcz35_3 : wr.cell? ⟨gb109, 3, none⟩ = some (.int .i64 x110003_3) := (blk_cell BK109.out 3).trans rfl
                        have hfz35_0 := blk_frozen BK109.out 0
                        have hfz35_1 := blk_frozen BK109.out 1
                        have hfz35_2 := blk_frozen BK109.out 2
                        have hfz35_3 := blk_frozen BK109.out 3
                        go_wp2
                        refine bodyPost_ret (results_ctt rfl _ _ gb109 38 #[.int .i64 0, .string (⟨#[]⟩ : ByteArray), .int .i64 0, .int .i64 0] (0, 0) _ rfl (by (with_reducible repeat (first | refine blk_drewN ?_ _ | refine blk_drew ?_ | refine blk_alloc ?_ _)); refine blk_put (cs := #[.int .i64 0, .string (⟨#[]⟩ : ByteArray), .int .i64 0, .int .i64 x110003_3]) ?_ 3 _ rfl; (with_reducible repeat (first | refine blk_drewN ?_ _ | refine blk_drew ?_ | refine blk_alloc ?_ _)); refine blk_put (cs := #[.int .i64 0, .string (⟨#[]⟩ : ByteArray), .int .i64 x110002_3, .int .i64 x110003_3]) ?_ 2 _ rfl; (with_reducible repeat (first | refine blk_drewN ?_ _ | refine blk_drew ?_ | refine blk_alloc ?_ _)); refine blk_put (cs := #[.int .i64 0, .string x110001_3, .int .i64 x110002_3, .int .i64 x110003_3]) ?_ 1 _ rfl; (with_reducible repeat (first | refine blk_drewN ?_ _ | refine blk_drew ?_ | refine blk_alloc ?_ _)); refine blk_put (cs := #[.int .i64 x110000_3, .string x110001_3, .int .i64 x110002_3, .int .i64 x110003_3]) ?_ 0 _ rfl; (with_reducible repeat (first | refine blk_drewN ?_ _ | refine blk_drew ?_ | refine blk_alloc ?_ _)); exact BK109.out) Tryd.underlying38 rfl (by kernel_rfl)) rfl ?_
                        exact ⟨by first | rfl | (simp [errW_none, errW_some] <;> rfl) | (simp [*, errW_none, errW_some] <;> rfl), by repeat (first | (with_reducible first | exact HB.out | apply below_alloc | apply pw_below_drewN | apply below_drew1 | refine below_set ?_ GE108.out | refine below_set ?_ GE109.out) | exact HB.out)⟩
                      · rw [if_neg c32] at H
                        have c32b0 : decide ((rd l0_1 x8_3) < 32) = false := decide_eq_false c32
                        clear c32
                        have H' := Aside0.mk H
                        clear H
                        have hnb36 := NB108_109.out
                        have hnc36 := NB109_108.out
                        have hcz37_0 : wr.cell? ⟨gb108, 0, none⟩ = some (.string a0_0) := (blk_cell BK108.out 0).trans rfl
                        have hcz37_1 : wr.cell? ⟨gb108, 1, none⟩ = some (.slice A0_1 l0_1.length c0_1) := (blk_cell BK108.out 1).trans rfl
                        have hcz37_2 : wr.cell? ⟨gb108, 2, none⟩ = some (.slice A0_2 l0_2.length c0_2) := (blk_cell BK108.out 2).trans rfl
                        have hfz37_0 := blk_frozen BK108.out 0
                        have hfz37_1 := blk_frozen BK108.out 1
                        have hfz37_2 := blk_frozen BK108.out 2
                        have p113 : 0 ≤ (x8_3 : Int) := of_decide_eq_true (by first | (with_reducible assumption) | assumption)
                        have q113 : x8_3 < (l0_1.length : Int) := of_decide_eq_true (by first | (with_reducible assumption) | assumption)
                        obtain ⟨ad113, e113, hx113_0⟩ := Kd.at_int HR0_1.out x8_3 p113 q113
                        cases e113
                        replace hx113_0 := (HB.out.cell (World.block_lt_of_cell? w _ hx113_0)).trans hx113_0
                        replace p113 := eq_true p113
                        replace q113 := eq_true q113
                        go_wp2
                        go_roundg k3
                        case measure => have := HJ2.out; have := HJ17.out; have := HK3.out; omega
                        case rel => exact ⟨(wrap64 (x8_3 + 1)), (x110000_3), (x110001_3), (x110002_3), (x110003_3), (by first | rfl | (simp; done) | (simp [*]; done)), H', ⟨by have := HJ2.out; have := HJ17.out; have := HK3.out; omega⟩, ⟨by (with_reducible repeat (first | refine blk_drewN ?_ _ | refine blk_drew ?_ | refine blk_alloc ?_ _)); exact BK108.out⟩, ⟨by (with_reducible repeat (first | refine blk_drewN ?_ _ | refine blk_drew ?_ | refine blk_alloc ?_ _)); exact BK109.out⟩, ⟨by repeat (first | (with_reducible first | exact HB.out | apply below_alloc | apply pw_below_drewN | apply below_drew1 | refine below_set ?_ GE108.out | refine below_set ?_ GE109.out) | exact HB.out)⟩⟩
                    · rw [if_neg c31] at H
                      exact absurd H (by simp)
                  · rw [if_neg c30] at H
                    exact absurd H (by simp)
                · rw [if_neg c29] at H
                  have c29b0 : decide (x8_3 < x7_2) = false := decide_eq_false c29
                  clear c29
                  by_cases c38 : (wrap64 ((wrap64 (x7_2 - a1)) - 1)) > 20
                  · rw [if_pos c38] at H
                    have c38b0 : decide (20 < (wrap64 ((wrap64 (x7_2 - a1)) - 1))) = true := decide_eq_true c38
                    clear c38
                    simp only [Option.some.injEq, Prod.mk.injEq] at H
                    obtain ⟨rfl, rfl, rfl, rfl, rfl, rfl⟩ := H
                    have hnb39 := NB109_108.out
                    have hnc39 := NB108_109.out
                    have hcz40_0 : wr.cell? ⟨gb109, 0, none⟩ = some (.int .i64 x110000_3) := (blk_cell BK109.out 0).trans rfl
                    have hcz40_1 : wr.cell? ⟨gb109, 1, none⟩ = some (.string x110001_3) := (blk_cell BK109.out 1).trans rfl
                    have hcz40_2 : wr.cell? ⟨gb109, 2, none⟩ = some (.int .i64 x110002_3) := (blk_cell BK109.out 2).trans rfl
                    have hcz40_3 : wr.cell? ⟨gb109, 3, none⟩ = some (.int .i64 x110003_3) := (blk_cell BK109.out 3).trans rfl
                    have hfz40_0 := blk_frozen BK109.out 0
                    have hfz40_1 := blk_frozen BK109.out 1
                    have hfz40_2 := blk_frozen BK109.out 2
                    have hfz40_3 := blk_frozen BK109.out 3
                    go_wp2
                    refine bodyPost_ret (results_ctt rfl _ _ gb109 38 #[.int .i64 0, .string (⟨#[]⟩ : ByteArray), .int .i64 0, .int .i64 0] (0, 0) _ rfl (by (with_reducible repeat (first | refine blk_drewN ?_ _ | refine blk_drew ?_ | refine blk_alloc ?_ _)); refine blk_put (cs := #[.int .i64 0, .string (⟨#[]⟩ : ByteArray), .int .i64 0, .int .i64 x110003_3]) ?_ 3 _ rfl; (with_reducible repeat (first | refine blk_drewN ?_ _ | refine blk_drew ?_ | refine blk_alloc ?_ _)); refine blk_put (cs := #[.int .i64 0, .string (⟨#[]⟩ : ByteArray), .int .i64 x110002_3, .int .i64 x110003_3]) ?_ 2 _ rfl; (with_reducible repeat (first | refine blk_drewN ?_ _ | refine blk_drew ?_ | refine blk_alloc ?_ _)); refine blk_put (cs := #[.int .i64 0, .string x110001_3, .int .i64 x110002_3, .int .i64 x110003_3]) ?_ 1 _ rfl; (with_reducible repeat (first | refine blk_drewN ?_ _ | refine blk_drew ?_ | refine blk_alloc ?_ _)); refine blk_put (cs := #[.int .i64 x110000_3, .string x110001_3, .int .i64 x110002_3, .int .i64 x110003_3]) ?_ 0 _ rfl; (with_reducible repeat (first | refine blk_drewN ?_ _ | refine blk_drew ?_ | refine blk_alloc ?_ _)); exact BK109.out) Tryd.underlying38 rfl (by kernel_rfl)) rfl ?_
                    exact ⟨by first | rfl | (simp [errW_none, errW_some] <;> rfl) | (simp [*, errW_none, errW_some] <;> rfl), by repeat (first | (with_reducible first | exact HB.out | apply below_alloc | apply pw_below_drewN | apply below_drew1 | refine below_set ?_ GE108.out | refine below_set ?_ GE109.out) | exact HB.out)⟩
                  · rw [if_neg c38] at H
                    have c38b0 : decide (20 < (wrap64 ((wrap64 (x7_2 - a1)) - 1))) = false := decide_eq_false c38
                    clear c38
                    replace H := Option.bind_eq_some_iff.mp H
                    obtain ⟨t114, A410, H⟩ := H
                    replace H : (some (3, t114, 0, a1, wrap64 (x7_2 + 1), 0)) = some (r1, r2, r3, r4, r5, r6) := H
                    have A41 := Aside0.mk A410
                    clear A410
                    simp only [Option.some.injEq, Prod.mk.injEq] at H
                    obtain ⟨rfl, rfl, rfl, rfl, rfl, rfl⟩ := H
                    have hnb42 := NB108_109.out
                    have hnc42 := NB109_108.out
                    have hcz43_0 : wr.cell? ⟨gb108, 0, none⟩ = some (.string a0_0) := (blk_cell BK108.out 0).trans rfl
                    have hcz43_1 : wr.cell? ⟨gb108, 1, none⟩ = some (.slice A0_1 l0_1.length c0_1) := (blk_cell BK108.out 1).trans rfl
                    have hcz43_2 : wr.cell? ⟨gb108, 2, none⟩ = some (.slice A0_2 l0_2.length c0_2) := (blk_cell BK108.out 2).trans rfl
                    have hfz43_0 := blk_frozen BK108.out 0
                    have hfz43_1 := blk_frozen BK108.out 1
                    have hfz43_2 := blk_frozen BK108.out 2
                    go_wp2_with (first | ((with_reducible refine gate_callee (f := 46) rfl ?_); refine goesL_ (some 72) rfl rfl Tryd.func46 (by kernel_rfl) rfl #[.agg #[.string a0_0, .slice A0_1 l0_1.length c0_1, .slice A0_2 l0_2.length c0_2], .int .i64 (wrap64 (a1 + 1)), .int .i64 x7_2] rfl (by (try simp only [List.map_toArray, List.map_cons, List.map_nil]); first | done | rfl | (simp only [List.length_drop, List.length_take]; rfl)) ?_; (with_reducible refine (malthouseref01_part.calls a0_0 _ _ l0_1 _ _ l0_2 (wrap64 (a1 + 1)) x7_2 t114 _ ?side1 ?side2 ?side3 ?side4 A41.out).mono ?_); (case side1 => repeat (first | exact (Kd.C_below HR0_1.out HB.out) | (with_reducible refine Kd.C_alloc ?_ _) | (with_reducible refine Kd.C_drewN ?_ _) | (with_reducible refine Kd.C_drew ?_))); (case side2 => exact HC0_1.out); (case side3 => repeat (first | exact (Kd.C_below HR0_2.out HB.out) | (with_reducible refine Kd.C_alloc ?_ _) | (with_reducible refine Kd.C_drewN ?_ _) | (with_reducible refine Kd.C_drew ?_))); (case side4 => exact HC0_2.out); rintro e w44 ⟨rfl, hb⟩; refine ⟨_, rfl, ?_⟩; have n0_ := Aside0.mk (blk_below (g := gb108) (o := .cells #[.string a0_0, .slice A0_1 l0_1.length c0_1, .slice A0_2 l0_2.length c0_2] 53 (0, 0)) (by (with_reducible repeat (first | refine blk_drewN ?_ _ | refine blk_drew ?_ | refine blk_alloc ?_ _)); exact BK108.out) hb); have n1_ := Aside0.mk (blk_below (g := gb109) (o := .cells #[.int .i64 x110000_3, .string x110001_3, .int .i64 x110002_3, .int .i64 x110003_3] 38 (0, 0)) (by (with_reducible repeat (first | refine blk_drewN ?_ _ | refine blk_drew ?_ | refine blk_alloc ?_ _)); exact BK109.out) hb); have n2_ := Aside0.mk (below_step (by repeat (first | (with_reducible first | exact HB.out | apply below_alloc | apply pw_below_drewN | apply below_drew1 | refine below_set ?_ GE108.out | refine below_set ?_ GE109.out) | exact HB.out)) hb); clear BK108; clear BK109; clear HB; have BK108 := n0_; have BK109 := n1_; have HB := n2_; clear n0_ n1_ n2_; (try clear hb); (try clear hb2); (try clear hk); (try clear hi); have hcz45_0 : w44.cell? ⟨gb109, 0, none⟩ = some (.int .i64 x110000_3) := (blk_cell BK109.out 0).trans rfl; have hcz45_1 : w44.cell? ⟨gb109, 1, none⟩ = some (.string x110001_3) := (blk_cell BK109.out 1).trans rfl; have hcz45_2 : w44.cell? ⟨gb109, 2, none⟩ = some (.int .i64 x110002_3) := (blk_cell BK109.out 2).trans rfl; have hcz45_3 : w44.cell? ⟨gb109, 3, none⟩ = some (.int .i64 x110003_3) := (blk_cell BK109.out 3).trans rfl; have hfz45_0 := blk_frozen BK109.out 0; have hfz45_1 := blk_frozen BK109.out 1; have hfz45_2 := blk_frozen BK109.out 2; have hfz45_3 := blk_frozen BK109.out 3))
                    refine bodyPost_ret (results_ctt rfl _ _ gb109 38 #[.int .i64 3, .string t114, .int .i64 0, .int .i64 a1] (0, 0) _ rfl (by (with_reducible repeat (first | refine blk_drewN ?_ _ | refine blk_drew ?_ | refine blk_alloc ?_ _)); refine blk_put (cs := #[.int .i64 3, .string t114, .int .i64 0, .int .i64 x110003_3]) ?_ 3 _ rfl; (with_reducible repeat (first | refine blk_drewN ?_ _ | refine blk_drew ?_ | refine blk_alloc ?_ _)); refine blk_put (cs := #[.int .i64 3, .string t114, .int .i64 x110002_3, .int .i64 x110003_3]) ?_ 2 _ rfl; (with_reducible repeat (first | refine blk_drewN ?_ _ | refine blk_drew ?_ | refine blk_alloc ?_ _)); refine blk_put (cs := #[.int .i64 3, .string x110001_3, .int .i64 x110002_3, .int .i64 x110003_3]) ?_ 1 _ rfl; (with_reducible repeat (first | refine blk_drewN ?_ _ | refine blk_drew ?_ | refine blk_alloc ?_ _)); refine blk_put (cs := #[.int .i64 x110000_3, .string x110001_3, .int .i64 x110002_3, .int .i64 x110003_3]) ?_ 0 _ rfl; (with_reducible repeat (first | refine blk_drewN ?_ _ | refine blk_drew ?_ | refine blk_alloc ?_ _)); exact BK109.out) Tryd.underlying38 rfl (by kernel_rfl)) rfl ?_
                    exact ⟨by first | rfl | (simp [errW_none, errW_some] <;> rfl) | (simp [*, errW_none, errW_some] <;> rfl), by repeat (first | (with_reducible first | exact HB.out | apply below_alloc | apply pw_below_drewN | apply below_drew1 | refine below_set ?_ GE108.out | refine below_set ?_ GE109.out) | exact HB.out)⟩
end Go.Proofs.YtlikjknakplamaaDoor.Print
/-! ### ELib -/
namespace Go.Proofs.YtlikjknakplamaaDoor.Print
open Go.RowKit Go.Proofs.YtlikjknakplamaaDoorW.PrintWords Go.Proofs.YtlikjknakplamaaDoorW.PrintLast Go.Proofs.YtlikjknakplamaaDoorW.PrintMore
def strings_IndexByte.f (a0 : ByteArray) (a1 : Int) : Option Int := some (Lib.indexByte a0.data.toList a1.toNat.toUInt8)
theorem strings_IndexByte.calls (a0 : ByteArray) (a1 : Int) (r : Int) (w : World) (h : strings_IndexByte.f a0 a1 = some r) :
    Calls Tryd.prog 35 #[.string a0, .int .u8 a1] w fun e w' => e = .returned (.int .i64 r) ∧ Drawn0 w w' := by
  obtain rfl := Option.some.inj h
  exact (Tryd.strings_IndexByte a0 a1 w).mono fun _ _ ⟨he, hw⟩ => ⟨he, hw ▸ Drawn0.refl _⟩
def utf8_RuneCountInString.f (a0 : ByteArray) : Option Int := if a0.size < 9223372036854775807 then some (Lib.runeCount a0) else none
theorem utf8_RuneCountInString.calls (a0 : ByteArray) (r : Int) (w : World) (h : utf8_RuneCountInString.f a0 = some r) :
    Calls Tryd.prog 38 #[.string a0] w fun e w' => e = .returned (.int .i64 r) ∧ Below w.heap.size w w' := by
  unfold utf8_RuneCountInString.f at h
  split at h
  · obtain rfl := Option.some.inj h
    exact (Tryd.utf8_RuneCountInString a0 w ‹_›).mono fun _ _ ⟨he, pos, hw⟩ => ⟨he, hw ▸ (Below.refl _ _).alloc (Nat.le_refl _) _⟩
  · cases h
end Go.Proofs.YtlikjknakplamaaDoor.Print
/-! ### K -/
namespace Go.Proofs.YtlikjknakplamaaDoor
open Go.RowKit
/-- Of the blocks that were there only those of S may have changed. -/
structure Only (S : List Nat) (w w' : World) : Prop where
  os : w'.os = w.os
  tape : w'.tape = w.tape
  output : w'.output = w.output
  size : w.heap.size ≤ w'.heap.size
  block : ∀ k, k < w.heap.size → k ∉ S → w'.heap[k]? = w.heap[k]?
theorem Only.refl (S : List Nat) (w : World) : Only S w w := ⟨rfl, rfl, rfl, Nat.le_refl _, fun _ _ _ => rfl⟩
theorem Only.trans {S : List Nat} {a b c : World} (h : Only S a b) (k : Only S b c) : Only S a c :=
  ⟨k.os.trans h.os, k.tape.trans h.tape, k.output.trans h.output, Nat.le_trans h.size k.size,
   fun i hi hn => (k.block i (Nat.lt_of_lt_of_le hi h.size) hn).trans (h.block i hi hn)⟩
/-- What is written newly in between does not count. -/
theorem Only.then {S T : List Nat} {a b c : World} (h : Only S a b) (k : Only T b c) (hT : ∀ i, i ∈ T → i ∈ S ∨ a.heap.size ≤ i) : Only S a c :=
  ⟨k.os.trans h.os, k.tape.trans h.tape, k.output.trans h.output, Nat.le_trans h.size k.size,
   fun i hi hn => (k.block i (Nat.lt_of_lt_of_le hi h.size) (fun ht => (hT i ht).elim hn (by omega))).trans (h.block i hi hn)⟩
theorem Only.mono {S T : List Nat} {a b : World} (h : Only S a b) (hT : ∀ i, i ∈ S → i ∈ T) : Only T a b :=
  ⟨h.os, h.tape, h.output, h.size, fun i hi hn => h.block i hi (fun hs => hn (hT i hs))⟩
theorem Only.drewN {S : List Nat} {a w : World} (h : Only S a w) (n : Nat) : Only S a (w.drewN n) := ⟨h.os, h.tape, h.output, h.size, h.block⟩
theorem Only.alloc {S : List Nat} {a w : World} (h : Only S a w) (o : Obj) : Only S a (w.alloc o) :=
  h.trans ⟨rfl, rfl, rfl, by simp, fun k hk _ => Below.heap_alloc _ _ _ hk⟩
theorem Only.setCell {S : List Nat} {a w : World} (h : Only S a w) {p : Addr} (hp : p.block ∈ S ∨ a.heap.size ≤ p.block) (u : Value) : Only S a (w.setCell p u) :=
  h.then (T := [p.block]) ⟨rfl, rfl, rfl, by simp [World.setCell], fun k _ hn => Below.heap_setCell _ _ _ _ (by simpa using hn)⟩ (by simpa using hp)
theorem Only.grown {S : List Nat} {a w w' : World} {row : Option Nat} (h : Only S a w) (hg : w.grownBy w' row) (hr : ∀ k, row = some k → k ∈ S ∨ a.heap.size ≤ k) : Only S a w' :=
  h.then (T := row.toList) ⟨hg.os, hg.tape, hg.output, hg.size, fun k hk hn => hg.block k hk (fun e => hn (by rw [← e]; simp))⟩ (fun i hi => hr i (by simpa using hi))
theorem Only.below {S : List Nat} {a w : World} (h : Only S a w) {B : Nat} (hB : B ≤ a.heap.size) (hS : ∀ i, i ∈ S → B ≤ i) : Below B a w :=
  ⟨h.os, h.tape, h.output, h.size, fun k hk => h.block k (by omega) (fun hs => by have := hS k hs; omega)⟩
theorem Only.nil_below {a w : World} (h : Only [] a w) : Below a.heap.size a w := h.below (Nat.le_refl _) (by simp)
theorem Only.of_below {a w : World} (h : Below a.heap.size a w) : Only [] a w := ⟨h.os, h.tape, h.output, h.size, fun k hk _ => h.block k hk⟩
theorem Only.heap {S : List Nat} {a w : World} (h : Only S a w) {k : Nat} {o : Obj} (ho : a.heap[k]? = some o) (hk : k ∉ S) : w.heap[k]? = some o :=
  (h.block k (Array.getElem?_eq_some_iff.1 ho).1 hk).trans ho
theorem heap_lt {w : World} {g : Nat} {o : Obj} (h : w.heap[g]? = some o) : g < w.heap.size := (Array.getElem?_eq_some_iff.1 h).1
/-- The cells from an address on hold these values. -/
def CellsAt (w : World) (ad : Addr) (cs : List Value) : Prop := ∀ j v, cs[j]? = some v → w.cell? (ad.add j) = some v
section laws
variable {P : Program}
theorem cellsAt_row {w : World} {g : Nat} {cs : List Value} {t : TypeId} {fr : Nat × Nat} (h : w.heap[g]? = some (.cells cs.toArray t fr)) : CellsAt w ⟨g, 0, none⟩ cs := by
  intro j v hj
  have e : (⟨g, 0, none⟩ : Addr).add j = ⟨g, j, none⟩ := by unfold Addr.add; split <;> simp_all
  rw [e, cell_of_row w g j _ _ _ h, List.getElem?_toArray, hj]
end laws
end Go.Proofs.YtlikjknakplamaaDoor
/-! ### L -/
namespace Go.Proofs.YtlikjknakplamaaDoor
namespace L
open Go.RowKit
section
variable {P : Program} {ops : Array Oper} {Q : Exit → Act → World → Prop} {md : Region.Mode}
/-- Whatever order is picked from here on, each operation that is carried out leaves what was there. -/
def wpGrow (P : Program) (md : Region.Mode) (ops : Array Oper) (Q : Exit → Act → World → Prop) (S : List Nat) (z : Nat) : Nat → Array Bool → Act → World → Prop
  | 0, listed, a, w => Region.ready md ops listed = [] ∧ Q .normal a w
  | fuel + 1, listed, a, w =>
    (Region.ready md ops listed = [] → Q .normal a w) ∧
    ∀ i ∈ Region.ready md ops listed, wpOp P ops Q i (fun a' w' => (i = z ∨ Only S w w') ∧ wpGrow P md ops Q S z fuel (listed.setIfInBounds i true) a' w') a w
theorem wpAny_of_grow {S : List Nat} {z : Nat} : ∀ (fuel : Nat) (listed : Array Bool) (a : Act) (w : World), wpGrow P md ops Q S z fuel listed a w → wpAny P md ops Q fuel listed a w
  | 0, _, _, _, h => h
  | fuel + 1, _, _, _, h => ⟨h.1, fun i hi => wpOp_mono (fun a' w' h' => wpAny_of_grow fuel _ a' w' h'.2) (h.2 i hi)⟩
theorem yields_weaker {S T : World → Prop} {o : Oper} {v : Value} {a : Act} (h : YieldsIf P ops S o v a) (hT : ∀ w, T w → S w) : YieldsIf P ops T o v a :=
  h.imp (fun ⟨hw, hv⟩ => ⟨hw, fun w hw' => hv w (hT w hw')⟩) id
/-- z waits for all others, at most over one in between. -/
def LastOp (md : Region.Mode) (ops : Array Oper) (z : Nat) : Prop := ∀ oz, ops[z]? = some oz → ∀ k, k < ops.size → k ≠ z →
  ∃ e ∈ oz.after, Region.binds md e = true ∧ (e.on = k ∨ ∃ om, ops[e.on]? = some om ∧ ∃ e' ∈ om.after, Region.binds md e' = true ∧ e'.on = k)
/-- What was carried out waited for what was carried out. -/
def Closed (md : Region.Mode) (ops : Array Oper) (listed : Array Bool) : Prop := ∀ j oj, ops[j]? = some oj → listed.getD j false = true → ∀ e ∈ oj.after, Region.binds md e = true → listed.getD e.on false = true
theorem getD_set_mono {l : Array Bool} {j k : Nat} (h : l.getD k false = true) : (l.setIfInBounds j true).getD k false = true := by
  rw [Array.getD_eq_getD_getElem?] at h ⊢
  rw [Array.getElem?_setIfInBounds]
  split
  · split <;> simp_all
  · exact h
theorem Closed.add {listed : Array Bool} {j : Nat} (h : Closed md ops listed) (hj : j ∈ Region.ready md ops listed) : Closed md ops (listed.setIfInBounds j true) := by
  intro k ok hk hl e he hb
  by_cases hkj : j = k
  · subst hkj
    obtain ⟨_, o, ho, hall⟩ := mem_ready.1 hj
    obtain rfl := Option.some.inj (ho.symm.trans hk)
    exact getD_set_mono (hall e he hb)
  · refine getD_set_mono (h k ok hk ?_ e he hb)
    rw [Array.getD_eq_getD_getElem?, Array.getElem?_setIfInBounds, if_neg hkj] at hl
    rw [Array.getD_eq_getD_getElem?]
    exact hl
theorem wpGrow_first {S : List Nat} {z : Nat} {i : Nat} {oi : Oper} {v : Value} (hz : LastOp md ops z) (hiz : i ≠ z) (hi : ops[i]? = some oi) (hsel : ∀ (j : Nat) (o : Oper) cs b, ops[j]? = some o → o.op ≠ .select cs b)
    (hQ : ∀ c a w, Q (.panic c) (a.put oi.dst v) w → Q (.panic c) a w) :
    ∀ (fuel : Nat) (listed : Array Bool) (a : Act) (w : World), Closed md ops listed →
      (∀ j oj, ops[j]? = some oj → j ≠ i → listed.getD j true = false → (∀ e ∈ oj.after, Region.binds md e = true → e.on ≠ i) → oi.apart ops oj = true) →
      i ∈ Region.ready md ops listed → YieldsIf P ops (fun w' => Only S w w') oi v a →
      wpGrow P md ops Q S z fuel (listed.setIfInBounds i true) (a.put oi.dst v) w → wpGrow P md ops Q S z (fuel + 1) listed a w := by
  intro fuel
  induction fuel with
  | zero =>
    intro listed a w _ _ hr hy H
    refine ⟨fun h => (by rw [h] at hr; cases hr), fun j hj => ?_⟩
    by_cases hji : j = i
    · subst hji; exact hy.wpOp hi (Only.refl S w) ⟨.inr (Only.refl S w), H⟩
    · have h1 := ready_mono hj hji
      rw [H.1] at h1
      cases h1
  | succ fuel ih =>
    intro listed a w hcl hfree hr hy H
    refine ⟨fun h => (by rw [h] at hr; cases hr), fun j hj => ?_⟩
    by_cases hji : j = i
    · subst hji; exact hy.wpOp hi (Only.refl S w) ⟨.inr (Only.refl S w), H⟩
    · have h1 := H.2 j (ready_mono hj hji)
      obtain ⟨hjun, oj, hoj, hall⟩ := mem_ready.1 hj
      have hnot : ∀ e ∈ oj.after, Region.binds md e = true → e.on ≠ i := fun e he hb heq => by
        have h1 := hall e he hb
        have h0 := (mem_ready.1 hr).1
        rw [heq] at h1
        rcases Nat.lt_or_ge i listed.size with h' | h'
        · simp [h'] at h0 h1; rw [h0] at h1; cases h1
        · simp [Array.getElem?_eq_none h'] at h1
      have h2 := wpOp_putIf hoj (hfree j oj hoj hji hjun hnot) (fun cs b => hsel i oi cs b hi) (fun cs b => hsel j oj cs b hoj) hQ hy h1
      have hfree' : ∀ k ok, ops[k]? = some ok → k ≠ i → (listed.setIfInBounds j true).getD k true = false →
          (∀ e ∈ ok.after, Region.binds md e = true → e.on ≠ i) → oi.apart ops ok = true := fun k ok hk hki hun hno => by
        refine hfree k ok hk hki ?_ hno
        by_cases hjk : j = k
        · subst hjk; exact hjun
        · rw [getD_set_ne true hjk] at hun; exact hun
      have hjz : j ≠ z := by
        rintro rfl
        obtain ⟨e, he, hb, hk⟩ := hz oj hoj i (Array.getElem?_eq_some_iff.1 hi).1 hiz
        rcases hk with hk | ⟨om, hom, e', he', hb', hk⟩
        · exact hnot e he hb hk
        · have h1 := hcl e.on om hom (hall e he hb) e' he' hb'
          have h0 := (mem_ready.1 hr).1
          rw [hk] at h1
          rcases Nat.lt_or_ge i listed.size with h' | h'
          · simp [h'] at h0 h1; rw [h0] at h1; cases h1
          · simp [Array.getElem?_eq_none h'] at h1
      refine wpOp_mono (fun a' w' h3 => ⟨h3.2.1, ih (listed.setIfInBounds j true) a' w' (hcl.add hj) hfree' (ready_mono hr (Ne.symm hji)) (yields_weaker h3.1 fun w'' h => (h3.2.1.resolve_left hjz).trans h) ?_⟩) h2
      rw [Array.setIfInBounds_comm _ _ hji]
      exact h3.2.2
/-- What matters of an operation for its place: what it waits for, which temporaries it looks at, which it fills. -/
abbrev Row := List Nat × List Nat × Option Nat
def rowOf (md : Region.Mode) (ops : Array Oper) (o : Oper) : Row := ((o.after.toList.filter (Region.binds md)).map (·.on), o.looksAt ops, o.dst)
def tabOf (md : Region.Mode) (ops : Array Oper) : List Row := ops.toList.map (rowOf md ops)
def apartT (x y : Row) : Bool :=
  (match x.2.2 with
   | some d => !y.2.1.contains d && y.2.2 != some d
   | none => true) &&
  (match y.2.2 with
   | some d => !x.2.1.contains d
   | none => true)
theorem apartT_spec {x y : Oper} (h : apartT (rowOf md ops x) (rowOf md ops y) = true) : x.apart ops y = true := h
def readyT (tab : List Row) (l : List Bool) (i : Nat) : Bool :=
  !l.getD i true && (match tab[i]? with
   | some r => r.1.all fun k => l.getD k false
   | none => false)
theorem readyT_spec (l : List Bool) (i : Nat) : readyT (tabOf md ops) l i = true ↔ i ∈ Region.ready md ops l.toArray := by
  rw [mem_ready]
  unfold readyT tabOf
  have e1 : l.toArray.getD i true = l.getD i true := by simp [List.getD_eq_getElem?_getD]
  have e2 : ∀ k, l.toArray.getD k false = l.getD k false := fun k => by simp [List.getD_eq_getElem?_getD]
  rw [e1, List.getElem?_map, Array.getElem?_toList]
  cases ho : ops[i]? with
  | none => simp
  | some o =>
    simp only [Option.map_some, Bool.and_eq_true, Bool.not_eq_true', List.all_eq_true, rowOf, List.mem_map, List.mem_filter]
    constructor
    · rintro ⟨h1, h2⟩
      exact ⟨h1, o, rfl, fun e he hb => by rw [e2]; exact h2 _ ⟨e, ⟨by simpa using he, hb⟩, rfl⟩⟩
    · rintro ⟨h1, o', ho', h2⟩
      cases ho'
      refine ⟨h1, ?_⟩
      rintro k ⟨e, ⟨he, hb⟩, rfl⟩
      have := h2 e (by simpa using he) hb
      rwa [e2] at this
def freeT (tab : List Row) (l : List Bool) (i : Nat) (x : Row) : List Row → Nat → Bool
  | [], _ => true
  | y :: r, j => (j == i || l.getD j true || y.1.contains i || apartT x y) && freeT tab l i x r (j + 1)
theorem freeT_spec (tab : List Row) (l : List Bool) (i : Nat) (x : Row) : ∀ (r : List Row) (j : Nat), freeT tab l i x r j = true → ∀ k y, r[k]? = some y → j + k = i ∨ l.getD (j + k) true = true ∨ y.1.contains i = true ∨ apartT x y = true
  | [], _, _, k, y, hk => by simp at hk
  | z :: r, j, h, k, y, hk => by
    simp only [freeT, Bool.and_eq_true, Bool.or_eq_true, beq_iff_eq] at h
    cases k with
    | zero =>
      simp at hk
      subst hk
      rcases h.1 with ((h1 | h1) | h1) | h1
      · exact .inl (by omega)
      · exact .inr (.inl (by simpa using h1))
      · exact .inr (.inr (.inl h1))
      · exact .inr (.inr (.inr h1))
    | succ k =>
      have := freeT_spec tab l i x r (j + 1) h.2 k y (by simpa using hk)
      rwa [show j + 1 + k = j + (k + 1) by omega] at this
def aloneT (tab : List Row) (l : List Bool) (i n : Nat) : Bool := (List.range n).all fun j => j == i || !readyT tab l j
/-- The numbers in the order in which they are taken; beside each: may it be taken first? does it come up alone? -/
def lastT (tab : List Row) (n z : Nat) : Bool := match tab[z]? with
  | some r => (List.range n).all fun k => k == z || r.1.any fun m => m == k || (match tab[m]? with | some q => q.1.contains k | none => false)
  | none => true
theorem tab_get {z : Nat} {oz : Oper} (hoz : ops[z]? = some oz) : (tabOf md ops)[z]? = some (rowOf md ops oz) := by unfold tabOf; rw [List.getElem?_map, Array.getElem?_toList, hoz]; rfl
theorem row_has {oz : Oper} {k : Nat} (h : k ∈ (rowOf md ops oz).1) : ∃ e ∈ oz.after, Region.binds md e = true ∧ e.on = k := by
  simp only [rowOf, List.mem_map, List.mem_filter] at h
  obtain ⟨e, ⟨he, hb⟩, heq⟩ := h
  exact ⟨e, by simpa using he, hb, heq⟩
theorem lastT_spec {z : Nat} (h : lastT (tabOf md ops) ops.size z = true) : LastOp md ops z := by
  intro oz hoz k hk hkz
  unfold lastT at h
  rw [tab_get hoz] at h
  simp only [List.all_eq_true, List.mem_range, Bool.or_eq_true, beq_iff_eq, List.any_eq_true] at h
  obtain ⟨m, hm, h2⟩ := (h k hk).resolve_left hkz
  obtain ⟨e, he, hb, rfl⟩ := row_has hm
  refine ⟨e, he, hb, ?_⟩
  rcases h2 with h2 | h2
  · exact .inl h2
  · cases ho : ops[e.on]? with
    | none =>
      have : (tabOf md ops)[e.on]? = none := by unfold tabOf; rw [List.getElem?_map, Array.getElem?_toList, ho]; rfl
      rw [this] at h2
      cases h2
    | some om =>
      rw [tab_get ho] at h2
      obtain ⟨e', he', hb', h3⟩ := row_has (List.contains_iff_mem.1 h2)
      exact .inr ⟨om, rfl, e', he', hb', h3⟩
def rowsT (tab : List Row) (n z : Nat) : List (Nat × Bool × Bool) → List Bool → Bool
  | [], l => (List.range n).all fun j => !readyT tab l j
  | (i, f, c) :: r, l =>
    readyT tab l i && (!f || (i != z && (match tab[i]? with | some x => freeT tab l i x tab 0 | none => false))) && (!c || aloneT tab l i n) && rowsT tab n z r (l.set i true)
/-- The walk through a region in one order. -/
def GrowL (P : Program) (ops : Array Oper) (Q : Exit → Act → World → Prop) (S : List Nat) (z : Nat) : List (Nat × Bool × Bool) → Act → World → Prop
  | [], a, w => Q .normal a w
  | (i, f, c) :: r, a, w => ∃ oi, ops[i]? = some oi ∧
      ((f = true ∧ ∃ v, YieldsIf P ops (fun w' => Only S w w') oi v a ∧ GrowL P ops Q S z r (a.put oi.dst v) w) ∨
       (c = true ∧ Region.wanted oi (yielded ops a.tmps) = true ∧ oi.wp P a w (fun a' w' => (i = z ∨ Only S w w') ∧ GrowL P ops Q S z r a' w') Q))
theorem ready_lt {l : Array Bool} {j : Nat} (h : j ∈ Region.ready md ops l) : j < ops.size := by
  obtain ⟨_, o, ho, _⟩ := mem_ready.1 h
  exact (Array.getElem?_eq_some_iff.1 ho).1
theorem grow_of_rows {S : List Nat} {z : Nat} (hz : LastOp md ops z) (hsel : Region.noSelect ops = true) (hQ : ∀ c (a : Act) d v w, Q (.panic c) (a.put d v) w → Q (.panic c) a w) :
    ∀ (T : List (Nat × Bool × Bool)) (l : List Bool), rowsT (tabOf md ops) ops.size z T l = true → Closed md ops l.toArray → ∀ a w, GrowL P ops Q S z T a w → wpGrow P md ops Q S z T.length l.toArray a w
  | [], l, hT, _, a, w, h => by
    refine ⟨?_, h⟩
    rw [List.eq_nil_iff_forall_not_mem]
    intro j hj
    simp only [rowsT, List.all_eq_true, List.mem_range, Bool.not_eq_true'] at hT
    have := hT j (ready_lt hj)
    rw [(readyT_spec l j).2 hj] at this
    cases this
  | (i, f, c) :: r, l, hT, hcl, a, w, h => by
    simp only [rowsT, Bool.and_eq_true, Bool.or_eq_true, Bool.not_eq_true'] at hT
    obtain ⟨⟨⟨hrd, hf⟩, hc⟩, hr⟩ := hT
    obtain ⟨oi, hi, h⟩ := h
    have hcl' : Closed md ops (l.set i true).toArray := by
      have := hcl.add ((readyT_spec l i).1 hrd)
      simpa using this
    have hset : l.toArray.setIfInBounds i true = (l.set i true).toArray := by simp
    rcases h with ⟨hft, v, hy, hg⟩ | ⟨hct, hw, hwp⟩
    · have hfr := hf.resolve_left (by rw [hft]; simp)
      have htab : (tabOf md ops)[i]? = some (rowOf md ops oi) := by unfold tabOf; rw [List.getElem?_map, Array.getElem?_toList, hi]; rfl
      rw [htab] at hfr
      simp only [bne_iff_ne, ne_eq] at hfr
      refine wpGrow_first hz hfr.1 hi (Region.noSelect_spec hsel) (fun c a w => hQ c a _ _ w) r.length _ a w hcl (fun j oj hj hne hun hno => ?_) ((readyT_spec l i).1 hrd) hy ?_
      · have htj : (tabOf md ops)[j]? = some (rowOf md ops oj) := by unfold tabOf; rw [List.getElem?_map, Array.getElem?_toList, hj]; rfl
        have hl : l.getD j true = false := by simpa [List.getD_eq_getElem?_getD] using hun
        rcases freeT_spec _ l i _ _ 0 hfr.2 j _ htj with h1 | h1 | h1 | h1
        · exact absurd (by omega) hne
        · rw [Nat.zero_add, hl] at h1; cases h1
        · exfalso
          simp only [rowOf, List.contains_iff_mem, List.mem_map, List.mem_filter] at h1
          obtain ⟨e, ⟨he, hb⟩, heq⟩ := h1
          exact hno e (by simpa using he) hb heq
        · exact apartT_spec h1
      · rw [hset]
        exact grow_of_rows hz hsel hQ r _ hr hcl' _ _ hg
    · have hal := hc.resolve_left (by rw [hct]; simp)
      refine ⟨fun h0 => ?_, fun j hj => ?_⟩
      · have := (readyT_spec l i).1 hrd
        rw [h0] at this
        cases this
      · have hji : j = i := by
          simp only [aloneT, List.all_eq_true, List.mem_range, Bool.or_eq_true, beq_iff_eq, Bool.not_eq_true'] at hal
          rcases hal j (ready_lt hj) with h1 | h1
          · exact h1
          · rw [(readyT_spec l j).2 hj] at h1; cases h1
        subst hji
        rw [hset]
        unfold wpOp
        simp only [hi, hw, if_true]
        exact .inl (Oper.wp_mono (fun a' w' h => ⟨h.1, grow_of_rows hz hsel hQ r _ hr hcl' _ _ h.2⟩) hwp)
/-- The beginning. -/
theorem grow_start (S : List Nat) (z : Nat) (T : List (Nat × Bool × Bool)) {id : Nat} {a : Act} {w : World} (hm : P.follows .mixedOrders = true)
    (tab : List Row) (htab : tabOf .any ops = tab) (hs : Region.noSelect ops = true) {n : Nat} (hn : ops.size = n) (hT : (lastT tab n z && rowsT tab n z T (List.replicate n false) && T.length == n) = true)
    (hQ : ∀ c (a : Act) t v w, Q (.panic c) (a.put (some t) v) w → Q (.panic c) a w)
    (h : ∀ w1, Only [] w w1 → GrowL P ops Q S z T a w1) : (Code.region id ops true).wp P Q a w := by
  subst htab
  subst hn
  simp only [Bool.and_eq_true, beq_iff_eq] at hT
  obtain ⟨⟨h2, h1⟩, h3⟩ := hT
  have ho : Only [] w { w with drawn := w.drawn + 1 } := ⟨rfl, rfl, rfl, Nat.le_refl _, fun _ _ _ => rfl⟩
  refine wp_region_any hm (wpAny_of_grow (S := S) (z := z) _ _ _ _ ?_)
  have := grow_of_rows (S := S) (z := z) (lastT_spec h2) hs (fun c a d v w h => by cases d with | none => exact h | some t => exact hQ c a t v w h) T _ h1 (fun j oj _ hl => by exfalso; rw [Array.getD_eq_getD_getElem?, List.getElem?_toArray, List.getElem?_replicate] at hl; split at hl <;> simp at hl) a _ (h _ ho)
  rw [h3, List.toArray_replicate] at this
  exact this
section
variable {S : List Nat} {z : Nat} {i : Nat} {f c : Bool} {oi : Oper} {r : List (Nat × Bool × Bool)} {a : Act} {w : World}
theorem growl_off (hi : ops[i]? = some oi) (hw : Region.wanted oi (yielded ops a.tmps) = false) (h : GrowL P ops Q S z r (a.put oi.dst undef) w) : GrowL P ops Q S z ((i, true, c) :: r) a w :=
  ⟨oi, hi, .inl ⟨rfl, _, .inr ⟨hw, rfl⟩, h⟩⟩
theorem growl_on {v : Value} (hi : ops[i]? = some oi) (hw : Region.wanted oi (yielded ops a.tmps) = true) (hy : ∀ w', Only S w w' → (execOp a.eval oi).run P w' = .ok (.value v) w')
    (h : GrowL P ops Q S z r (a.put oi.dst v) w) : GrowL P ops Q S z ((i, true, c) :: r) a w :=
  ⟨oi, hi, .inl ⟨rfl, _, .inl ⟨hw, hy⟩, h⟩⟩
theorem growl_alone (hi : ops[i]? = some oi) (hw : Region.wanted oi (yielded ops a.tmps) = true) (h : oi.wp P a w (fun a' w' => (i = z ∨ Only S w w') ∧ GrowL P ops Q S z r a' w') Q) : GrowL P ops Q S z ((i, f, true) :: r) a w :=
  ⟨oi, hi, .inr ⟨rfl, hw, h⟩⟩
end
def lk : List (Nat × Value) → Nat → Option Value
  | [], _ => none
  | (t, v) :: r, k => if k = t then some v else lk r k
def puts (a : Act) : List (Nat × Value) → Act
  | [] => a
  | (t, v) :: r => (puts a r).put (some t) v
def evE (a : Act) (env : List (Nat × Value)) : Operand → Value
  | .tmp t => match lk env t with
    | some v => v
    | none => a.eval (.tmp t)
  | x => a.eval x
theorem puts_size (a : Act) : ∀ env, (puts a env).tmps.size = a.tmps.size
  | [] => rfl
  | (t, v) :: r => by simp [puts, Act.put, puts_size a r]
theorem puts_get (a : Act) (k : Nat) : ∀ env : List (Nat × Value), (∀ p ∈ env, p.1 < a.tmps.size) → (puts a env).tmps[k]? = (lk env k).or a.tmps[k]?
  | [], _ => by simp [puts, lk]
  | (t, v) :: r, h => by
    have ht : t < a.tmps.size := h (t, v) (by simp)
    have ih := puts_get a k r (fun p hp => h p (by simp [hp]))
    show ((puts a r).tmps.setIfInBounds t v)[k]? = _
    rw [Array.getElem?_setIfInBounds]
    by_cases hk : t = k
    · subst hk
      rw [if_pos rfl, if_pos (by rw [puts_size]; exact ht)]
      simp [lk]
    · rw [if_neg hk, ih]
      simp [lk, Ne.symm hk]
theorem puts_eval (a : Act) (env : List (Nat × Value)) (h : ∀ p ∈ env, p.1 < a.tmps.size) : (puts a env).eval = evE a env := by
  funext x
  cases x with
  | tmp t =>
    show (puts a env).tmps.getD t undef = evE a env (.tmp t)
    rw [Array.getD_eq_getD_getElem?, puts_get a t env h]
    simp only [evE]
    cases hl : lk env t with
    | none => simp [Act.eval]
    | some v => simp
  | _ => rfl
/-- Is the operation carried out? -/
def wantE (ops : Array Oper) (env : List (Nat × Value)) (o : Oper) : Option Bool :=
  match o.guard with
  | none => some true
  | some (j, want) => match (ops[j]?).bind (·.dst) with
    | none => none
    | some d => match lk env d with
      | some (.bool b) => some (b == want)
      | some .nilIface => none
      | some (.tuple _) => some false
      | _ => none
theorem wantE_spec {env : List (Nat × Value)} {o : Oper} {b : Bool} (a : Act) (h : ∀ p ∈ env, p.1 < a.tmps.size) (hw : wantE ops env o = some b) : Region.wanted o (yielded ops (puts a env).tmps) = b := by
  unfold wantE at hw
  unfold Region.wanted
  cases hg : o.guard with
  | none => rw [hg] at hw; simpa using hw
  | some p =>
    obtain ⟨j, want⟩ := p
    rw [hg] at hw
    simp only at hw ⊢
    unfold yielded
    cases hd : (ops[j]?).bind (·.dst) with
    | none => rw [hd] at hw; cases hw
    | some d =>
      rw [hd] at hw
      simp only [Option.bind_some] at hw ⊢
      rw [puts_get a d env h]
      cases hl : lk env d with
      | none => rw [hl] at hw; simp at hw
      | some v =>
        rw [hl] at hw
        cases v <;> simp at hw ⊢ <;> simp [hw]
/-- The walk at a frame of which these temporaries were filled in the region. -/
def GrowE (P : Program) (ops : Array Oper) (Q : Exit → Act → World → Prop) (S : List Nat) (z : Nat) (T : List (Nat × Bool × Bool)) (a : Act) (N : Nat) (env : List (Nat × Value)) (w : World) : Prop :=
  a.tmps.size = N → (∀ p ∈ env, p.1 < N) → GrowL P ops Q S z T (puts a env) w
theorem growe_start {S : List Nat} {z : Nat} {T : List (Nat × Bool × Bool)} {a : Act} {w : World} {N : Nat} (hN : a.tmps.size = N) (h : GrowE P ops Q S z T a N [] w) : GrowL P ops Q S z T a w :=
  h hN (by simp)
theorem more_lt {d N : Nat} {v : Value} {env : List (Nat × Value)} (hd : d < N) (he : ∀ p ∈ env, p.1 < N) : ∀ p ∈ (d, v) :: env, p.1 < N := by
  intro p hp
  rcases List.mem_cons.1 hp with rfl | hp
  · exact hd
  · exact he p hp
section
variable {S : List Nat} {z : Nat} {i : Nat} {f c : Bool} {oi : Oper} {d : Nat} {T : List (Nat × Bool × Bool)} {a : Act} {w : World} {N : Nat} {env : List (Nat × Value)}
theorem ge_off (hi : ops[i]? = some oi) (hdst : oi.dst = some d) (hd : decide (d < N) = true) (hw : wantE ops env oi = some false) (h : GrowE P ops Q S z T a N ((d, undef) :: env) w) : GrowE P ops Q S z ((i, true, c) :: T) a N env w := by
  intro hN he
  subst hN
  refine growl_off hi (wantE_spec a he hw) ?_
  rw [hdst]
  exact h rfl (more_lt (of_decide_eq_true hd) he)
theorem ge_val {v : Value} (hi : ops[i]? = some oi) (hdst : oi.dst = some d) (hd : decide (d < N) = true) (hw : wantE ops env oi = some true) (hy : ∀ w', Only S w w' → (execOp (evE a env) oi).run P w' = .ok (.value v) w')
    (h : GrowE P ops Q S z T a N ((d, v) :: env) w) : GrowE P ops Q S z ((i, true, c) :: T) a N env w := by
  intro hN he
  subst hN
  refine growl_on hi (wantE_spec a he hw) (by rw [puts_eval a env he]; exact hy) ?_
  rw [hdst]
  exact h rfl (more_lt (of_decide_eq_true hd) he)
/-- What an operation copies. -/
def copies : Op → Option Operand
  | .move x | .assign x => some x
  | _ => none
theorem ge_move {v : Value} {x : Operand} (hi : ops[i]? = some oi) (hdst : oi.dst = some d) (hd : decide (d < N) = true) (hw : wantE ops env oi = some true) (hx : copies oi.op = some x) (hv : evE a env x = v)
    (h : GrowE P ops Q S z T a N ((d, v) :: env) w) : GrowE P ops Q S z ((i, true, c) :: T) a N env w := by
  refine ge_val hi hdst hd hw (fun w' _ => ?_) h
  subst hv
  unfold copies at hx
  unfold execOp
  split at hx
  · cases hx; rename_i heq; rw [heq]; rfl
  · cases hx; rename_i heq; rw [heq]; rfl
  · cases hx
theorem ge_pick {b : Bool} {v : Value} {x y y2 : Operand} (hi : ops[i]? = some oi) (hdst : oi.dst = some d) (hd : decide (d < N) = true) (hw : wantE ops env oi = some true) (hx : oi.op = .pick x y y2) (hb : evE a env x = .bool b)
    (hv : (if b = true then evE a env y else evE a env y2) = v) (h : GrowE P ops Q S z T a N ((d, v) :: env) w) : GrowE P ops Q S z ((i, true, c) :: T) a N env w := by
  refine ge_val hi hdst hd hw (fun w' _ => ?_) h
  subst hv
  unfold execOp
  rw [hx]
  simp only [hb, asBool]
  cases b <;> rfl
/-- A call of a Go function, that comes up alone. -/
theorem ge_call {g : FuncId} {xs : Array Operand} {tys : Array TypeId} {vs : Array Value} (hi : ops[i]? = some oi) (hdst : oi.dst = some d) (hd : decide (d < N) = true) (hw : wantE ops env oi = some true)
    (hx : oi.op = .call { callee := .value (.func g), args := xs, argTypes := tys }) (hvs : xs.map (evE a env) = vs) (hcf : (callFunc g vs).run P w = .ok (.enter g vs) w)
    (h : Calls P g vs w fun e w' => ∃ v, e = .returned v ∧ Only S w w' ∧ GrowE P ops Q S z T a N ((d, v) :: env) w') : GrowE P ops Q S z ((i, f, true) :: T) a N env w := by
  intro hN he
  subst hN
  refine growl_alone hi (wantE_spec a he hw) ?_
  unfold Oper.wp execOp
  rw [puts_eval a env he, hx]
  have hr : (do let d ← resolve (evE a env) { callee := .value (.func g), args := xs, argTypes := tys } oi.type; invoke d.target d.args).run P w = .ok (.enter g vs) w := by
    simp only [resolve, Sem.run_bind, hvs]
    have e1 : (evE a env (.func g)) = .func (.func g) #[] #[] := rfl
    rw [e1]
    simp only [Deferred.ofValue]
    simp [invoke, hcf]
  rw [hr]
  simp only [Oper.upon]
  refine Calls.mono h fun e w' ⟨v, he', ho, hg⟩ => ?_
  subst he'
  refine ⟨.inr ho, ?_⟩
  rw [hdst]
  exact hg rfl (more_lt (of_decide_eq_true hd) he)
/-- An operation that makes memory and comes up alone. -/
theorem ge_mem {v : Value} {w' : World} (hi : ops[i]? = some oi) (hdst : oi.dst = some d) (hd : decide (d < N) = true) (hw : wantE ops env oi = some true) (hy : (execOp (evE a env) oi).run P w = .ok (.value v) w')
    (ho : Only S w w') (h : GrowE P ops Q S z T a N ((d, v) :: env) w') : GrowE P ops Q S z ((i, f, true) :: T) a N env w := by
  intro hN he
  subst hN
  refine growl_alone hi (wantE_spec a he hw) ?_
  unfold Oper.wp
  rw [puts_eval a env he, hy]
  simp only [Oper.upon]
  refine ⟨.inr ho, ?_⟩
  rw [hdst]
  exact h rfl (more_lt (of_decide_eq_true hd) he)
/-- The operation that waits for all others. -/
theorem ge_last {w' : World} (hi : ops[z]? = some oi) (hdst : oi.dst = none) (hw : wantE ops env oi = some true) (hy : (execOp (evE a env) oi).run P w = .ok .skip w')
    (h : Q .normal (puts a env) w') : GrowE P ops Q S z ((z, f, true) :: []) a N env w := by
  intro hN he
  subst hN
  refine growl_alone hi (wantE_spec a he hw) ?_
  unfold Oper.wp
  rw [puts_eval a env he, hy]
  simp only [Oper.upon]
  refine ⟨.inl trivial, ?_⟩
  rw [hdst]
  exact h
theorem ge_done (h : Q .normal (puts a env) w) : GrowE P ops Q S z [] a N env w := fun _ _ => h
end
end
end L
/-- A slice of the call's own stays what it is. -/
theorem ownsRow_only {w w' : World} {base : Nat} {e : TypeId} {size : Nat} {v : Value} {n : Nat} {xs : List Value} {S : List Nat} (h : w.ownsRow base e size v n xs) (ho : Only S w w') (hS : ∀ k, v.ownBlock = some k → k ∉ S) : w'.ownsRow base e size v n xs := by
  refine ⟨h.1, ?_⟩
  rcases h.2 with hn | ⟨g, cap, cur, hv, hb, hg, rest⟩
  · exact .inl hn
  · exact .inr ⟨g, cap, cur, hv, hb, ho.heap hg (hS g (by rw [hv]; rfl)), rest⟩
end Go.Proofs.YtlikjknakplamaaDoor
/-! ### A -/
namespace Go.Proofs.YtlikjknakplamaaDoor
open Go.RowKit
section
variable {P : Program}
theorem run_append_row (w : World) (t ty : TypeId) (base : Nat) (e : TypeId) (size bytes : Nat) (z : Value) (ht : P.underlying t = some (.slice e)) (hinfo : (P.info? e).map (fun i => (i.zero, i.size, i.bytes)) = some (some z, size, bytes))
    (hzs : z.cells.size = size) (hsz : 0 < size) (v : Value) (n : Nat) (xs : List Value) (hown : w.ownsRow base e size v n xs)
    (A : Option Addr) (m c : Nat) (news : List Value) (hl : news.length = m * size) (hA : 0 < m → ∃ ad, A = some ad ∧ CellsAt w ad news) (h1 : ∀ u ∈ news, u.oneCell' = true)
    (h63 : n + m ≤ maxLen) (hbytes : (n + m) * bytes ≤ 140737488355328) (hbase : base ≤ w.heap.size) :
    ∃ A' c' w', (Builtin.append_ #[t, t] ty #[v, .slice A m c]).run P w = .ok (.slice A' (n + m) c') w' ∧ w'.ownsRow base e size (.slice A' (n + m) c') (n + m) (xs ++ news) ∧ Only v.ownBlock.toList w w' ∧
      (∀ k, (Value.slice A' (n + m) c').ownBlock = some k → v.ownBlock = some k ∨ w.heap.size ≤ k) := by
  obtain ⟨i, h2, h3, h4, h5⟩ := info_parts hinfo
  rcases Nat.eq_zero_or_pos m with hm | hm
  · subst hm
    obtain rfl : news = [] := List.eq_nil_of_length_eq_zero (by omega)
    rw [List.append_nil, Nat.add_zero]
    rcases hown.2 with ⟨rfl, rfl⟩ | ⟨g, cap, cur, rfl, hb, hg, hnc, _⟩
    · refine ⟨none, 0, w, ?_, hown, Only.refl _ _, fun k hk => .inl hk⟩
      cases A <;> simp [Builtin.append_, run_underlying ht, sizeOf, typeInfo, h2, Builtin.lenOf, Builtin.firstCells, loadCells, loadCellsFrom]
    · refine ⟨_, _, w, ?_, hown, Only.refl _ _, fun k hk => .inl hk⟩
      cases A <;> simp [Builtin.append_, run_underlying ht, sizeOf, typeInfo, h2, Builtin.lenOf, Builtin.firstCells, loadCells, loadCellsFrom, storeCells, hnc]
  · obtain ⟨ad, rfl, hc⟩ := hA hm
    obtain ⟨g, cap, w', hr, h6, h7, h8, h9⟩ := run_append_lies (P := P) w t ty base e i z size bytes ht h2 h3 h4 h5 hzs hsz v n xs hown ad m c news hl hc h1 hm h63 hbytes hbase _ rfl
    refine ⟨_, _, w', hr, h6, (Only.refl _ _).grown h7 (fun k hk => .inl (by rw [hk]; simp)), fun k hk => ?_⟩
    obtain rfl : g = k := by simpa [Value.ownBlock] using hk
    exact h8.imp id (fun h => by omega)
/-- The same in a region that draws its order. -/
theorem ge_append_row {ops : Array Oper} {Q : Exit → Act → World → Prop} {S : List Nat} {z9 : Nat} {i : Nat} {f : Bool} {oi : Oper} {d : Nat} {T : List (Nat × Bool × Bool)} {a : Act} {w : World} {N : Nat} {env : List (Nat × Value)}
    (hi : ops[i]? = some oi) (hdst : oi.dst = some d) (hd : decide (d < N) = true) (hw : L.wantE ops env oi = some true) (s x : Operand) (t : TypeId)
    (ho : oi.op = .call { callee := .builtin .append, args := #[s, x], argTypes := #[t, t] })
    (base : Nat) (e : TypeId) (size bytes : Nat) (z : Value) (ht : P.underlying t = some (.slice e)) (hinfo : (P.info? e).map (fun i => (i.zero, i.size, i.bytes)) = some (some z, size, bytes))
    (hzs : z.cells.size = size) (hsz : 0 < size) (v : Value) (n : Nat) (xs : List Value) (hs : L.evE a env s = v) (hown : w.ownsRow base e size v n xs)
    (A : Option Addr) (m c : Nat) (news : List Value) (hx : L.evE a env x = .slice A m c) (hl : news.length = m * size) (hA : 0 < m → ∃ ad, A = some ad ∧ CellsAt w ad news) (h1 : ∀ u ∈ news, u.oneCell' = true)
    (h63 : n + m ≤ maxLen) (hbytes : (n + m) * bytes ≤ 140737488355328) (hbase : base ≤ w.heap.size)
    (h : ∀ A' c' w', w'.ownsRow base e size (.slice A' (n + m) c') (n + m) (xs ++ news) → Only v.ownBlock.toList w w' → (∀ k, (Value.slice A' (n + m) c').ownBlock = some k → v.ownBlock = some k ∨ w.heap.size ≤ k) →
      Only S w w' ∧ L.GrowE P ops Q S z9 T a N ((d, .slice A' (n + m) c') :: env) w') : L.GrowE P ops Q S z9 ((i, f, true) :: T) a N env w := by
  obtain ⟨A', c', w', hr, h2, h3, h4⟩ := run_append_row (P := P) w t oi.type base e size bytes z ht hinfo hzs hsz v n xs hown A m c news hl hA h1 h63 hbytes hbase
  obtain ⟨h5, h6⟩ := h A' c' w' h2 h3 h4
  refine L.ge_mem hi hdst hd hw (w' := w') ?_ h5 h6
  unfold execOp
  simp only [ho, resolve, invoke, builtin, Sem.run_bind, Sem.run_pure, Result.andThen_ok, List.map_toArray, List.map_cons, List.map_nil, hs, hx, hr]
end
end Go.Proofs.YtlikjknakplamaaDoor
/-! ### Own -/
namespace Go.Proofs.YtlikjknakplamaaDoor
open Go.RowKit
set_option linter.unusedSimpArgs false
set_option linter.unusedVariables false
theorem ownsRow_lt {w : World} {base : Nat} {e : TypeId} {size : Nat} {v : Value} {n : Nat} {xs : List Value} (h : w.ownsRow base e size v n xs) {k : Nat} (hk : v.ownBlock = some k) : base ≤ k ∧ k < w.heap.size := by
  rcases h.2 with ⟨rfl, _⟩ | ⟨g, cap, cur, rfl, hb, hg, _⟩
  · cases hk
  · obtain rfl : g = k := by simpa [Value.ownBlock] using hk
    exact ⟨hb, heap_lt hg⟩
theorem ownsRow_nil (w : World) (base : Nat) (e : TypeId) (size : Nat) : w.ownsRow base e size (.slice none 0 0) 0 [] := ⟨by simp, .inl ⟨rfl, rfl⟩⟩
section
variable {P : Program}
section region
variable {ops : Array Oper} {Q : Exit → Act → World → Prop} {S : List Nat} {z9 : Nat} {i : Nat} {f : Bool} {oi : Oper} {d : Nat} {T : List (Nat × Bool × Bool)} {a : Act} {w : World} {N : Nat} {env : List (Nat × Value)}
/-- []T{x} -/
theorem ge_one (hi : ops[i]? = some oi) (hdst : oi.dst = some d) (hd : decide (d < N) = true) (hw : L.wantE ops env oi = some true) (t : TypeId) (x : Operand) (hop : oi.op = .buildSlice t 1 #[(0, x)]) (e : TypeId) (ht : P.underlying t = some (.slice e))
    (z : Value) (size bytes : Nat) (hinfo : (P.info? e).map (fun i => (i.zero, i.size, i.bytes)) = some (some z, size, bytes)) (hs0 : 0 < size) (hs1 : size ≤ 1000) (cells : Array Value)
    (hfill : Instr.fill (fun i => some (i * size, size)) ((Array.range (1 * size)).map (z.cells[· % z.cells.size]!)) [(0, L.evE a env x)] = some cells)
    (h : L.GrowE P ops Q S z9 T a N ((d, .slice (some ⟨w.heap.size, 0, none⟩) 1 1) :: env) (w.alloc (.cells cells e))) : L.GrowE P ops Q S z9 ((i, f, true) :: T) a N env w := by
  obtain ⟨ie, h2, h3, h4, h5⟩ := info_parts hinfo
  subst h4
  refine L.ge_mem hi hdst hd hw (w' := w.alloc (.cells cells e)) ?_ ((Only.refl _ _).alloc _) h
  have := run_buildSlice (P := P) w t e 1 #[(0, L.evE a env x)] cells ie z ht h2 h3 (by omega) (by omega) hfill
  unfold execOp
  simp [hop, this]
end region
end
end Go.Proofs.YtlikjknakplamaaDoor
/-! ### Kd -/
namespace Go.Proofs.YtlikjknakplamaaDoor
open Go.RowKit Go.Proofs.YtlikjknakplamaaDoorW.PrintWords
theorem Kd.C_cells {α : Type} {d : Kd α} {w : World} {A : Option Addr} {n : Nat} {xs : List α} (h : Kd.C d w A n xs) (k : Nat) (hk : k < xs.length) :
    ∃ ad cs, A = some ad ∧ cs.length = d.sz ∧ d.K w xs[k] cs ∧ CellsAt w (ad.add (k * d.sz)) cs := by
  have hn := h.1
  obtain ⟨ad, he, hc⟩ := h.2.2 (by omega)
  obtain ⟨c, h1, h2, h3⟩ := hc k _ (List.getElem?_eq_getElem hk)
  refine ⟨ad, c, he, h1, h2, fun j v hj => ?_⟩
  rw [Go.Deep.add_add]
  exact h3 j v hj
theorem getD_at {α : Type} (xs : List α) (z : α) (k : Nat) (hk : k < xs.length) : xs.getD ((k : Int)).toNat z = xs[k] := by
  rw [Int.toNat_natCast, List.getD_eq_getElem?_getD, List.getElem?_eq_getElem hk]
  rfl
/-- What was made of the cells of a row of flat values is a row of one's own. -/
theorem Kd.R_of_own {α : Type} {d : Kd α} {e : Nat} {w w' : World} {base : Nat} {xs : List α} {news : List Value} {v : Value} (hM : ∀ x cs, d.K w x cs → d.M w' base (fun k => True ∧ some k ≠ v.ownBlock) x cs) (hr : Reps (d.K w) d.sz xs news)
    (ho : w'.ownsRow base e d.sz v xs.length news) : Kd.R d e w' base (fun _ => True) v xs := ⟨fun _ _ => trivial, news, ho, hr.imp_ hM⟩
end Go.Proofs.YtlikjknakplamaaDoor
/-! ### ELx1 -/
namespace Go.Proofs.YtlikjknakplamaaDoor.Print
open Go.RowKit Go.Proofs.YtlikjknakplamaaDoorW.PrintWords Go.Proofs.YtlikjknakplamaaDoorW.PrintLast Go.Proofs.YtlikjknakplamaaDoorW.PrintMore
set_option linter.unusedSimpArgs false
set_option linter.unusedVariables false
/-- A cutter's block: what is left, how many runes stand ahead, and its tokens. -/
abbrev CutAt (w : World) (g : Nat) (s : ByteArray) (at' : Int) (o : Value) : Prop := w.heap[g]? = some (.cells #[.string s, .int .i64 at', o] 47 (0, 0))
set_option maxHeartbeats 8000000 in
set_option maxRecDepth 100000 in
theorem pass_any (g n : Nat) (s : ByteArray) (at' : Int) (o : Value) (w : World) (hg : CutAt w g s at' o) (hs : s.size ≤ 1000000000) (hn : n ≤ s.size) (h0 : 0 ≤ at') (h1 : at' ≤ 1000000000) :
    Calls Tryd.prog 31 #[.pointer (some ⟨g, 0, none⟩), .int .i64 n] w fun e w' => e = .returned (.tuple #[]) ∧ CutAt w' g (s.extract n s.size) (at' + Lib.runeCount (s.extract 0 n)) o ∧ Only [g] w w' := by
  have HG := Lib.hid hg
  have hn' : (n : Int) ≤ s.size := by omega
  have hn0 : (0 : Int) ≤ n := by omega
  have hu2 := Tryd.underlying47
  have hrc : Lib.runeCount (s.extract 0 n) ≤ 1000000000 := by
    have := Lib.runeCount_le (s.extract 0 n)
    rw [ByteArray.size_extract] at this
    omega
  have HRC := Lib.hid hrc
  clear hg hrc
  go_enter Tryd.func31, Tryd.ntmps31
  go_wp2
  refine L.grow_start [] 14 ((0, true, false) :: (1, true, false) :: (2, true, false) :: (3, true, false) :: (4, true, false) :: (5, true, false) :: (6, true, false) :: (7, true, false) :: (8, true, true) :: (9, true, true) :: (10, false, true) :: (11, true, true) :: (12, true, true) :: (13, true, true) :: (14, false, true) :: []) (by kernel_rfl) (([], [0], some 4) :: ([0], [4], some 5) :: ([1], [5], some 6) :: ([2], [6], some 7) :: ([], [0], some 8) :: ([4], [8], some 9) :: ([5], [9], some 10) :: ([6], [10], some 11) :: ([], [1], some 12) :: ([7, 8], [11, 12], some 13) :: ([9], [13], some 14) :: ([3, 10], [7, 14], some 15) :: ([0, 0, 1, 2, 3, 4, 5, 6, 7, 8, 9, 10, 11], [4], some 16) :: ([12, 0, 1, 2, 3, 4, 5, 6, 7, 8, 9, 10, 11], [16], some 17) :: ([13, 11, 10, 0, 1, 2, 3, 4, 5, 6, 7, 8, 9, 10, 11], [17, 15], none) :: []) (by kernel_rfl) (by kernel_rfl) (n := 15) rfl (by kernel_rfl) (fun _ _ _ _ _ h => h) (fun wg hog => ?_)
  refine L.growe_start (N := 27) (by rfl) ?_
  have e0 : ∀ w', Only [] wg w' → w'.cell? ⟨g, 0, none⟩ = some (.string s) := fun w' q => (cell_of_row w' g 0 _ _ _ ((hog.trans q).heap HG.out (by simp))).trans rfl
  have e1 : ∀ w', Only [] wg w' → w'.cell? ⟨g, 1, none⟩ = some (.int .i64 at') := fun w' q => (cell_of_row w' g 1 _ _ _ ((hog.trans q).heap HG.out (by simp))).trans rfl
  have HOG := Lib.hid hog
  clear hog
  iterate 10 (first | (refine L.ge_off rfl rfl rfl (by rfl) ?_) | (refine L.ge_move rfl rfl rfl (by rfl) rfl (by simp [L.evE, L.lk, Act.eval]; rfl) ?_) | (refine L.ge_pick rfl rfl rfl (by rfl) rfl (by simp [L.evE, L.lk, Act.eval]; rfl) (by simp [L.evE, L.lk, Act.eval]; rfl) ?_) | (refine L.ge_val rfl rfl rfl (by rfl) (by intro w' hw'; simp [execOp, L.evE, L.lk, Act.eval]; go_simp; rfl) ?_))
  refine L.ge_call rfl rfl rfl (by rfl) rfl (by simp [L.evE, L.lk, Act.eval]; rfl) (by go_simp) ?_
  refine (utf8_RuneCountInString.calls _ _ wg (by unfold utf8_RuneCountInString.f; rw [if_pos (by rw [ByteArray.size_extract]; omega)])).mono ?_
  rintro e w1 ⟨rfl, hb1⟩
  refine ⟨_, rfl, Only.of_below hb1, ?_⟩
  have HO1 := Lib.hid (HOG.out.trans (Only.of_below hb1))
  clear hb1 e0 e1 HOG
  iterate 3 (first | (refine L.ge_off rfl rfl rfl (by rfl) ?_) | (refine L.ge_move rfl rfl rfl (by rfl) rfl (by simp [L.evE, L.lk, Act.eval]; rfl) ?_) | (refine L.ge_pick rfl rfl rfl (by rfl) rfl (by simp [L.evE, L.lk, Act.eval]; rfl) (by simp [L.evE, L.lk, Act.eval]; rfl) ?_) | (refine L.ge_val rfl rfl rfl (by rfl) (by intro w' hw'; simp [execOp, L.evE, L.lk, Act.eval]; go_simp; rfl) ?_))
  have HG1 := Lib.hid (HO1.out.heap HG.out (by simp))
  have hz1 : w1.frozen? ⟨g, 1, none⟩ = false := frozen_of_row w1 g 1 _ _ HG1.out
  have hc1 : w1.cell? ⟨g, 1, none⟩ = some (.int .i64 at') := (cell_of_row w1 g 1 _ _ _ HG1.out).trans rfl
  have hwr : IntKind.i64.wrap (at' + (Lib.runeCount (s.extract 0 n) : Int)) = at' + Lib.runeCount (s.extract 0 n) := IntWalk.i64_in _ (by have := HRC.out; omega)
  refine L.ge_last (w' := w1.setCell ⟨g, 1, none⟩ (.int .i64 (at' + Lib.runeCount (s.extract 0 n)))) rfl rfl (by rfl) (by simp [execOp, L.evE, L.lk, Act.eval, hwr]; go_simp) ?_
  simp only [L.puts, Act.put, goInt, List.setIfInBounds_toArray, List.set_cons_zero, List.set_cons_succ]
  have HG2 := Lib.hid (show (w1.setCell ⟨g, 1, none⟩ (.int .i64 (at' + Lib.runeCount (s.extract 0 n)))).heap[g]? = some (.cells #[.string s, .int .i64 (at' + Lib.runeCount (s.extract 0 n)), o] 47 (0, 0)) from heap_setCell_same w1 g 1 _ _ _ HG1.out)
  have HO2 := Lib.hid (show Only [g] w (w1.setCell ⟨g, 1, none⟩ (.int .i64 (at' + Lib.runeCount (s.extract 0 n)))) from (HO1.out.mono (T := [g]) (by simp)).setCell (by simp) _)
  clear hz1 hc1 hwr HG1 HO1
  generalize w1.setCell ⟨g, 1, none⟩ (.int .i64 (at' + Lib.runeCount (s.extract 0 n))) = w2 at *
  have c0 : w2.cell? ⟨g, 0, none⟩ = some (.string s) := (cell_of_row w2 g 0 _ _ _ HG2.out).trans rfl
  have z0 : w2.frozen? ⟨g, 0, none⟩ = false := frozen_of_row w2 g 0 _ _ HG2.out
  go_wp2
  go_end0
  exact ⟨rfl, heap_setCell_same w2 g 0 _ _ _ HG2.out, HO2.out.setCell (by simp) _⟩
end Go.Proofs.YtlikjknakplamaaDoor.Print
/-! ### LxPure -/
namespace Go.Proofs.YtlikjknakplamaaDoor
set_option linter.unusedSimpArgs false
set_option linter.unusedVariables false
/-- Passing over some bytes. -/
def passZ (st : ByteArray × Int) (n : Nat) : ByteArray × Int := (st.1.extract n st.1.size, st.2 + Lib.runeCount (st.1.extract 0 n))
/-- A byte of a text. -/
def bAt (s : ByteArray) (i : Nat) : Nat := (s.get! i).toNat
def hashN (s : ByteArray) : Nat := if Lib.indexByte s.data.toList 10 < 0 then s.size else (Lib.indexByte s.data.toList 10).toNat
def blanksZ : Nat → ByteArray × Int → ByteArray × Int
  | 0, st => st
  | f + 1, st => if st.1.size = 0 then st else if classZ (bAt st.1 0) = 1 then blanksZ f (passZ st 1) else if classZ (bAt st.1 0) = 6 then blanksZ f (passZ st (hashN st.1)) else st
def blanks (st : ByteArray × Int) : ByteArray × Int := blanksZ st.1.size st
theorem bAt_zero (s : ByteArray) (h : 0 < s.size) : s.data.toList[0]? = some (s.get! 0) := by
  have h1 : 0 < s.data.size := h
  rw [Array.getElem?_toList, Array.getElem?_eq_getElem h1]
  simp only [ByteArray.get!]
  rw [getElem!_pos s.data 0 h1]
/-- A remark has a byte, and ends within the text. -/
theorem hashN_le (s : ByteArray) (h : 0 < s.size) (hc : classZ (bAt s 0) = 6) : 1 ≤ hashN s ∧ hashN s ≤ s.size := by
  unfold hashN
  split
  · exact ⟨h, Nat.le_refl _⟩
  · rename_i hi
    obtain ⟨o, ho⟩ : ∃ o : Nat, Lib.indexByte s.data.toList 10 = o := ⟨(Lib.indexByte s.data.toList 10).toNat, by omega⟩
    obtain ⟨h1, _⟩ := Lib.indexByte_some ho
    rw [ho, Int.toNat_natCast]
    have hlt : o < s.data.toList.length := (List.getElem?_eq_some_iff.1 h1).1
    refine ⟨?_, ?_⟩
    · rcases Nat.eq_zero_or_pos o with h0 | h0
      · subst h0
        rw [bAt_zero s h] at h1
        have h2 : s.get! 0 = 10 := Option.some.inj h1
        unfold bAt at hc
        rw [h2] at hc
        revert hc
        decide
      · exact h0
    · rw [Array.length_toList] at hlt
      exact Nat.le_of_lt hlt
theorem passZ_size (st : ByteArray × Int) (n : Nat) (h : n ≤ st.1.size) : (passZ st n).1.size = st.1.size - n := by
  unfold passZ
  simp [ByteArray.size_extract]
theorem passZ_at (st : ByteArray × Int) (n : Nat) (h : n ≤ st.1.size) : st.2 ≤ (passZ st n).2 ∧ (passZ st n).2 + (passZ st n).1.size ≤ st.2 + st.1.size := by
  have h1 := Lib.runeCount_le (st.1.extract 0 n)
  rw [ByteArray.size_extract] at h1
  rw [passZ_size st n h]
  show st.2 ≤ st.2 + (Lib.runeCount (st.1.extract 0 n) : Int) ∧ st.2 + (Lib.runeCount (st.1.extract 0 n) : Int) + ((st.1.size - n : Nat) : Int) ≤ st.2 + st.1.size
  omega
/-- Where letters and digits end. -/
def wordEnd (s : ByteArray) : Nat → Nat → Nat
  | 0, _ => s.size
  | f + 1, p => if p < s.size then if wordyZ (Utf8.decode s p).1 = true then wordEnd s f (p + (Utf8.decode s p).2) else p else s.size
theorem wordEnd_end (s : ByteArray) (f p : Nat) (h : ¬ p < s.size) : wordEnd s f p = s.size := by
  cases f with
  | zero => rfl
  | succ f => unfold wordEnd; rw [if_neg h]
theorem wordEnd_le (s : ByteArray) : ∀ f p, wordEnd s f p ≤ s.size
  | 0, _ => Nat.le_refl _
  | f + 1, p => by
    unfold wordEnd
    split
    · split
      · exact wordEnd_le s f _
      · omega
    · exact Nat.le_refl _
/-- A token as plain data: its kind, text, number and place; how many bytes it has; what is wrong. -/
abbrev Tok := Int × ByteArray × Int × Int
def noTok : Tok := (0, ⟨#[]⟩, 0, 0)
/-- Is there a rune below a blank? -/
def lowFrom (s : ByteArray) : Nat → Nat → Bool
  | 0, _ => false
  | f + 1, p => if p < s.size then decide ((Utf8.decode s p).1 < 32) || lowFrom s f (p + (Utf8.decode s p).2) else false
theorem lowFrom_end (s : ByteArray) (f p : Nat) (h : ¬ p < s.size) : lowFrom s f p = false := by
  cases f with
  | zero => rfl
  | succ f => unfold lowFrom; rw [if_neg h]
def lineOf (x : ByteArray) : ByteArray := ⟨(Lib.cut (x.extract 1 x.size).data.toList [10]).1.toArray⟩
def insideOf (x : ByteArray) : ByteArray := ⟨(Lib.cut (lineOf x).data.toList [34]).1.toArray⟩
def closed (x : ByteArray) : Bool := (Lib.cut (lineOf x).data.toList [34]).2.2
def textZ (x : ByteArray) : Tok × Int × Int :=
  if closed x = false then (noTok, 0, 11) else if lowFrom (insideOf x) (insideOf x).size 0 = true then (noTok, 0, 11)
  else if 20 < Lib.runeCount (insideOf x) then (noTok, 0, 2) else ((3, insideOf x, 0, 0), ((insideOf x).size : Int) + 2, 0)
theorem cut_fst_le (s sep : List UInt8) : (Lib.cut s sep).1.length ≤ s.length := by
  unfold Lib.cut
  split
  · simp only [List.length_take]; omega
  · exact Nat.le_refl _
theorem lineOf_le (x : ByteArray) : (lineOf x).size ≤ x.size := by
  have h := cut_fst_le (x.extract 1 x.size).data.toList [10]
  have h1 : (lineOf x).size = (Lib.cut (x.extract 1 x.size).data.toList [10]).1.length := by unfold lineOf; show Array.size _ = _; simp
  have h2 : (x.extract 1 x.size).data.toList.length = (x.extract 1 x.size).size := by rw [Array.length_toList]; rfl
  rw [ByteArray.size_extract] at h2
  omega
theorem insideOf_le (x : ByteArray) : (insideOf x).size ≤ x.size := by
  have h := cut_fst_le (lineOf x).data.toList [34]
  have h1 : (insideOf x).size = (Lib.cut (lineOf x).data.toList [34]).1.length := by unfold insideOf; show Array.size _ = _; simp
  have h2 : (lineOf x).data.toList.length = (lineOf x).size := by rw [Array.length_toList]; rfl
  have := lineOf_le x
  omega
/-- A number's digits, one behind the other; none where a rune is no digit. -/
def numFrom (s : ByteArray) : Nat → Nat → Nat → Option Nat
  | 0, _, n => some n
  | f + 1, p, n => if p < s.size then (if classZ (Utf8.decode s p).1 = 3 then numFrom s f (p + (Utf8.decode s p).2) (10 * n + ((Utf8.decode s p).1 - 48)) else none) else some n
theorem numFrom_end (s : ByteArray) (f p n : Nat) (h : ¬ p < s.size) : numFrom s f p n = some n := by
  cases f with
  | zero => rfl
  | succ f => unfold numFrom; rw [if_neg h]
/-- What is told of a number. -/
def told (o : Option Nat) : Int × Bool := match o with
  | some n => if 9223372036854775807 < n then (0, false) else ((n : Int), true)
  | none => (0, false)
def numZ (s : ByteArray) : Int × Bool := if s.size = 0 ∨ 19 < s.size ∨ (1 < s.size ∧ bAt s 0 = 48) then (0, false) else told (numFrom s s.size 0 0)
/-- How many runes stand ahead of the first bad byte; below 0: there is none. -/
def badFrom (s : ByteArray) : Nat → Nat → Int → Int
  | 0, _, _ => -1
  | f + 1, p, a => if p < s.size then (if (Utf8.decode s p).1 = 65533 ∧ (Utf8.decode s p).2 = 1 then a else badFrom s f (p + (Utf8.decode s p).2) (a + 1)) else -1
theorem badFrom_end (s : ByteArray) (f p : Nat) (a : Int) (h : ¬ p < s.size) : badFrom s f p a = -1 := by
  cases f with
  | zero => rfl
  | succ f => unfold badFrom; rw [if_neg h]
def badZ (s : ByteArray) : Int := badFrom s s.size 0 0
/-- How many bytes a sign has. -/
def twoSigns : List UInt8 := [60, 62, 61, 33, 58]
def signN (x : ByteArray) : Nat := if 1 < x.size ∧ bAt x 1 = 61 ∧ 0 ≤ Lib.indexByte twoSigns (x.get! 0) then 2 else (Utf8.decode x 0).2
def tokenZ (x : ByteArray) : Tok × Int × Int :=
  if classZ (Utf8.decode x 0).1 = 2 then
    (if 12 < Lib.runeCount (x.extract 0 (wordEnd x x.size 0)) then (noTok, 0, 2) else ((1, x.extract 0 (wordEnd x x.size 0), 0, 0), (wordEnd x x.size 0 : Int), 0))
  else if classZ (Utf8.decode x 0).1 = 3 then
    (if (numZ (x.extract 0 (wordEnd x x.size 0))).2 = true then ((2, x.extract 0 (wordEnd x x.size 0), (numZ (x.extract 0 (wordEnd x x.size 0))).1, 0), (wordEnd x x.size 0 : Int), 0) else (noTok, 0, 11))
  else if classZ (Utf8.decode x 0).1 = 5 then textZ x
  else if classZ (Utf8.decode x 0).1 = 4 then ((4, x.extract 0 (signN x), 0, 0), (signN x : Int), 0)
  else (noTok, 0, 11)
/-- The tokens from a state on, behind those that were cut; what is wrong, and where. -/
def cutLoop : Nat → ByteArray × Int → List Tok → List Tok × Int × Int
  | 0, _, l => (l, 0, 0)
  | f + 1, st, l =>
    if (blanks st).1.size = 0 then (l ++ [(0, ⟨#[]⟩, 0, (blanks st).2)], 0, 0)
    else if l.length = 2000 then ([], 2, (blanks st).2)
    else if (tokenZ (blanks st).1).2.2 ≠ 0 then ([], (tokenZ (blanks st).1).2.2, (blanks st).2)
    else cutLoop f (passZ (blanks st) (tokenZ (blanks st).1).2.1.toNat) (l ++ [((tokenZ (blanks st).1).1.1, (tokenZ (blanks st).1).1.2.1, (tokenZ (blanks st).1).1.2.2.1, (blanks st).2)])
def cutZ (s : ByteArray) : List Tok × Int × Int := if 8192 < s.size then ([], 2, 0) else if 0 ≤ badZ s then ([], 10, badZ s) else cutLoop (s.size + 1) (s, 0) []
end Go.Proofs.YtlikjknakplamaaDoor
/-! ### Print8 -/
namespace Go.Proofs.YtlikjknakplamaaDoor.Print
open Go.RowKit Go.Proofs.YtlikjknakplamaaDoorW.PrintWords Go.Proofs.YtlikjknakplamaaDoorW.PrintLast Go.Proofs.YtlikjknakplamaaDoorW.PrintMore
set_option linter.unusedVariables false
set_option linter.unusedSimpArgs false
mutual
def lex_Class.j0 : Nat → Int → Bool → Option (Int)
  | 0, _, _ => none
  | k + 1, x0, x3 => if x3 = true then (some 1) else (if x0 ≥ 97 then (lex_Class.j1 k x0 (decide (x0 ≤ 122))) else (lex_Class.j1 k x0 false))
def lex_Class.j1 : Nat → Int → Bool → Option (Int)
  | 0, _, _ => none
  | k + 1, x0, x12 => if x12 = true then (lex_Class.j2 k x0 x12) else (if x0 ≥ 65 then (if x0 ≤ 90 then (lex_Class.j2 k x0 (decide (x0 ≤ 90))) else (lex_Class.j2 k x0 (x0 == 95))) else (lex_Class.j2 k x0 (x0 == 95)))
def lex_Class.j2 : Nat → Int → Bool → Option (Int)
  | 0, _, _ => none
  | k + 1, x0, x12 => if x12 = true then (some 2) else (if x0 ≥ 192 then (if x0 ≤ 591 then (if x0 = 215 then (lex_Class.j3 k x0 false) else (lex_Class.j3 k x0 (x0 != 247))) else (lex_Class.j3 k x0 false)) else (lex_Class.j3 k x0 false))
def lex_Class.j3 : Nat → Int → Bool → Option (Int)
  | 0, _, _ => none
  | k + 1, x0, x27 => if x27 = true then (some 2) else (if x0 ≥ 48 then (lex_Class.j4 k x0 (decide (x0 ≤ 57))) else (lex_Class.j4 k x0 false))
def lex_Class.j4 : Nat → Int → Bool → Option (Int)
  | 0, _, _ => none
  | k + 1, x0, x42 => if x42 = true then (some 3) else (if x0 = 34 then (some 5) else (if x0 = 35 then (some 6) else (if x0 > 32 then (if x0 < 127 then ((strings_IndexByte.f (⟨#[40, 41, 123, 125, 44, 59, 58, 61, 43, 45, 42, 47, 37, 60, 62, 33, 38, 124]⟩ : ByteArray) ((x0) % 256)).bind fun t170 => (if t170 ≥ 0 then (some 4) else (some 0))) else (some 0)) else (some 0))))
end
def lex_Class.f (k : Nat) (a0 : Int) : Option (Int) := if a0 = 32 then (lex_Class.j0 k a0 (a0 == 32)) else (if a0 = 9 then (lex_Class.j0 k a0 (a0 == 9)) else (if a0 = 13 then (lex_Class.j0 k a0 (a0 == 13)) else (lex_Class.j0 k a0 (a0 == 10))))
set_option maxHeartbeats 8000000 in
set_option maxRecDepth 100000 in
theorem lex_Class.calls (k : Nat) (a0 : Int) (r : Int) (w : World) (h : lex_Class.f k a0 = some r) :
    Calls Tryd.prog 16 #[.int .i32 a0] w fun e w' => e = .returned (.int .i64 r) ∧ Drawn0 w w' := by
  have H : (if a0 = 32 then (lex_Class.j0 k a0 (a0 == 32)) else (if a0 = 9 then (lex_Class.j0 k a0 (a0 == 9)) else (if a0 = 13 then (lex_Class.j0 k a0 (a0 == 13)) else (lex_Class.j0 k a0 (a0 == 10))))) = some r := h
  clear h
  have HC2 := Aside0.mk H
  clear H
  go_enter Tryd.func16, Tryd.ntmps16
  go_upto_if 3 with (fail)
  go_cut [3] (fun v3 wc => ∃ (kq : Nat) (x3_1 : Bool), v3 = .bool x3_1 ∧ Aside0 (lex_Class.j0 kq a0 x3_1 = some r) ∧ Aside0 (kq ≤ k) ∧ Drawn0 w wc)
  case first =>
    have H := HC2.out
    clear HC2
    by_cases c3 : a0 = 32
    · rw [if_pos c3] at H
      have c3b0 : (a0 == 32) = true := beq_iff_eq.mpr c3
      have c3b1 : (a0 != 32) = false := bne_eq_false_iff_eq.mpr c3
      clear c3
      (first | rw [c3b0] | (simp only [i64_w, i32_w]; rw [c3b0]) | skip)
      have H' := Aside0.mk H
      clear H
      go_wp2
      go_meet
      case rel => exact ⟨_, ((a0 == 32)), (by first | rfl | (simp; done) | (simp [*]; done)), H', ⟨by first | omega | exact Nat.le_refl _⟩, by repeat (first | exact Drawn0.refl _ | apply Drawn0.step)⟩
    · rw [if_neg c3] at H
      have c3b0 : (a0 == 32) = false := beq_eq_false_iff_ne.mpr c3
      have c3b1 : (a0 != 32) = true := bne_iff_ne.mpr c3
      (first | rw [c3b0] | (simp only [i64_w, i32_w]; rw [c3b0]) | skip)
      by_cases c4 : a0 = 9
      · rw [if_pos c4] at H
        have c4b0 : (a0 == 9) = true := beq_iff_eq.mpr c4
        have c4b1 : (a0 != 9) = false := bne_eq_false_iff_eq.mpr c4
        clear c4
        have H' := Aside0.mk H
        clear H
        go_wp2
        go_meet
        case rel => exact ⟨_, ((a0 == 9)), (by first | rfl | (simp; done) | (simp [*]; done)), H', ⟨by first | omega | exact Nat.le_refl _⟩, by repeat (first | exact Drawn0.refl _ | apply Drawn0.step)⟩
      · rw [if_neg c4] at H
        have c4b0 : (a0 == 9) = false := beq_eq_false_iff_ne.mpr c4
        have c4b1 : (a0 != 9) = true := bne_iff_ne.mpr c4
        by_cases c5 : a0 = 13
        · rw [if_pos c5] at H
          have c5b0 : (a0 == 13) = true := beq_iff_eq.mpr c5
          have c5b1 : (a0 != 13) = false := bne_eq_false_iff_eq.mpr c5
          clear c5
          have H' := Aside0.mk H
          clear H
          go_wp2
          go_meet
          case rel => exact ⟨_, ((a0 == 13)), (by first | rfl | (simp; done) | (simp [*]; done)), H', ⟨by first | omega | exact Nat.le_refl _⟩, by repeat (first | exact Drawn0.refl _ | apply Drawn0.step)⟩
        · rw [if_neg c5] at H
          have c5b0 : (a0 == 13) = false := beq_eq_false_iff_ne.mpr c5
          have c5b1 : (a0 != 13) = true := bne_iff_ne.mpr c5
          have H' := Aside0.mk H
          clear H
          go_wp2
          go_meet
          case rel => exact ⟨_, ((a0 == 10)), (by first | rfl | (simp; done) | (simp [*]; done)), H', ⟨by first | omega | exact Nat.le_refl _⟩, by repeat (first | exact Drawn0.refl _ | apply Drawn0.step)⟩
  case rest =>
    clear HC2
    try clear c1
    try clear p2
    try clear c3
    try clear c3b0
    try clear c3b1
    try clear c4
    try clear c4b0
    try clear c4b1
    try clear c5
    try clear c5b0
    try clear c5b1
    obtain ⟨kq, x3_1, rfl, HA, HJ1, ⟨mc1, rfl⟩⟩ := hcut
    cases kq with
    | zero => exact absurd HA.out (by simp [lex_Class.j0])
    | succ kj1 =>
      have H := HA.out
      clear HA
      simp only [lex_Class.j0] at H
      by_cases c6 : x3_1 = true
      · subst c6
        have H1 : (some 1) = some r := by rw [if_pos rfl] at H; exact H
        clear H
        have H := H1
        clear H1
        obtain rfl := Option.some.inj H
        go_wp2
        go_ret
        exact ⟨by first | rfl | (simp; done) | (simp [*]; done), by repeat (first | exact Drawn0.refl _ | apply Drawn0.step)⟩
      · replace c6 := Bool.eq_false_iff.mpr c6
        subst c6
        have H1 : (if a0 ≥ 97 then (lex_Class.j1 kj1 a0 (decide (a0 ≤ 122))) else (lex_Class.j1 kj1 a0 false)) = some r := by rw [if_neg (show ¬ (false = true) by decide)] at H; exact H
        clear H
        have H := H1
        clear H1
        have HC7 := Aside0.mk H
        clear H
        go_upto_region 6 with (fail)
        go_cut [12] (fun v12 wc => ∃ (kq : Nat) (x12_6 : Bool), v12 = .bool x12_6 ∧ Aside0 (lex_Class.j1 kq a0 x12_6 = some r) ∧ Aside0 (kq ≤ kj1) ∧ Drawn0 w wc)
        case first =>
          have H := HC7.out
          clear HC7
          by_cases c8 : a0 ≥ 97
          · rw [if_pos c8] at H
            have c8b0 : decide (97 ≤ a0) = true := decide_eq_true c8
            clear c8
            (first | rw [c8b0] | (simp only [i64_w, i32_w]; rw [c8b0]) | skip)
            have H' := Aside0.mk H
            clear H
            go_wp2
            go_meet
            case rel => exact ⟨_, (decide (a0 ≤ 122)), (by first | rfl | (simp; done) | (simp [*]; done)), H', ⟨by have := HJ1.out; first | omega | exact Nat.le_refl _⟩, by repeat (first | exact Drawn0.refl _ | apply Drawn0.step)⟩
          · rw [if_neg c8] at H
            have c8b0 : decide (97 ≤ a0) = false := decide_eq_false c8
            clear c8
            (first | rw [c8b0] | (simp only [i64_w, i32_w]; rw [c8b0]) | skip)
            have H' := Aside0.mk H
            clear H
            go_wp2
            go_meet
            case rel => exact ⟨_, (false), (by first | rfl | (simp; done) | (simp [*]; done)), H', ⟨by have := HJ1.out; first | omega | exact Nat.le_refl _⟩, by repeat (first | exact Drawn0.refl _ | apply Drawn0.step)⟩
        case rest =>
          clear HC7
          try clear c1
          try clear p2
          try clear c3
          try clear c3b0
          try clear c3b1
          try clear c4
          try clear c4b0
          try clear c4b1
          try clear c5
          try clear c5b0
          try clear c5b1
          try clear c6
          try clear c8
          try clear c8b0
          try clear p2
          obtain ⟨kq, x12_6, rfl, HA, HJ6, ⟨mc6, rfl⟩⟩ := hcut
          cases kq with
          | zero => exact absurd HA.out (by simp [lex_Class.j1])
          | succ kj6 =>
            have H := HA.out
            clear HA
            simp only [lex_Class.j1] at H
            have HC9 := Aside0.mk H
            clear H
            go_upto_if 12 with (fail)
            go_cut [12] (fun v12 wc => ∃ (kq : Nat) (x12_8 : Bool), v12 = .bool x12_8 ∧ Aside0 (lex_Class.j2 kq a0 x12_8 = some r) ∧ Aside0 (kq ≤ kj6) ∧ Drawn0 w wc)
            case first =>
              have H := HC9.out
              clear HC9
              by_cases c10 : x12_6 = true
              · subst c10
                have H1 : (lex_Class.j2 kj6 a0 true) = some r := by rw [if_pos rfl] at H; exact H
                clear H
                have H := H1
                clear H1
                have H' := Aside0.mk H
                clear H
                go_wp2
                go_meet
                case rel => exact ⟨_, (true), (by first | rfl | (simp; done) | (simp [*]; done)), H', ⟨by have := HJ1.out; have := HJ6.out; first | omega | exact Nat.le_refl _⟩, by repeat (first | exact Drawn0.refl _ | apply Drawn0.step)⟩
              · replace c10 := Bool.eq_false_iff.mpr c10
                subst c10
                have H1 : (if a0 ≥ 65 then (if a0 ≤ 90 then (lex_Class.j2 kj6 a0 (decide (a0 ≤ 90))) else (lex_Class.j2 kj6 a0 (a0 == 95))) else (lex_Class.j2 kj6 a0 (a0 == 95))) = some r := by rw [if_neg (show ¬ (false = true) by decide)] at H; exact H
                clear H
                have H := H1
                clear H1
                by_cases c11 : a0 ≥ 65
                · rw [if_pos c11] at H
                  have c11b0 : decide (65 ≤ a0) = true := decide_eq_true c11
                  clear c11
                  (first | rw [c11b0] | (simp only [i64_w, i32_w]; rw [c11b0]) | skip)
                  by_cases c12 : a0 ≤ 90
                  · rw [if_pos c12] at H
                    have c12b0 : decide (a0 ≤ 90) = true := decide_eq_true c12
                    clear c12
                    have H' := Aside0.mk H
                    clear H
                    go_wp2
                    go_meet
                    case rel => exact ⟨_, (decide (a0 ≤ 90)), (by first | rfl | (simp; done) | (simp [*]; done)), H', ⟨by have := HJ1.out; have := HJ6.out; first | omega | exact Nat.le_refl _⟩, by repeat (first | exact Drawn0.refl _ | apply Drawn0.step)⟩
                  · rw [if_neg c12] at H
                    have c12b0 : decide (a0 ≤ 90) = false := decide_eq_false c12
                    clear c12
                    have H' := Aside0.mk H
                    clear H
                    go_wp2
                    go_meet
                    case rel => exact ⟨_, ((a0 == 95)), (by first | rfl | (simp; done) | (simp [*]; done)), H', ⟨by have := HJ1.out; have := HJ6.out; first | omega | exact Nat.le_refl _⟩, by repeat (first | exact Drawn0.refl _ | apply Drawn0.step)⟩
                · rw [if_neg c11] at H
                  have c11b0 : decide (65 ≤ a0) = false := decide_eq_false c11
                  clear c11
                  (first | rw [c11b0] | (simp only [i64_w, i32_w]; rw [c11b0]) | skip)
                  have H' := Aside0.mk H
                  clear H
                  go_wp2
                  go_meet
                  case rel => exact ⟨_, ((a0 == 95)), (by first | rfl | (simp; done) | (simp [*]; done)), H', ⟨by have := HJ1.out; have := HJ6.out; first | omega | exact Nat.le_refl _⟩, by repeat (first | exact Drawn0.refl _ | apply Drawn0.step)⟩
            case rest =>
              clear HC9
              try clear c1
              try clear p2
              try clear c3
              try clear c3b0
              try clear c3b1
              try clear c4
              try clear c4b0
              try clear c4b1
              try clear c5
              try clear c5b0
              try clear c5b1
              try clear c6
              try clear c8
              try clear c8b0
              try clear c10
              try clear c11
              try clear c11b0
              try clear c12
              try clear c12b0
              try clear p2
              obtain ⟨kq, x12_8, rfl, HA, HJ8, ⟨mc8, rfl⟩⟩ := hcut
              cases kq with
              | zero => exact absurd HA.out (by simp [lex_Class.j2])
              | succ kj8 =>
                have H := HA.out
                clear HA
                simp only [lex_Class.j2] at H
                by_cases c13 : x12_8 = true
                · subst c13
                  have H1 : (some 2) = some r := by rw [if_pos rfl] at H; exact H
                  clear H
                  have H := H1
                  clear H1
                  obtain rfl := Option.some.inj H
                  go_wp2
                  go_ret
                  exact ⟨by first | rfl | (simp; done) | (simp [*]; done), by repeat (first | exact Drawn0.refl _ | apply Drawn0.step)⟩
                · replace c13 := Bool.eq_false_iff.mpr c13
                  subst c13
                  have H1 : (if a0 ≥ 192 then (if a0 ≤ 591 then (if a0 = 215 then (lex_Class.j3 kj8 a0 false) else (lex_Class.j3 kj8 a0 (a0 != 247))) else (lex_Class.j3 kj8 a0 false)) else (lex_Class.j3 kj8 a0 false)) = some r := by rw [if_neg (show ¬ (false = true) by decide)] at H; exact H
                  clear H
                  have H := H1
                  clear H1
                  have HC14 := Aside0.mk H
                  clear H
                  go_upto_region 10 with (fail)
                  go_cut [27] (fun v27 wc => ∃ (kq : Nat) (x27_13 : Bool), v27 = .bool x27_13 ∧ Aside0 (lex_Class.j3 kq a0 x27_13 = some r) ∧ Aside0 (kq ≤ kj8) ∧ Drawn0 w wc)
                  case first =>
                    have H := HC14.out
                    clear HC14
                    by_cases c15 : a0 ≥ 192
                    · rw [if_pos c15] at H
                      have c15b0 : decide (192 ≤ a0) = true := decide_eq_true c15
                      clear c15
                      (first | rw [c15b0] | (simp only [i64_w, i32_w]; rw [c15b0]) | skip)
                      by_cases c16 : a0 ≤ 591
                      · rw [if_pos c16] at H
                        have c16b0 : decide (a0 ≤ 591) = true := decide_eq_true c16
                        clear c16
                        by_cases c17 : a0 = 215
                        · rw [if_pos c17] at H
                          have c17b0 : (a0 == 215) = true := beq_iff_eq.mpr c17
                          have c17b1 : (a0 != 215) = false := bne_eq_false_iff_eq.mpr c17
                          clear c17
                          have H' := Aside0.mk H
                          clear H
                          go_wp2
                          go_meet
                          case rel => exact ⟨_, (false), (by first | rfl | (simp; done) | (simp [*]; done)), H', ⟨by have := HJ1.out; have := HJ6.out; have := HJ8.out; first | omega | exact Nat.le_refl _⟩, by repeat (first | exact Drawn0.refl _ | apply Drawn0.step)⟩
                        · rw [if_neg c17] at H
                          have c17b0 : (a0 == 215) = false := beq_eq_false_iff_ne.mpr c17
                          have c17b1 : (a0 != 215) = true := bne_iff_ne.mpr c17
                          have H' := Aside0.mk H
                          clear H
                          go_wp2
                          go_meet
                          case rel => exact ⟨_, ((a0 != 247)), (by first | rfl | (simp; done) | (simp [*]; done)), H', ⟨by have := HJ1.out; have := HJ6.out; have := HJ8.out; first | omega | exact Nat.le_refl _⟩, by repeat (first | exact Drawn0.refl _ | apply Drawn0.step)⟩
                      · rw [if_neg c16] at H
                        have c16b0 : decide (a0 ≤ 591) = false := decide_eq_false c16
                        clear c16
                        have H' := Aside0.mk H
                        clear H
                        go_wp2
                        go_meet
                        case rel => exact ⟨_, (false), (by first | rfl | (simp; done) | (simp [*]; done)), H', ⟨by have := HJ1.out; have := HJ6.out; have := HJ8.out; first | omega | exact Nat.le_refl _⟩, by repeat (first | exact Drawn0.refl _ | apply Drawn0.step)⟩
                    · rw [if_neg c15] at H
                      have c15b0 : decide (192 ≤ a0) = false := decide_eq_false c15
                      clear c15
                      (first | rw [c15b0] | (simp only [i64_w, i32_w]; rw [c15b0]) | skip)
                      have H' := Aside0.mk H
                      clear H
                      go_wp2
                      go_meet
                      case rel => exact ⟨_, (false), (by first | rfl | (simp; done) | (simp [*]; done)), H', ⟨by have := HJ1.out; have := HJ6.out; have := HJ8.out; first | omega | exact Nat.le_refl _⟩, by repeat (first | exact Drawn0.refl _ | apply Drawn0.step)⟩
                  case rest =>
                    clear HC14
                    try clear c1
                    try clear p2
                    try clear c3
                    try clear c3b0
                    try clear c3b1
                    try clear c4
                    try clear c4b0
                    try clear c4b1
                    try clear c5
                    try clear c5b0
                    try clear c5b1
                    try clear c6
                    try clear c8
                    try clear c8b0
                    try clear c10
                    try clear c11
                    try clear c11b0
                    try clear c12
                    try clear c12b0
                    try clear c13
                    try clear c15
                    try clear c15b0
                    try clear c16
                    try clear c16b0
                    try clear c17
                    try clear c17b0
                    try clear c17b1
                    try clear p2
                    obtain ⟨kq, x27_13, rfl, HA, HJ13, ⟨mc13, rfl⟩⟩ := hcut
                    cases kq with
                    | zero => exact absurd HA.out (by simp [lex_Class.j3])
                    | succ kj13 =>
                      have H := HA.out
                      clear HA
                      simp only [lex_Class.j3] at H
                      by_cases c18 : x27_13 = true
                      · subst c18
                        have H1 : (some 2) = some r := by rw [if_pos rfl] at H; exact H
                        clear H
                        have H := H1
                        clear H1
                        obtain rfl := Option.some.inj H
                        go_wp2
                        go_ret
                        exact ⟨by first | rfl | (simp; done) | (simp [*]; done), by repeat (first | exact Drawn0.refl _ | apply Drawn0.step)⟩
                      · replace c18 := Bool.eq_false_iff.mpr c18
                        subst c18
                        have H1 : (if a0 ≥ 48 then (lex_Class.j4 kj13 a0 (decide (a0 ≤ 57))) else (lex_Class.j4 kj13 a0 false)) = some r := by rw [if_neg (show ¬ (false = true) by decide)] at H; exact H
                        clear H
                        have H := H1
                        clear H1
                        have HC19 := Aside0.mk H
                        clear H
                        go_upto_region 12 with (fail)
                        go_cut [42] (fun v42 wc => ∃ (kq : Nat) (x42_18 : Bool), v42 = .bool x42_18 ∧ Aside0 (lex_Class.j4 kq a0 x42_18 = some r) ∧ Aside0 (kq ≤ kj13) ∧ Drawn0 w wc)
                        case first =>
                          have H := HC19.out
                          clear HC19
                          by_cases c20 : a0 ≥ 48
                          · rw [if_pos c20] at H
                            have c20b0 : decide (48 ≤ a0) = true := decide_eq_true c20
                            clear c20
                            (first | rw [c20b0] | (simp only [i64_w, i32_w]; rw [c20b0]) | skip)
                            have H' := Aside0.mk H
                            clear H
                            go_wp2
                            go_meet
                            case rel => exact ⟨_, (decide (a0 ≤ 57)), (by first | rfl | (simp; done) | (simp [*]; done)), H', ⟨by have := HJ1.out; have := HJ6.out; have := HJ8.out; have := HJ13.out; first | omega | exact Nat.le_refl _⟩, by repeat (first | exact Drawn0.refl _ | apply Drawn0.step)⟩
                          · rw [if_neg c20] at H
                            have c20b0 : decide (48 ≤ a0) = false := decide_eq_false c20
                            clear c20
                            (first | rw [c20b0] | (simp only [i64_w, i32_w]; rw [c20b0]) | skip)
                            have H' := Aside0.mk H
                            clear H
                            go_wp2
                            go_meet
                            case rel => exact ⟨_, (false), (by first | rfl | (simp; done) | (simp [*]; done)), H', ⟨by have := HJ1.out; have := HJ6.out; have := HJ8.out; have := HJ13.out; first | omega | exact Nat.le_refl _⟩, by repeat (first | exact Drawn0.refl _ | apply Drawn0.step)⟩
                        case rest =>
                          clear HC19
                          try clear c1
                          try clear c2
                          try clear p2
                          try clear c3
                          try clear c3b0
                          try clear c3b1
                          try clear c4
                          try clear c4b0
                          try clear c4b1
                          try clear c5
                          try clear c5b0
                          try clear c5b1
                          try clear c6
                          try clear c8
                          try clear c8b0
                          try clear c10
                          try clear c11
                          try clear c11b0
                          try clear c12
                          try clear c12b0
                          try clear c13
                          try clear c15
                          try clear c15b0
                          try clear c16
                          try clear c16b0
                          try clear c17
                          try clear c17b0
                          try clear c17b1
                          try clear c18
                          try clear c20
                          try clear c20b0
                          try clear p2
                          obtain ⟨kq, x42_18, rfl, HA, HJ18, ⟨mc18, rfl⟩⟩ := hcut
                          cases kq with
                          | zero => exact absurd HA.out (by simp [lex_Class.j4])
                          | succ kj18 =>
                            have H := HA.out
                            clear HA
                            simp only [lex_Class.j4] at H
                            by_cases c21 : x42_18 = true
                            · subst c21
                              have H1 : (some 3) = some r := by rw [if_pos rfl] at H; exact H
                              clear H
                              have H := H1
                              clear H1
                              obtain rfl := Option.some.inj H
                              go_wp2
                              go_ret
                              exact ⟨by first | rfl | (simp; done) | (simp [*]; done), by repeat (first | exact Drawn0.refl _ | apply Drawn0.step)⟩
                            · replace c21 := Bool.eq_false_iff.mpr c21
                              subst c21
                              have H1 : (if a0 = 34 then (some 5) else (if a0 = 35 then (some 6) else (if a0 > 32 then (if a0 < 127 then ((strings_IndexByte.f (⟨#[40, 41, 123, 125, 44, 59, 58, 61, 43, 45, 42, 47, 37, 60, 62, 33, 38, 124]⟩ : ByteArray) ((a0) % 256)).bind fun t170 => (if t170 ≥ 0 then (some 4) else (some 0))) else (some 0)) else (some 0)))) = some r := by rw [if_neg (show ¬ (false = true) by decide)] at H; exact H
                              clear H
                              have H := H1
                              clear H1
                              by_cases c22 : a0 = 34
                              · rw [if_pos c22] at H
                                have c22b0 : (a0 == 34) = true := beq_iff_eq.mpr c22
                                have c22b1 : (a0 != 34) = false := bne_eq_false_iff_eq.mpr c22
                                clear c22
                                obtain rfl := Option.some.inj H
                                go_wp2
                                go_ret
                                exact ⟨by first | rfl | (simp; done) | (simp [*]; done), by repeat (first | exact Drawn0.refl _ | apply Drawn0.step)⟩
                              · rw [if_neg c22] at H
                                have c22b0 : (a0 == 34) = false := beq_eq_false_iff_ne.mpr c22
                                have c22b1 : (a0 != 34) = true := bne_iff_ne.mpr c22
                                by_cases c23 : a0 = 35
                                · rw [if_pos c23] at H
                                  have c23b0 : (a0 == 35) = true := beq_iff_eq.mpr c23
                                  have c23b1 : (a0 != 35) = false := bne_eq_false_iff_eq.mpr c23
                                  clear c23
                                  obtain rfl := Option.some.inj H
                                  go_wp2
                                  go_ret
                                  exact ⟨by first | rfl | (simp; done) | (simp [*]; done), by repeat (first | exact Drawn0.refl _ | apply Drawn0.step)⟩
                                · rw [if_neg c23] at H
                                  have c23b0 : (a0 == 35) = false := beq_eq_false_iff_ne.mpr c23
                                  have c23b1 : (a0 != 35) = true := bne_iff_ne.mpr c23
                                  by_cases c24 : a0 > 32
                                  · rw [if_pos c24] at H
                                    have c24b0 : decide (32 < a0) = true := decide_eq_true c24
                                    clear c24
                                    by_cases c25 : a0 < 127
                                    · rw [if_pos c25] at H
                                      have c25b0 : decide (a0 < 127) = true := decide_eq_true c25
                                      clear c25
                                      replace H := Option.bind_eq_some_iff.mp H
                                      obtain ⟨t170, A260, H⟩ := H
                                      replace H : (if t170 ≥ 0 then (some 4) else (some 0)) = some r := H
                                      have A26 := Aside0.mk A260
                                      clear A260
                                      by_cases c27 : t170 ≥ 0
                                      · rw [if_pos c27] at H
                                        have c27b0 : decide (0 ≤ t170) = true := decide_eq_true c27
                                        clear c27
                                        obtain rfl := Option.some.inj H
                                        go_wp2_with (first | (go_at_call 35; (with_reducible refine (strings_IndexByte.calls (⟨#[40, 41, 123, 125, 44, 59, 58, 61, 43, 45, 42, 47, 37, 60, 62, 33, 38, 124]⟩ : ByteArray) ((a0) % 256) t170 _ A26.out).mono ?_); rintro e w' ⟨rfl, ⟨nd, rfl⟩⟩))
                                        go_ret
                                        exact ⟨by first | rfl | (simp; done) | (simp [*]; done), by repeat (first | exact Drawn0.refl _ | apply Drawn0.step)⟩
                                      · rw [if_neg c27] at H
                                        have c27b0 : decide (0 ≤ t170) = false := decide_eq_false c27
                                        clear c27
                                        obtain rfl := Option.some.inj H
                                        go_wp2_with (first | (go_at_call 35; (with_reducible refine (strings_IndexByte.calls (⟨#[40, 41, 123, 125, 44, 59, 58, 61, 43, 45, 42, 47, 37, 60, 62, 33, 38, 124]⟩ : ByteArray) ((a0) % 256) t170 _ A26.out).mono ?_); rintro e w' ⟨rfl, ⟨nd, rfl⟩⟩))
                                        go_ret
                                        exact ⟨by first | rfl | (simp; done) | (simp [*]; done), by repeat (first | exact Drawn0.refl _ | apply Drawn0.step)⟩
                                    · rw [if_neg c25] at H
                                      have c25b0 : decide (a0 < 127) = false := decide_eq_false c25
                                      clear c25
                                      obtain rfl := Option.some.inj H
                                      go_wp2
                                      go_ret
                                      exact ⟨by first | rfl | (simp; done) | (simp [*]; done), by repeat (first | exact Drawn0.refl _ | apply Drawn0.step)⟩
                                  · rw [if_neg c24] at H
                                    have c24b0 : decide (32 < a0) = false := decide_eq_false c24
                                    clear c24
                                    obtain rfl := Option.some.inj H
                                    go_wp2
                                    go_ret
                                    exact ⟨by first | rfl | (simp; done) | (simp [*]; done), by repeat (first | exact Drawn0.refl _ | apply Drawn0.step)⟩
end Go.Proofs.YtlikjknakplamaaDoor.Print
/-! ### EWordy -/
namespace Go.Proofs.YtlikjknakplamaaDoor.Print
open Go.RowKit Go.Proofs.YtlikjknakplamaaDoorW.PrintWords Go.Proofs.YtlikjknakplamaaDoorW.PrintLast Go.Proofs.YtlikjknakplamaaDoorW.PrintMore
set_option linter.unusedSimpArgs false
set_option linter.unusedVariables false
/-- A sign's index among the signs: where it is one. -/
theorem sign_index : ∀ r : Fin 127, 32 < r.val → ((0 : Int) ≤ Lib.indexByte (⟨#[40, 41, 123, 125, 44, 59, 58, 61, 43, 45, 42, 47, 37, 60, 62, 33, 38, 124]⟩ : ByteArray).data.toList (r.val).toUInt8 ↔ (r.val : Int) ∈ signs) := by decide +kernel
theorem lex_class_all (r : Int) (h1 : r ≤ 2147483647) (k : Nat) : lex_Class.f (k + 5) r = some (classZ r) := by
  have h4 : ∀ m, ¬ (r = 32 ∨ r = 9 ∨ r = 13 ∨ r = 10) → ¬ ((97 ≤ r ∧ r ≤ 122) ∨ (65 ≤ r ∧ r ≤ 90) ∨ r = 95) → ¬ (192 ≤ r ∧ r ≤ 591 ∧ r ≠ 215 ∧ r ≠ 247) → lex_Class.j4 (m + 1) r (decide (48 ≤ r ∧ r ≤ 57)) = some (classZ r) := by
    intro m c1 c2 c3
    unfold classZ
    rw [if_neg c1, if_neg c2, if_neg c3]
    simp only [lex_Class.j4, decide_eq_true_eq]
    by_cases c4 : 48 ≤ r ∧ r ≤ 57
    · rw [if_pos c4, if_pos c4]
    · rw [if_neg c4, if_neg c4]
      by_cases c5 : r = 34
      · rw [if_pos c5, if_pos c5]
      · rw [if_neg c5, if_neg c5]
        by_cases c6 : r = 35
        · rw [if_pos c6, if_pos c6]
        · rw [if_neg c6, if_neg c6]
          by_cases c7 : r > 32
          · rw [if_pos c7]
            by_cases c8 : r < 127
            · rw [if_pos c8]
              obtain ⟨n, rfl⟩ : ∃ n : Nat, r = n := ⟨r.toNat, by omega⟩
              have hs := sign_index ⟨n, by omega⟩ (by show 32 < n; omega)
              simp only at hs
              have e : ((n : Int) % 256).toNat = n := by omega
              simp only [strings_IndexByte.f, Option.bind_some, e, ge_iff_le]
              by_cases hm : (n : Int) ∈ signs
              · rw [if_pos (hs.2 hm), if_pos hm]
              · rw [if_neg (fun h => hm (hs.1 h)), if_neg hm]
            · rw [if_neg c8, if_neg]
              intro hm
              simp [signs] at hm
              omega
          · rw [if_neg c7, if_neg]
            intro hm
            simp [signs] at hm
            omega
  have h3 : ∀ m, ¬ (r = 32 ∨ r = 9 ∨ r = 13 ∨ r = 10) → ¬ ((97 ≤ r ∧ r ≤ 122) ∨ (65 ≤ r ∧ r ≤ 90) ∨ r = 95) → lex_Class.j3 (m + 2) r (decide (192 ≤ r ∧ r ≤ 591 ∧ r ≠ 215 ∧ r ≠ 247)) = some (classZ r) := by
    intro m c1 c2
    simp only [lex_Class.j3, decide_eq_true_eq]
    by_cases c3 : 192 ≤ r ∧ r ≤ 591 ∧ r ≠ 215 ∧ r ≠ 247
    · rw [if_pos c3]
      unfold classZ
      rw [if_neg c1, if_neg c2, if_pos c3]
    · rw [if_neg c3]
      by_cases c4 : r ≥ 48
      · rw [if_pos c4, ← h4 m c1 c2 c3]
        congr 1
        simp [c4]
      · rw [if_neg c4, ← h4 m c1 c2 c3]
        congr 1
        simp
        omega
  have h2 : ∀ m, ¬ (r = 32 ∨ r = 9 ∨ r = 13 ∨ r = 10) → lex_Class.j2 (m + 3) r (decide ((97 ≤ r ∧ r ≤ 122) ∨ (65 ≤ r ∧ r ≤ 90) ∨ r = 95)) = some (classZ r) := by
    intro m c1
    simp only [lex_Class.j2, decide_eq_true_eq]
    by_cases c2 : (97 ≤ r ∧ r ≤ 122) ∨ (65 ≤ r ∧ r ≤ 90) ∨ r = 95
    · rw [if_pos c2]
      unfold classZ
      rw [if_neg c1, if_pos c2]
    · rw [if_neg c2]
      have h := h3 m c1 c2
      by_cases d1 : r ≥ 192
      · rw [if_pos d1]
        by_cases d2 : r ≤ 591
        · rw [if_pos d2]
          by_cases d3 : r = 215
          · rw [if_pos d3, ← h]
            congr 1
            simp [d3]
          · rw [if_neg d3, ← h]
            congr 1
            by_cases d4 : r = 247
            · simp [d4]
            · have : (r != 247) = true := by simpa using d4
              rw [this]
              simp [d1, d2, d3, d4]
        · rw [if_neg d2, ← h]
          congr 1
          simp
          omega
      · rw [if_neg d1, ← h]
        congr 1
        simp
        omega
  have h1' : ∀ m, ¬ (r = 32 ∨ r = 9 ∨ r = 13 ∨ r = 10) → lex_Class.j1 (m + 4) r (decide (97 ≤ r ∧ r ≤ 122)) = some (classZ r) := by
    intro m c1
    simp only [lex_Class.j1, decide_eq_true_eq]
    have h := h2 m c1
    by_cases c2 : 97 ≤ r ∧ r ≤ 122
    · rw [if_pos c2, ← h]
      congr 1
      simp [c2]
    · rw [if_neg c2]
      by_cases d1 : r ≥ 65
      · rw [if_pos d1]
        by_cases d2 : r ≤ 90
        · rw [if_pos d2, ← h]
          congr 1
          have : decide (r ≤ 90) = true := decide_eq_true d2
          rw [this]
          simp
          omega
        · rw [if_neg d2, ← h]
          congr 1
          by_cases d3 : r = 95
          · simp [d3]
          · have : (r == 95) = false := by simpa using d3
            rw [this]
            simp
            omega
      · rw [if_neg d1, ← h]
        congr 1
        have : (r == 95) = false := by rw [beq_eq_false_iff_ne]; omega
        rw [this]
        simp
        omega
  have h0' : lex_Class.j0 (k + 5) r (decide (r = 32 ∨ r = 9 ∨ r = 13 ∨ r = 10)) = some (classZ r) := by
    simp only [lex_Class.j0, decide_eq_true_eq]
    by_cases c1 : r = 32 ∨ r = 9 ∨ r = 13 ∨ r = 10
    · rw [if_pos c1]
      unfold classZ
      rw [if_pos c1]
    · rw [if_neg c1]
      have h := h1' k c1
      by_cases d1 : r ≥ 97
      · rw [if_pos d1, ← h]
        congr 1
        simp [d1]
      · rw [if_neg d1, ← h]
        congr 1
        simp
        omega
  unfold lex_Class.f
  rw [← h0']
  by_cases e1 : r = 32
  · rw [if_pos e1]; congr 1; simp [e1]
  · rw [if_neg e1]
    by_cases e2 : r = 9
    · rw [if_pos e2]; congr 1; simp [e2]
    · rw [if_neg e2]
      by_cases e3 : r = 13
      · rw [if_pos e3]; congr 1; simp [e3]
      · rw [if_neg e3]; congr 1
        by_cases e4 : r = 10
        · simp [e4]
        · have : (r == 10) = false := by simpa using e4
          rw [this]; simp; omega
theorem lex_class_is (r : Int) (h0 : 0 ≤ r) (h1 : r ≤ 2147483647) (k : Nat) : lex_Class.f (k + 5) r = some (classZ r) := lex_class_all r h1 k
theorem lex_class_any (r : Int) (h0 : 0 ≤ r) (h1 : r ≤ 2147483647) (w : World) : Calls Tryd.prog 16 #[.int .i32 r] w fun e w' => e = .returned (.int .i64 (classZ r)) ∧ Drawn0 w w' :=
  lex_Class.calls 5 r (classZ r) w (lex_class_is r h0 h1 0)
theorem decode_le (s : ByteArray) (p : Nat) : (Utf8.decode s p).1 ≤ 2147483647 := by
  simp only [Utf8.decode, Utf8.runeError]
  repeat' split
  all_goals simp only
  all_goals (try omega)
  all_goals (have h1 := (s.get! (p + 1)).toNat_lt; have h0 := (s.get! (p + 0)).toNat_lt; omega)
theorem iterAt_heap (w : World) (k : Nat) (s : ByteArray) (q : Nat) (o : Obj) (h : w.heap[k]? = some o) : (w.iterAt k s q).heap[k]? = some (.stringIter s q) := by
  have := (Array.getElem?_eq_some_iff.1 h).1
  show (w.heap.setIfInBounds k _)[k]? = _
  simp [this]
theorem iterAt_below {a w : World} (k : Nat) (s : ByteArray) (q : Nat) (hb : Below a.heap.size a w) (hk : a.heap.size ≤ k) : Below a.heap.size a (w.iterAt k s q) := by
  refine ⟨hb.os, hb.tape, hb.output, ?_, fun i hi => ?_⟩
  · show a.heap.size ≤ (w.heap.setIfInBounds k _).size
    simp
    exact hb.size
  · show (w.heap.setIfInBounds k _)[i]? = _
    rw [Array.getElem?_setIfInBounds_ne (by omega)]
    exact hb.block i hi
end Go.Proofs.YtlikjknakplamaaDoor.Print
