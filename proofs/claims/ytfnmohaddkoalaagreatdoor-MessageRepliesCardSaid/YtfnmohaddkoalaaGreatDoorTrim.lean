/-
  DERIVED: THE SHELF's CONTRACTS AT THIS DUMP, IN PLAIN WORDS (tools/lay-plain.mjs out of 'TryzTrimX.lean', which tools/lay-shelf.mjs wrote): THE SAME DECLARATIONS UNDER THE SAME NAMES: 'import', 'namespace', 'open', 'def', 'theorem' AND NOTHING ELSE: no command of the shelf's: FOR A HAND-IN. Each laying: the table of numbers ('.._ren') and one theorem, a field a fact of the dump's own or the kernel's comparison; each contract: ONE APPLICATION.
-/
import Derived.Shelf.Strings.SlTrimAscii
import Derived.Ground.NamesProg
import Derived.Test.YtfnmohaddkoalaaGreatDoorProg
namespace Go.Proofs
open Go.Shelf
def Tryz.laysT160_ren : Go.Shelf.Ren := ⟨fun | 160 => 109 | 232 => 120 | 231 => 119 | 227 => 95 | 234 => 122 | 233 => 121 | 236 => 124 | 235 => 123 | 228 => 96 | 271 => 134 | 151 => 133 | 197 => 132 | 120 => 139 | 152 => 93 | 260 => 138 | 137 => 102 | 119 => 106 | 224 => 107 | 225 => 108 | 217 => 113 | 266 => 126 | n => n, fun | 9 => 9 | 4 => 4 | 3 => 3 | 5 => 5 | 117 => 116 | 116 => 115 | 0 => 0 | 124 => 128 | 21 => 21 | 105 => 158 | 46 => 127 | 119 => 166 | 139 => 169 | 138 => 168 | n => n, fun | 3 => 6 | 4 => 7 | n => n⟩
theorem Tryz.laysT160 : Go.Proofs.Lays.n160 Tryz.prog Tryz.laysT160_ren := {
  mixed := by kernel_rfl
  f119 := Tryz.func106.trans (congrArg some (by kernel_rfl))
  f120 := Tryz.func139.trans (congrArg some (by kernel_rfl))
  f137 := Tryz.func102.trans (congrArg some (by kernel_rfl))
  f151 := Tryz.func133.trans (congrArg some (by kernel_rfl))
  f152 := Tryz.func93.trans (congrArg some (by kernel_rfl))
  f160 := Tryz.func109.trans (congrArg some (by kernel_rfl))
  f197 := Tryz.func132.trans (congrArg some (by kernel_rfl))
  f217 := Tryz.func113.trans (congrArg some (by kernel_rfl))
  f224 := Tryz.func107.trans (congrArg some (by kernel_rfl))
  f225 := Tryz.func108.trans (congrArg some (by kernel_rfl))
  f227 := Tryz.func95.trans (congrArg some (by kernel_rfl))
  f228 := Tryz.func96.trans (congrArg some (by kernel_rfl))
  f231 := Tryz.func119.trans (congrArg some (by kernel_rfl))
  f232 := Tryz.func120.trans (congrArg some (by kernel_rfl))
  f233 := Tryz.func121.trans (congrArg some (by kernel_rfl))
  f234 := Tryz.func122.trans (congrArg some (by kernel_rfl))
  f235 := Tryz.func123.trans (congrArg some (by kernel_rfl))
  f236 := Tryz.func124.trans (congrArg some (by kernel_rfl))
  f260 := Tryz.func138.trans (congrArg some (by kernel_rfl))
  f266 := Tryz.func126.trans (congrArg some (by kernel_rfl))
  f271 := Tryz.func134.trans (congrArg some (by kernel_rfl))
  t0 := Tryz.underlying0
  a0 := Tryz.isAgg0
  z0 := Tryz.sizeOf0
  v0 := Tryz.zeroValue0
  t3 := Tryz.underlying3
  a3 := Tryz.isAgg3
  z3 := Tryz.sizeOf3
  v3 := Tryz.zeroValue3
  t4 := Tryz.underlying4
  a4 := Tryz.isAgg4
  z4 := Tryz.sizeOf4
  v4 := Tryz.zeroValue4
  t5 := Tryz.underlying5
  a5 := Tryz.isAgg5
  z5 := Tryz.sizeOf5
  v5 := Tryz.zeroValue5
  t9 := Tryz.underlying9
  a9 := Tryz.isAgg9
  z9 := Tryz.sizeOf9
  v9 := Tryz.zeroValue9
  t21 := Tryz.underlying21
  a21 := Tryz.isAgg21
  z21 := Tryz.sizeOf21
  v21 := Tryz.zeroValue21
  t46 := Tryz.underlying127
  a46 := Tryz.isAgg127
  z46 := Tryz.sizeOf127
  v46 := Tryz.zeroValue127
  t105 := Tryz.underlying158
  a105 := Tryz.isAgg158
  z105 := Tryz.sizeOf158
  v105 := Tryz.zeroValue158
  t116 := Tryz.underlying115
  a116 := Tryz.isAgg115
  z116 := Tryz.sizeOf115
  t117 := Tryz.underlying116
  a117 := Tryz.isAgg116
  z117 := Tryz.sizeOf116
  v117 := Tryz.zeroValue116
  t119 := Tryz.underlying166
  a119 := Tryz.isAgg166
  z119 := Tryz.sizeOf166
  t124 := Tryz.underlying128
  a124 := Tryz.isAgg128
  z124 := Tryz.sizeOf128
  v124 := Tryz.zeroValue128
  t138 := Tryz.underlying168
  a138 := Tryz.isAgg168
  z138 := Tryz.sizeOf168
  v138 := Tryz.zeroValue168
  t139 := Tryz.underlying169
  a139 := Tryz.isAgg169
  z139 := Tryz.sizeOf169
  v139 := Tryz.zeroValue169
  g3 := by kernel_rfl
  g4 := by kernel_rfl }
open Go.RowKit Go.Lib in
/-- strings.Trim at an ASCII cutset. -/
theorem Tryz.strings_Trim (s cutset : ByteArray) (w : World) (hs : s.size ≤ 9223372036854775807) (hcs : cutset.size < 4294967281) (hascii : ∀ (j : Nat) (b : UInt8), cutset.data.toList[j]? = some b → b.toNat < 128) :
    Calls Tryz.prog 109 #[.string s, .string cutset] w fun e w' => e = .returned (.string ⟨(Lib.trimS s.data.toList cutset.data.toList).toArray⟩) ∧ Below w.heap.size w w' := Any.strings_Trim_laid Tryz.laysT160 (by kernel_rfl) s cutset w hs hcs hascii
end Go.Proofs
