/-
  DERIVED: THE SHELF's CONTRACTS AT THIS DUMP, IN PLAIN WORDS (tools/lay-plain.mjs out of 'TrydTrimX.lean', which tools/lay-shelf.mjs wrote): THE SAME DECLARATIONS UNDER THE SAME NAMES: 'import', 'namespace', 'open', 'def', 'theorem' AND NOTHING ELSE: no command of the shelf's: FOR A HAND-IN. Each laying: the table of numbers ('.._ren') and one theorem, a field a fact of the dump's own or the kernel's comparison; each contract: ONE APPLICATION.
-/
import Derived.Shelf.Strings.SlTrimAscii
import Derived.Ground.NamesProg
import Derived.Test.YtlcchcbeebakpaaDoorProg
namespace Go.Proofs
open Go.Shelf
def Tryd.laysT160_ren : Go.Shelf.Ren := ⟨fun | 160 => 117 | 232 => 125 | 231 => 124 | 227 => 126 | 234 => 128 | 233 => 127 | 236 => 130 | 235 => 129 | 228 => 141 | 271 => 143 | 151 => 142 | 197 => 101 | 120 => 152 | 152 => 151 | 260 => 118 | 137 => 155 | 119 => 156 | 224 => 133 | 225 => 132 | 217 => 131 | 266 => 144 | n => n, fun | 9 => 9 | 4 => 4 | 3 => 3 | 5 => 5 | 117 => 126 | 116 => 125 | 0 => 0 | 124 => 129 | 21 => 21 | 105 => 108 | 46 => 131 | 119 => 130 | 139 => 134 | 138 => 133 | n => n, fun | 3 => 0 | 4 => 1 | n => n⟩
theorem Tryd.laysT160 : Go.Proofs.Lays.n160 Tryd.prog Tryd.laysT160_ren := {
  mixed := by kernel_rfl
  f119 := Tryd.func156.trans (congrArg some (by kernel_rfl))
  f120 := Tryd.func152.trans (congrArg some (by kernel_rfl))
  f137 := Tryd.func155.trans (congrArg some (by kernel_rfl))
  f151 := Tryd.func142.trans (congrArg some (by kernel_rfl))
  f152 := Tryd.func151.trans (congrArg some (by kernel_rfl))
  f160 := Tryd.func117.trans (congrArg some (by kernel_rfl))
  f197 := Tryd.func101.trans (congrArg some (by kernel_rfl))
  f217 := Tryd.func131.trans (congrArg some (by kernel_rfl))
  f224 := Tryd.func133.trans (congrArg some (by kernel_rfl))
  f225 := Tryd.func132.trans (congrArg some (by kernel_rfl))
  f227 := Tryd.func126.trans (congrArg some (by kernel_rfl))
  f228 := Tryd.func141.trans (congrArg some (by kernel_rfl))
  f231 := Tryd.func124.trans (congrArg some (by kernel_rfl))
  f232 := Tryd.func125.trans (congrArg some (by kernel_rfl))
  f233 := Tryd.func127.trans (congrArg some (by kernel_rfl))
  f234 := Tryd.func128.trans (congrArg some (by kernel_rfl))
  f235 := Tryd.func129.trans (congrArg some (by kernel_rfl))
  f236 := Tryd.func130.trans (congrArg some (by kernel_rfl))
  f260 := Tryd.func118.trans (congrArg some (by kernel_rfl))
  f266 := Tryd.func144.trans (congrArg some (by kernel_rfl))
  f271 := Tryd.func143.trans (congrArg some (by kernel_rfl))
  t0 := Tryd.underlying0
  a0 := Tryd.isAgg0
  z0 := Tryd.sizeOf0
  v0 := Tryd.zeroValue0
  t3 := Tryd.underlying3
  a3 := Tryd.isAgg3
  z3 := Tryd.sizeOf3
  v3 := Tryd.zeroValue3
  t4 := Tryd.underlying4
  a4 := Tryd.isAgg4
  z4 := Tryd.sizeOf4
  v4 := Tryd.zeroValue4
  t5 := Tryd.underlying5
  a5 := Tryd.isAgg5
  z5 := Tryd.sizeOf5
  v5 := Tryd.zeroValue5
  t9 := Tryd.underlying9
  a9 := Tryd.isAgg9
  z9 := Tryd.sizeOf9
  v9 := Tryd.zeroValue9
  t21 := Tryd.underlying21
  a21 := Tryd.isAgg21
  z21 := Tryd.sizeOf21
  v21 := Tryd.zeroValue21
  t46 := Tryd.underlying131
  a46 := Tryd.isAgg131
  z46 := Tryd.sizeOf131
  v46 := Tryd.zeroValue131
  t105 := Tryd.underlying108
  a105 := Tryd.isAgg108
  z105 := Tryd.sizeOf108
  v105 := Tryd.zeroValue108
  t116 := Tryd.underlying125
  a116 := Tryd.isAgg125
  z116 := Tryd.sizeOf125
  t117 := Tryd.underlying126
  a117 := Tryd.isAgg126
  z117 := Tryd.sizeOf126
  v117 := Tryd.zeroValue126
  t119 := Tryd.underlying130
  a119 := Tryd.isAgg130
  z119 := Tryd.sizeOf130
  t124 := Tryd.underlying129
  a124 := Tryd.isAgg129
  z124 := Tryd.sizeOf129
  v124 := Tryd.zeroValue129
  t138 := Tryd.underlying133
  a138 := Tryd.isAgg133
  z138 := Tryd.sizeOf133
  v138 := Tryd.zeroValue133
  t139 := Tryd.underlying134
  a139 := Tryd.isAgg134
  z139 := Tryd.sizeOf134
  v139 := Tryd.zeroValue134
  g3 := by kernel_rfl
  g4 := by kernel_rfl }
open Go.RowKit Go.Lib in
/-- strings.Trim at an ASCII cutset. -/
theorem Tryd.strings_Trim (s cutset : ByteArray) (w : World) (hs : s.size ≤ 9223372036854775807) (hcs : cutset.size < 4294967281) (hascii : ∀ (j : Nat) (b : UInt8), cutset.data.toList[j]? = some b → b.toNat < 128) :
    Calls Tryd.prog 117 #[.string s, .string cutset] w fun e w' => e = .returned (.string ⟨(Lib.trimS s.data.toList cutset.data.toList).toArray⟩) ∧ Below w.heap.size w w' := Any.strings_Trim_laid Tryd.laysT160 (by kernel_rfl) s cutset w hs hcs hascii
end Go.Proofs
