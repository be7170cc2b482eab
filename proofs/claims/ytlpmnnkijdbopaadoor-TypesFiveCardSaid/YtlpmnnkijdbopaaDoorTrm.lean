/-
  The library's contract of strings.Trim at this program (printed by the kit's lay-plain.mjs).
-/
import Derived.Shelf.Strings.Trim
import Derived.Shelf.Small.Utf8
import Derived.Shelf.Small.Bits
import Derived.Shelf.Small.Strs
import Derived.Shelf.Small.Wraps
import Derived.Shelf.Strconv.Itoa0
import Derived.Shelf.Strings.Search1
import Derived.Shelf.Sort.Plain
import Derived.Shelf.Strings.Prefix
import Derived.Shelf.Unicode.Decode
import Derived.Shelf.Strings.Runes
import Derived.Shelf.Strings.AsciiSet
import Derived.Shelf.Unicode.DecodeSlow
import Derived.Shelf.Unicode.DecodeAny
import Derived.Shelf.Unicode.DecodeLast
import Derived.Shelf.Slices.Turned
import Derived.Ground.Names2Prog
import Derived.Shelf.Slices.Clone
import Derived.Shelf.Slices.CompactS
import Derived.Shelf.Slices.Cells
import Derived.Shelf.Slices.In.SortNone
import Derived.Ground.SlgnProg
import Derived.Shelf.SlicesE.Clone
import Derived.Shelf.Strings.SlTrimAscii
import Derived.Test.YtlpmnnkijdbopaaDoorProg
namespace Go.Proofs.YtlpmnnkijdbopaaDoor
open Go.Shelf
def Tryd.lays160_ren : Go.Shelf.Ren := ⟨fun | 160 => 42 | 232 => 54 | 231 => 53 | 227 => 55 | 234 => 57 | 233 => 56 | 236 => 59 | 235 => 58 | 228 => 74 | 271 => 77 | 151 => 76 | 197 => 75 | 120 => 87 | 152 => 86 | 260 => 85 | 137 => 89 | 119 => 90 | 224 => 91 | 225 => 92 | 217 => 93 | 266 => 94 | n => n, fun | 9 => 9 | 4 => 4 | 3 => 3 | 5 => 5 | 117 => 90 | 116 => 89 | 0 => 0 | 124 => 93 | 21 => 21 | 105 => 107 | 46 => 77 | 119 => 119 | 139 => 122 | 138 => 121 | n => n, fun | 3 => 0 | 4 => 1 | n => n⟩
theorem Tryd.lays160 : Go.Proofs.Lays.n160 Tryd.prog Tryd.lays160_ren := {
  mixed := by kernel_rfl
  f119 := Tryd.func90.trans (congrArg some (by kernel_rfl))
  f120 := Tryd.func87.trans (congrArg some (by kernel_rfl))
  f137 := Tryd.func89.trans (congrArg some (by kernel_rfl))
  f151 := Tryd.func76.trans (congrArg some (by kernel_rfl))
  f152 := Tryd.func86.trans (congrArg some (by kernel_rfl))
  f160 := Tryd.func42.trans (congrArg some (by kernel_rfl))
  f197 := Tryd.func75.trans (congrArg some (by kernel_rfl))
  f217 := Tryd.func93.trans (congrArg some (by kernel_rfl))
  f224 := Tryd.func91.trans (congrArg some (by kernel_rfl))
  f225 := Tryd.func92.trans (congrArg some (by kernel_rfl))
  f227 := Tryd.func55.trans (congrArg some (by kernel_rfl))
  f228 := Tryd.func74.trans (congrArg some (by kernel_rfl))
  f231 := Tryd.func53.trans (congrArg some (by kernel_rfl))
  f232 := Tryd.func54.trans (congrArg some (by kernel_rfl))
  f233 := Tryd.func56.trans (congrArg some (by kernel_rfl))
  f234 := Tryd.func57.trans (congrArg some (by kernel_rfl))
  f235 := Tryd.func58.trans (congrArg some (by kernel_rfl))
  f236 := Tryd.func59.trans (congrArg some (by kernel_rfl))
  f260 := Tryd.func85.trans (congrArg some (by kernel_rfl))
  f266 := Tryd.func94.trans (congrArg some (by kernel_rfl))
  f271 := Tryd.func77.trans (congrArg some (by kernel_rfl))
  t0 := Tryd.underlying0
  a0 := Tryd.isAgg0
  z0 := Tryd.sizeOf0
  v0 := Tryd.zeroValue0
  t3 := Tryd.underlying3
  a3 := Tryd.isAgg3
  z3 := Tryd.sizeOf3
  v3 := Tryd.zeroValue3
  t4 := Tryd.underlying4
  a4 := Tryd.isAgg4
  z4 := Tryd.sizeOf4
  v4 := Tryd.zeroValue4
  t5 := Tryd.underlying5
  a5 := Tryd.isAgg5
  z5 := Tryd.sizeOf5
  v5 := Tryd.zeroValue5
  t9 := Tryd.underlying9
  a9 := Tryd.isAgg9
  z9 := Tryd.sizeOf9
  v9 := Tryd.zeroValue9
  t21 := Tryd.underlying21
  a21 := Tryd.isAgg21
  z21 := Tryd.sizeOf21
  v21 := Tryd.zeroValue21
  t46 := Tryd.underlying77
  a46 := Tryd.isAgg77
  z46 := Tryd.sizeOf77
  v46 := Tryd.zeroValue77
  t105 := Tryd.underlying107
  a105 := Tryd.isAgg107
  z105 := Tryd.sizeOf107
  v105 := Tryd.zeroValue107
  t116 := Tryd.underlying89
  a116 := Tryd.isAgg89
  z116 := Tryd.sizeOf89
  t117 := Tryd.underlying90
  a117 := Tryd.isAgg90
  z117 := Tryd.sizeOf90
  v117 := Tryd.zeroValue90
  t119 := Tryd.underlying119
  a119 := Tryd.isAgg119
  z119 := Tryd.sizeOf119
  t124 := Tryd.underlying93
  a124 := Tryd.isAgg93
  z124 := Tryd.sizeOf93
  v124 := Tryd.zeroValue93
  t138 := Tryd.underlying121
  a138 := Tryd.isAgg121
  z138 := Tryd.sizeOf121
  v138 := Tryd.zeroValue121
  t139 := Tryd.underlying122
  a139 := Tryd.isAgg122
  z139 := Tryd.sizeOf122
  v139 := Tryd.zeroValue122
  g3 := by kernel_rfl
  g4 := by kernel_rfl }
end Go.Proofs.YtlpmnnkijdbopaaDoor
