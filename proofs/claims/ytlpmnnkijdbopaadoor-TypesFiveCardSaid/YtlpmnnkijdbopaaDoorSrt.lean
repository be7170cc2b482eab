/-
  The library's contracts at this program (printed by the kit's lay-shelf.mjs and lay-plain.mjs).
-/
import Derived.Shelf.Strings.Trim
import Derived.Shelf.Small.Utf8
import Derived.Shelf.Small.Bits
import Derived.Shelf.Small.Strs
import Derived.Shelf.Small.Wraps
import Derived.Shelf.Strconv.Itoa0
import Derived.Shelf.Strings.Search1
import Derived.Shelf.Sort.Plain
import Derived.Shelf.Strings.Prefix
import Derived.Shelf.Unicode.Decode
import Derived.Shelf.Strings.Runes
import Derived.Shelf.Strings.AsciiSet
import Derived.Shelf.Unicode.DecodeSlow
import Derived.Shelf.Unicode.DecodeAny
import Derived.Shelf.Unicode.DecodeLast
import Derived.Shelf.Slices.Turned
import Derived.Ground.Names2Prog
import Derived.Shelf.Slices.Clone
import Derived.Shelf.Slices.CompactS
import Derived.Shelf.Slices.Cells
import Derived.Shelf.Slices.In.SortNone
import Derived.Ground.SlgnProg
import Derived.Shelf.SlicesE.Clone
import Derived.Test.YtlpmnnkijdbopaaDoorProg
namespace Go.Proofs.YtlpmnnkijdbopaaDoor
open Go.Shelf
def Tryd.lays190_ren : Go.Shelf.Ren := ⟨fun | 190 => 27 | 125 => 44 | 258 => 43 | 128 => 69 | 129 => 70 | 302 => 60 | 303 => 61 | 304 => 62 | 305 => 63 | 306 => 64 | 307 => 65 | 308 => 66 | 309 => 67 | 310 => 68 | 333 => 78 | 329 => 79 | 330 => 80 | 334 => 81 | 335 => 82 | 336 => 83 | 344 => 88 | n => n, fun | 31 => 32 | 9 => 9 | 3 => 3 | 46 => 77 | 0 => 0 | 51 => 103 | 53 => 105 | 4 => 4 | 183 => 96 | 182 => 95 | 131 => 100 | 5 => 5 | 218 => 110 | 222 => 81 | 228 => 116 | 229 => 117 | n => n, fun | n => n⟩
theorem Tryd.lays190 : Go.Proofs.Lays.n190 Tryd.prog Tryd.lays190_ren := {
  mixed := by kernel_rfl
  f125 := Tryd.func44.trans (congrArg some (by kernel_rfl))
  f128 := Tryd.func69.trans (congrArg some (by kernel_rfl))
  f129 := Tryd.func70.trans (congrArg some (by kernel_rfl))
  f190 := Tryd.func27.trans (congrArg some (by kernel_rfl))
  f258 := Tryd.func43.trans (congrArg some (by kernel_rfl))
  f302 := Tryd.func60.trans (congrArg some (by kernel_rfl))
  f303 := Tryd.func61.trans (congrArg some (by kernel_rfl))
  f304 := Tryd.func62.trans (congrArg some (by kernel_rfl))
  f305 := Tryd.func63.trans (congrArg some (by kernel_rfl))
  f306 := Tryd.func64.trans (congrArg some (by kernel_rfl))
  f307 := Tryd.func65.trans (congrArg some (by kernel_rfl))
  f308 := Tryd.func66.trans (congrArg some (by kernel_rfl))
  f309 := Tryd.func67.trans (congrArg some (by kernel_rfl))
  f310 := Tryd.func68.trans (congrArg some (by kernel_rfl))
  f329 := Tryd.func79.trans (congrArg some (by kernel_rfl))
  f330 := Tryd.func80.trans (congrArg some (by kernel_rfl))
  f333 := Tryd.func78.trans (congrArg some (by kernel_rfl))
  f334 := Tryd.func81.trans (congrArg some (by kernel_rfl))
  f335 := Tryd.func82.trans (congrArg some (by kernel_rfl))
  f336 := Tryd.func83.trans (congrArg some (by kernel_rfl))
  f344 := Tryd.func88.trans (congrArg some (by kernel_rfl))
  t0 := Tryd.underlying0
  a0 := Tryd.isAgg0
  z0 := Tryd.sizeOf0
  v0 := Tryd.zeroValue0
  t3 := Tryd.underlying3
  a3 := Tryd.isAgg3
  z3 := Tryd.sizeOf3
  v3 := Tryd.zeroValue3
  t4 := Tryd.underlying4
  a4 := Tryd.isAgg4
  z4 := Tryd.sizeOf4
  v4 := Tryd.zeroValue4
  t5 := Tryd.underlying5
  a5 := Tryd.isAgg5
  z5 := Tryd.sizeOf5
  v5 := Tryd.zeroValue5
  t9 := Tryd.underlying9
  a9 := Tryd.isAgg9
  z9 := Tryd.sizeOf9
  v9 := Tryd.zeroValue9
  t31 := Tryd.underlying32
  a31 := Tryd.isAgg32
  z31 := Tryd.sizeOf32
  v31 := Tryd.zeroValue32
  t46 := Tryd.underlying77
  a46 := Tryd.isAgg77
  z46 := Tryd.sizeOf77
  v46 := Tryd.zeroValue77
  t51 := Tryd.underlying103
  a51 := Tryd.isAgg103
  z51 := Tryd.sizeOf103
  v51 := Tryd.zeroValue103
  t53 := Tryd.underlying105
  a53 := Tryd.isAgg105
  z53 := Tryd.sizeOf105
  v53 := Tryd.zeroValue105
  t131 := Tryd.underlying100
  a131 := Tryd.isAgg100
  z131 := Tryd.sizeOf100
  v131 := Tryd.zeroValue100
  t182 := Tryd.underlying95
  a182 := Tryd.isAgg95
  z182 := Tryd.sizeOf95
  v182 := Tryd.zeroValue95
  t183 := Tryd.underlying96
  a183 := Tryd.isAgg96
  z183 := Tryd.sizeOf96
  v183 := Tryd.zeroValue96
  t218 := Tryd.underlying110
  a218 := Tryd.isAgg110
  z218 := Tryd.sizeOf110
  v218 := Tryd.zeroValue110
  t222 := Tryd.underlying81
  a222 := Tryd.isAgg81
  z222 := Tryd.sizeOf81
  v222 := Tryd.zeroValue81
  t228 := Tryd.underlying116
  a228 := Tryd.isAgg116
  z228 := Tryd.sizeOf116
  v228 := Tryd.zeroValue116
  t229 := Tryd.underlying117
  a229 := Tryd.isAgg117
  z229 := Tryd.sizeOf117
  v229 := Tryd.zeroValue117 }
open Go.Sort Go.RowKit in
theorem Tryd.slices_Sort_string (blk off cap : Nat) (ss : List (List UInt8)) (w : World) (hH : Holds encStr w blk off ss.toArray) (hblk : blk < w.heap.size) (hsz : ss.length < 4611686018427387904) :
    Calls Tryd.prog 27 #[.slice (some ⟨blk, off, none⟩) ss.length cap] w fun e w' =>
      e = .returned (.tuple #[]) ∧ ∃ n os, w' = grow (putRow encStr (Sort.ahead w n) blk off (ss.mergeSort fun x y => decide (x ≤ y)).toArray) os := Any.slices_Sort_string Tryd.lays190 blk off cap ss w hH hblk hsz
open Go.RowKit Go.Sort in
theorem Tryd.slices_Sort_string_none (p : Option Addr) (cap : Nat) (w : World) :
    Calls Tryd.prog 27 #[.slice p 0 cap] w fun e w' => e = .returned (.tuple #[]) ∧ w' = w := Any.slices_Sort_string_none Tryd.lays190 p cap w
end Go.Proofs.YtlpmnnkijdbopaaDoor
