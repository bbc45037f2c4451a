/- What the library's functions do, at this program's numbers. -/
import Derived.Shelf.SlSortCmp.WholeK
import Derived.Shelf.SlSortCmp.NoneTotal
import Derived.Ground.SlsfProg
import Derived.Shelf.SlGeneric
import Derived.Shelf.Small.Bits
import Derived.Shelf.Strconv.Itoa0
import Derived.Shelf.Sort.Plain
import Derived.Ground.Names2Prog
import Derived.Shelf.Slices.SearchI
import Derived.Shelf.Slices.In.SortNone
import Derived.Test.YtkccakaaklemdaaProg
namespace Go.Proofs.Ytkccakaaklemdaa
open Go.Shelf
def sh_lays189_ren : Go.Shelf.Ren := ⟨fun | 189 => 41 | 125 => 55 | 257 => 54 | 128 => 73 | 129 => 74 | 294 => 64 | 295 => 65 | 296 => 66 | 297 => 67 | 298 => 68 | 299 => 69 | 216 => 70 | 300 => 71 | 301 => 72 | 328 => 84 | 329 => 85 | 330 => 86 | 331 => 87 | 332 => 88 | 215 => 61 | 343 => 92 | n => n, fun | 28 => 22 | 3 => 3 | 46 => 95 | 0 => 0 | 51 => 110 | 53 => 23 | 4 => 4 | 183 => 103 | 182 => 102 | 131 => 69 | 5 => 5 | 9 => 9 | 218 => 118 | 222 => 122 | 228 => 126 | 229 => 127 | n => n, fun | n => n⟩
theorem sh_lays189 : Go.Proofs.Lays.n189 Try.prog sh_lays189_ren := {
  mixed := by kernel_rfl
  f125 := Try.func55.trans (congrArg some (by kernel_rfl))
  f128 := Try.func73.trans (congrArg some (by kernel_rfl))
  f129 := Try.func74.trans (congrArg some (by kernel_rfl))
  f189 := Try.func41.trans (congrArg some (by kernel_rfl))
  f215 := Try.func61.trans (congrArg some (by kernel_rfl))
  f216 := Try.func70.trans (congrArg some (by kernel_rfl))
  f257 := Try.func54.trans (congrArg some (by kernel_rfl))
  f294 := Try.func64.trans (congrArg some (by kernel_rfl))
  f295 := Try.func65.trans (congrArg some (by kernel_rfl))
  f296 := Try.func66.trans (congrArg some (by kernel_rfl))
  f297 := Try.func67.trans (congrArg some (by kernel_rfl))
  f298 := Try.func68.trans (congrArg some (by kernel_rfl))
  f299 := Try.func69.trans (congrArg some (by kernel_rfl))
  f300 := Try.func71.trans (congrArg some (by kernel_rfl))
  f301 := Try.func72.trans (congrArg some (by kernel_rfl))
  f328 := Try.func84.trans (congrArg some (by kernel_rfl))
  f329 := Try.func85.trans (congrArg some (by kernel_rfl))
  f330 := Try.func86.trans (congrArg some (by kernel_rfl))
  f331 := Try.func87.trans (congrArg some (by kernel_rfl))
  f332 := Try.func88.trans (congrArg some (by kernel_rfl))
  f343 := Try.func92.trans (congrArg some (by kernel_rfl))
  t0 := Try.underlying0
  a0 := Try.isAgg0
  z0 := Try.sizeOf0
  v0 := Try.zeroValue0
  t3 := Try.underlying3
  a3 := Try.isAgg3
  z3 := Try.sizeOf3
  v3 := Try.zeroValue3
  t4 := Try.underlying4
  a4 := Try.isAgg4
  z4 := Try.sizeOf4
  v4 := Try.zeroValue4
  t5 := Try.underlying5
  a5 := Try.isAgg5
  z5 := Try.sizeOf5
  v5 := Try.zeroValue5
  t9 := Try.underlying9
  a9 := Try.isAgg9
  z9 := Try.sizeOf9
  v9 := Try.zeroValue9
  t28 := Try.underlying22
  a28 := Try.isAgg22
  z28 := Try.sizeOf22
  v28 := Try.zeroValue22
  t46 := Try.underlying95
  a46 := Try.isAgg95
  z46 := Try.sizeOf95
  v46 := Try.zeroValue95
  t51 := Try.underlying110
  a51 := Try.isAgg110
  z51 := Try.sizeOf110
  v51 := Try.zeroValue110
  t53 := Try.underlying23
  a53 := Try.isAgg23
  z53 := Try.sizeOf23
  v53 := Try.zeroValue23
  t131 := Try.underlying69
  a131 := Try.isAgg69
  z131 := Try.sizeOf69
  v131 := Try.zeroValue69
  t182 := Try.underlying102
  a182 := Try.isAgg102
  z182 := Try.sizeOf102
  v182 := Try.zeroValue102
  t183 := Try.underlying103
  a183 := Try.isAgg103
  z183 := Try.sizeOf103
  v183 := Try.zeroValue103
  t218 := Try.underlying118
  a218 := Try.isAgg118
  z218 := Try.sizeOf118
  v218 := Try.zeroValue118
  t222 := Try.underlying122
  a222 := Try.isAgg122
  z222 := Try.sizeOf122
  v222 := Try.zeroValue122
  t228 := Try.underlying126
  a228 := Try.isAgg126
  z228 := Try.sizeOf126
  v228 := Try.zeroValue126
  t229 := Try.underlying127
  a229 := Try.isAgg127
  z229 := Try.sizeOf127
  v229 := Try.zeroValue127 }
open Go.Sort Go.RowKit in
theorem sh_slices_Sort_int (blk off cap : Nat) (zs : List Int) (w : World) (hH : Holds (Value.int .i64) w blk off zs.toArray) (hblk : blk < w.heap.size) (hsz : zs.length < 4611686018427387904) :
    Calls Try.prog 41 #[.slice (some ⟨blk, off, none⟩) zs.length cap] w fun e w' =>
      e = .returned (.tuple #[]) ∧ ∃ n os, w' = grow (putRow (Value.int .i64) (Sort.ahead w n) blk off (zs.mergeSort fun x y => decide (x ≤ y)).toArray) os := Any.slices_Sort_int sh_lays189 blk off cap zs w hH hblk hsz
open Go.RowKit Go.Sort in
theorem sh_slices_Sort_int_none (p : Option Addr) (cap : Nat) (w : World) :
    Calls Try.prog 41 #[.slice p 0 cap] w fun e w' => e = .returned (.tuple #[]) ∧ w' = w := Any.slices_Sort_int_none sh_lays189 p cap w
def sh_sortV_ren : Go.Shelf.Ren := ⟨fun | 6 => 48 | 15 => 55 | 14 => 60 | 28 => 73 | 29 => 74 | 20 => 76 | 21 => 77 | 22 => 78 | 23 => 79 | 24 => 80 | 25 => 81 | 26 => 82 | 27 => 83 | 46 => 89 | 47 => 85 | 48 => 86 | 49 => 90 | 50 => 91 | 57 => 93 | n => n, fun | 22 => 27 | 24 => 38 | 25 => 90 | 3 => 3 | 39 => 95 | 0 => 0 | 53 => 110 | 55 => 23 | 4 => 4 | 46 => 103 | 45 => 102 | 50 => 69 | 5 => 5 | 9 => 9 | 66 => 118 | 70 => 122 | 76 => 126 | 77 => 127 | n => n, fun | n => n⟩
theorem sh_sortV : Go.Proofs.SlLaysF0.n6 Try.prog sh_sortV_ren := {
  mixed := by kernel_rfl
  f6 := ⟨Try.f48.name, by decide, Try.func48.trans (congrArg some (by kernel_rfl))⟩
  f14 := ⟨Try.f60.name, by decide, Try.func60.trans (congrArg some (by kernel_rfl))⟩
  f15 := Try.func55.trans (congrArg some (by kernel_rfl))
  f20 := ⟨Try.f76.name, by decide, Try.func76.trans (congrArg some (by kernel_rfl))⟩
  f21 := ⟨Try.f77.name, by decide, Try.func77.trans (congrArg some (by kernel_rfl))⟩
  f22 := ⟨Try.f78.name, by decide, Try.func78.trans (congrArg some (by kernel_rfl))⟩
  f23 := ⟨Try.f79.name, by decide, Try.func79.trans (congrArg some (by kernel_rfl))⟩
  f24 := ⟨Try.f80.name, by decide, Try.func80.trans (congrArg some (by kernel_rfl))⟩
  f25 := ⟨Try.f81.name, by decide, Try.func81.trans (congrArg some (by kernel_rfl))⟩
  f26 := ⟨Try.f82.name, by decide, Try.func82.trans (congrArg some (by kernel_rfl))⟩
  f27 := ⟨Try.f83.name, by decide, Try.func83.trans (congrArg some (by kernel_rfl))⟩
  f28 := Try.func73.trans (congrArg some (by kernel_rfl))
  f29 := Try.func74.trans (congrArg some (by kernel_rfl))
  f46 := ⟨Try.f89.name, by decide, Try.func89.trans (congrArg some (by kernel_rfl))⟩
  f47 := Try.func85.trans (congrArg some (by kernel_rfl))
  f48 := Try.func86.trans (congrArg some (by kernel_rfl))
  f49 := ⟨Try.f90.name, by decide, Try.func90.trans (congrArg some (by kernel_rfl))⟩
  f50 := ⟨Try.f91.name, by decide, Try.func91.trans (congrArg some (by kernel_rfl))⟩
  f57 := ⟨Try.f93.name, by decide, Try.func93.trans (congrArg some (by kernel_rfl))⟩
  t0 := Try.underlying0
  a0 := Try.isAgg0
  z0 := Try.sizeOf0
  v0 := Try.zeroValue0
  t3 := Try.underlying3
  a3 := Try.isAgg3
  z3 := Try.sizeOf3
  v3 := Try.zeroValue3
  t4 := Try.underlying4
  a4 := Try.isAgg4
  z4 := Try.sizeOf4
  v4 := Try.zeroValue4
  t5 := Try.underlying5
  a5 := Try.isAgg5
  z5 := Try.sizeOf5
  v5 := Try.zeroValue5
  t9 := Try.underlying9
  a9 := Try.isAgg9
  z9 := Try.sizeOf9
  v9 := Try.zeroValue9
  t22 := Try.underlying27
  a22 := Try.isAgg27
  z22 := Try.sizeOf27
  v22 := Try.zeroValue27
  t25 := Try.underlying90
  a25 := Try.isAgg90
  z25 := Try.sizeOf90
  v25 := Try.zeroValue90
  t39 := Try.underlying95
  a39 := Try.isAgg95
  z39 := Try.sizeOf95
  v39 := Try.zeroValue95
  t45 := Try.underlying102
  a45 := Try.isAgg102
  z45 := Try.sizeOf102
  v45 := Try.zeroValue102
  t46 := Try.underlying103
  a46 := Try.isAgg103
  z46 := Try.sizeOf103
  v46 := Try.zeroValue103
  t50 := Try.underlying69
  a50 := Try.isAgg69
  z50 := Try.sizeOf69
  v50 := Try.zeroValue69
  t53 := Try.underlying110
  a53 := Try.isAgg110
  z53 := Try.sizeOf110
  v53 := Try.zeroValue110
  t55 := Try.underlying23
  a55 := Try.isAgg23
  z55 := Try.sizeOf23
  v55 := Try.zeroValue23
  t66 := Try.underlying118
  a66 := Try.isAgg118
  z66 := Try.sizeOf118
  v66 := Try.zeroValue118
  t70 := Try.underlying122
  a70 := Try.isAgg122
  z70 := Try.sizeOf122
  v70 := Try.zeroValue122
  t76 := Try.underlying126
  a76 := Try.isAgg126
  z76 := Try.sizeOf126
  v76 := Try.zeroValue126
  t77 := Try.underlying127
  a77 := Try.isAgg127
  z77 := Try.sizeOf127
  v77 := Try.zeroValue127 }
end Go.Proofs.Ytkccakaaklemdaa
