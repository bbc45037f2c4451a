/- What the library's functions do, at this program's numbers. -/
import Derived.Shelf.SlSortCmp.WholeK
import Derived.Shelf.SlSortCmp.NoneTotal
import Derived.Ground.SlsfProg
import Derived.Shelf.SlGeneric
import Derived.Shelf.Small.Bits
import Derived.Shelf.Strconv.Itoa0
import Derived.Test.YtibmfpcbjopojaaProg
namespace Go.Proofs.Ytibmfpcbjopojaa
open Go.Shelf
def sh_sortV_ren : Go.Shelf.Ren := ⟨fun | 6 => 76 | 15 => 100 | 14 => 99 | 28 => 115 | 29 => 116 | 20 => 107 | 21 => 108 | 22 => 109 | 23 => 110 | 24 => 111 | 25 => 112 | 26 => 113 | 27 => 114 | 46 => 119 | 47 => 120 | 48 => 121 | 49 => 122 | 50 => 123 | 57 => 125 | n => n, fun | 22 => 27 | 24 => 37 | 25 => 117 | 3 => 3 | 39 => 135 | 0 => 0 | 53 => 148 | 55 => 23 | 4 => 4 | 46 => 142 | 45 => 141 | 50 => 94 | 5 => 5 | 9 => 9 | 66 => 151 | 70 => 155 | 76 => 157 | 77 => 158 | n => n, fun | n => n⟩
theorem sh_sortV : Go.Proofs.SlLaysF0.n6 Try.prog sh_sortV_ren := {
  mixed := by kernel_rfl
  f6 := ⟨Try.f76.name, by decide, Try.func76.trans (congrArg some (by kernel_rfl))⟩
  f14 := ⟨Try.f99.name, by decide, Try.func99.trans (congrArg some (by kernel_rfl))⟩
  f15 := Try.func100.trans (congrArg some (by kernel_rfl))
  f20 := ⟨Try.f107.name, by decide, Try.func107.trans (congrArg some (by kernel_rfl))⟩
  f21 := ⟨Try.f108.name, by decide, Try.func108.trans (congrArg some (by kernel_rfl))⟩
  f22 := ⟨Try.f109.name, by decide, Try.func109.trans (congrArg some (by kernel_rfl))⟩
  f23 := ⟨Try.f110.name, by decide, Try.func110.trans (congrArg some (by kernel_rfl))⟩
  f24 := ⟨Try.f111.name, by decide, Try.func111.trans (congrArg some (by kernel_rfl))⟩
  f25 := ⟨Try.f112.name, by decide, Try.func112.trans (congrArg some (by kernel_rfl))⟩
  f26 := ⟨Try.f113.name, by decide, Try.func113.trans (congrArg some (by kernel_rfl))⟩
  f27 := ⟨Try.f114.name, by decide, Try.func114.trans (congrArg some (by kernel_rfl))⟩
  f28 := Try.func115.trans (congrArg some (by kernel_rfl))
  f29 := Try.func116.trans (congrArg some (by kernel_rfl))
  f46 := ⟨Try.f119.name, by decide, Try.func119.trans (congrArg some (by kernel_rfl))⟩
  f47 := Try.func120.trans (congrArg some (by kernel_rfl))
  f48 := Try.func121.trans (congrArg some (by kernel_rfl))
  f49 := ⟨Try.f122.name, by decide, Try.func122.trans (congrArg some (by kernel_rfl))⟩
  f50 := ⟨Try.f123.name, by decide, Try.func123.trans (congrArg some (by kernel_rfl))⟩
  f57 := ⟨Try.f125.name, by decide, Try.func125.trans (congrArg some (by kernel_rfl))⟩
  t0 := Try.underlying0
  a0 := Try.isAgg0
  z0 := Try.sizeOf0
  v0 := Try.zeroValue0
  t3 := Try.underlying3
  a3 := Try.isAgg3
  z3 := Try.sizeOf3
  v3 := Try.zeroValue3
  t4 := Try.underlying4
  a4 := Try.isAgg4
  z4 := Try.sizeOf4
  v4 := Try.zeroValue4
  t5 := Try.underlying5
  a5 := Try.isAgg5
  z5 := Try.sizeOf5
  v5 := Try.zeroValue5
  t9 := Try.underlying9
  a9 := Try.isAgg9
  z9 := Try.sizeOf9
  v9 := Try.zeroValue9
  t22 := Try.underlying27
  a22 := Try.isAgg27
  z22 := Try.sizeOf27
  v22 := Try.zeroValue27
  t25 := Try.underlying117
  a25 := Try.isAgg117
  z25 := Try.sizeOf117
  v25 := Try.zeroValue117
  t39 := Try.underlying135
  a39 := Try.isAgg135
  z39 := Try.sizeOf135
  v39 := Try.zeroValue135
  t45 := Try.underlying141
  a45 := Try.isAgg141
  z45 := Try.sizeOf141
  v45 := Try.zeroValue141
  t46 := Try.underlying142
  a46 := Try.isAgg142
  z46 := Try.sizeOf142
  v46 := Try.zeroValue142
  t50 := Try.underlying94
  a50 := Try.isAgg94
  z50 := Try.sizeOf94
  v50 := Try.zeroValue94
  t53 := Try.underlying148
  a53 := Try.isAgg148
  z53 := Try.sizeOf148
  v53 := Try.zeroValue148
  t55 := Try.underlying23
  a55 := Try.isAgg23
  z55 := Try.sizeOf23
  v55 := Try.zeroValue23
  t66 := Try.underlying151
  a66 := Try.isAgg151
  z66 := Try.sizeOf151
  v66 := Try.zeroValue151
  t70 := Try.underlying155
  a70 := Try.isAgg155
  z70 := Try.sizeOf155
  v70 := Try.zeroValue155
  t76 := Try.underlying157
  a76 := Try.isAgg157
  z76 := Try.sizeOf157
  v76 := Try.zeroValue157
  t77 := Try.underlying158
  a77 := Try.isAgg158
  z77 := Try.sizeOf158
  v77 := Try.zeroValue158 }
end Go.Proofs.Ytibmfpcbjopojaa
