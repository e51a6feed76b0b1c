/- slices.SortFunc at the type names.Segment, laid from the kit's shelf by its own program. -/
import Derived.Shelf.SlGeneric
import Derived.Shelf.SlSortCmp.WholeK
import Derived.Shelf.SlSortCmp.NoneTotal
import Derived.Ground.SlsfProg
import Derived.Test.YtbnplhbepkggpaaDoorProg
namespace Go.Proofs
open Go.Shelf
def Tryd.sortSeg_ren : Go.Shelf.Ren := ⟨fun | 6 => 27 | 15 => 40 | 14 => 39 | 28 => 59 | 29 => 60 | 20 => 51 | 21 => 52 | 22 => 53 | 23 => 54 | 24 => 55 | 25 => 56 | 26 => 57 | 27 => 58 | 46 => 76 | 47 => 77 | 48 => 78 | 49 => 79 | 50 => 80 | 57 => 87 | n => n, fun | 22 => 37 | 24 => 48 | 25 => 63 | 3 => 3 | 39 => 67 | 0 => 0 | 53 => 91 | 55 => 86 | 4 => 4 | 46 => 99 | 45 => 98 | 50 => 103 | 5 => 5 | 9 => 9 | 66 => 119 | 70 => 123 | 76 => 128 | 77 => 129 | n => n, fun | n => n⟩
theorem Tryd.sortSeg : Go.Proofs.SlLaysF0.n6 Tryd.prog Tryd.sortSeg_ren := {
  mixed := by kernel_rfl
  f6 := ⟨Tryd.f27.name, by decide, Tryd.func27.trans (congrArg some (by kernel_rfl))⟩
  f14 := ⟨Tryd.f39.name, by decide, Tryd.func39.trans (congrArg some (by kernel_rfl))⟩
  f15 := Tryd.func40.trans (congrArg some (by kernel_rfl))
  f20 := ⟨Tryd.f51.name, by decide, Tryd.func51.trans (congrArg some (by kernel_rfl))⟩
  f21 := ⟨Tryd.f52.name, by decide, Tryd.func52.trans (congrArg some (by kernel_rfl))⟩
  f22 := ⟨Tryd.f53.name, by decide, Tryd.func53.trans (congrArg some (by kernel_rfl))⟩
  f23 := ⟨Tryd.f54.name, by decide, Tryd.func54.trans (congrArg some (by kernel_rfl))⟩
  f24 := ⟨Tryd.f55.name, by decide, Tryd.func55.trans (congrArg some (by kernel_rfl))⟩
  f25 := ⟨Tryd.f56.name, by decide, Tryd.func56.trans (congrArg some (by kernel_rfl))⟩
  f26 := ⟨Tryd.f57.name, by decide, Tryd.func57.trans (congrArg some (by kernel_rfl))⟩
  f27 := ⟨Tryd.f58.name, by decide, Tryd.func58.trans (congrArg some (by kernel_rfl))⟩
  f28 := Tryd.func59.trans (congrArg some (by kernel_rfl))
  f29 := Tryd.func60.trans (congrArg some (by kernel_rfl))
  f46 := ⟨Tryd.f76.name, by decide, Tryd.func76.trans (congrArg some (by kernel_rfl))⟩
  f47 := Tryd.func77.trans (congrArg some (by kernel_rfl))
  f48 := Tryd.func78.trans (congrArg some (by kernel_rfl))
  f49 := ⟨Tryd.f79.name, by decide, Tryd.func79.trans (congrArg some (by kernel_rfl))⟩
  f50 := ⟨Tryd.f80.name, by decide, Tryd.func80.trans (congrArg some (by kernel_rfl))⟩
  f57 := ⟨Tryd.f87.name, by decide, Tryd.func87.trans (congrArg some (by kernel_rfl))⟩
  t0 := Tryd.underlying0
  a0 := Tryd.isAgg0
  z0 := Tryd.sizeOf0
  v0 := Tryd.zeroValue0
  t3 := Tryd.underlying3
  a3 := Tryd.isAgg3
  z3 := Tryd.sizeOf3
  v3 := Tryd.zeroValue3
  t4 := Tryd.underlying4
  a4 := Tryd.isAgg4
  z4 := Tryd.sizeOf4
  v4 := Tryd.zeroValue4
  t5 := Tryd.underlying5
  a5 := Tryd.isAgg5
  z5 := Tryd.sizeOf5
  v5 := Tryd.zeroValue5
  t9 := Tryd.underlying9
  a9 := Tryd.isAgg9
  z9 := Tryd.sizeOf9
  v9 := Tryd.zeroValue9
  t22 := Tryd.underlying37
  a22 := Tryd.isAgg37
  z22 := Tryd.sizeOf37
  v22 := Tryd.zeroValue37
  t25 := Tryd.underlying63
  a25 := Tryd.isAgg63
  z25 := Tryd.sizeOf63
  v25 := Tryd.zeroValue63
  t39 := Tryd.underlying67
  a39 := Tryd.isAgg67
  z39 := Tryd.sizeOf67
  v39 := Tryd.zeroValue67
  t45 := Tryd.underlying98
  a45 := Tryd.isAgg98
  z45 := Tryd.sizeOf98
  v45 := Tryd.zeroValue98
  t46 := Tryd.underlying99
  a46 := Tryd.isAgg99
  z46 := Tryd.sizeOf99
  v46 := Tryd.zeroValue99
  t50 := Tryd.underlying103
  a50 := Tryd.isAgg103
  z50 := Tryd.sizeOf103
  v50 := Tryd.zeroValue103
  t53 := Tryd.underlying91
  a53 := Tryd.isAgg91
  z53 := Tryd.sizeOf91
  v53 := Tryd.zeroValue91
  t55 := Tryd.underlying86
  a55 := Tryd.isAgg86
  z55 := Tryd.sizeOf86
  v55 := Tryd.zeroValue86
  t66 := Tryd.underlying119
  a66 := Tryd.isAgg119
  z66 := Tryd.sizeOf119
  v66 := Tryd.zeroValue119
  t70 := Tryd.underlying123
  a70 := Tryd.isAgg123
  z70 := Tryd.sizeOf123
  v70 := Tryd.zeroValue123
  t76 := Tryd.underlying128
  a76 := Tryd.isAgg128
  z76 := Tryd.sizeOf128
  v76 := Tryd.zeroValue128
  t77 := Tryd.underlying129
  a77 := Tryd.isAgg129
  z77 := Tryd.sizeOf129
  v77 := Tryd.zeroValue129 }
end Go.Proofs
