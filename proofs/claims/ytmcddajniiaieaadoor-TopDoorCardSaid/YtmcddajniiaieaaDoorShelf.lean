/- The layings of slices.SortFunc at spans and of cmp.Compare at int64 (plain text, printed by the kit's tool). -/
import Derived.Shelf.SlSortCmp.WholeK
import Derived.Shelf.SlicesG.Cmp
import Derived.Ground.SlsfProg
import Derived.Ground.SlgcProg
import Derived.Test.YtmcddajniiaieaaDoorProg
namespace Go.Proofs.YtmcddajniiaieaaDoor
open Go.Shelf
def sortS_ren : Go.Shelf.Ren := ⟨fun | 6 => 30 | 15 => 49 | 14 => 48 | 28 => 62 | 29 => 63 | 20 => 54 | 21 => 55 | 22 => 56 | 23 => 57 | 24 => 58 | 25 => 59 | 26 => 60 | 27 => 61 | 46 => 66 | 47 => 67 | 48 => 68 | 49 => 69 | 50 => 70 | 57 => 75 | n => n, fun | 22 => 45 | 24 => 50 | 25 => 77 | 3 => 3 | 39 => 114 | 0 => 0 | 53 => 126 | 55 => 32 | 4 => 4 | 46 => 119 | 45 => 118 | 50 => 123 | 5 => 5 | 9 => 9 | 66 => 129 | 70 => 133 | 76 => 140 | 77 => 141 | n => n, fun | n => n⟩
theorem sortS : Go.Proofs.SlLaysF0.n6 Tryd.prog sortS_ren := {
  mixed := by kernel_rfl
  f6 := ⟨Tryd.f30.name, by decide, Tryd.func30.trans (congrArg some (by kernel_rfl))⟩
  f14 := ⟨Tryd.f48.name, by decide, Tryd.func48.trans (congrArg some (by kernel_rfl))⟩
  f15 := Tryd.func49.trans (congrArg some (by kernel_rfl))
  f20 := ⟨Tryd.f54.name, by decide, Tryd.func54.trans (congrArg some (by kernel_rfl))⟩
  f21 := ⟨Tryd.f55.name, by decide, Tryd.func55.trans (congrArg some (by kernel_rfl))⟩
  f22 := ⟨Tryd.f56.name, by decide, Tryd.func56.trans (congrArg some (by kernel_rfl))⟩
  f23 := ⟨Tryd.f57.name, by decide, Tryd.func57.trans (congrArg some (by kernel_rfl))⟩
  f24 := ⟨Tryd.f58.name, by decide, Tryd.func58.trans (congrArg some (by kernel_rfl))⟩
  f25 := ⟨Tryd.f59.name, by decide, Tryd.func59.trans (congrArg some (by kernel_rfl))⟩
  f26 := ⟨Tryd.f60.name, by decide, Tryd.func60.trans (congrArg some (by kernel_rfl))⟩
  f27 := ⟨Tryd.f61.name, by decide, Tryd.func61.trans (congrArg some (by kernel_rfl))⟩
  f28 := Tryd.func62.trans (congrArg some (by kernel_rfl))
  f29 := Tryd.func63.trans (congrArg some (by kernel_rfl))
  f46 := ⟨Tryd.f66.name, by decide, Tryd.func66.trans (congrArg some (by kernel_rfl))⟩
  f47 := Tryd.func67.trans (congrArg some (by kernel_rfl))
  f48 := Tryd.func68.trans (congrArg some (by kernel_rfl))
  f49 := ⟨Tryd.f69.name, by decide, Tryd.func69.trans (congrArg some (by kernel_rfl))⟩
  f50 := ⟨Tryd.f70.name, by decide, Tryd.func70.trans (congrArg some (by kernel_rfl))⟩
  f57 := ⟨Tryd.f75.name, by decide, Tryd.func75.trans (congrArg some (by kernel_rfl))⟩
  t0 := Tryd.underlying0
  a0 := Tryd.isAgg0
  z0 := Tryd.sizeOf0
  v0 := Tryd.zeroValue0
  t3 := Tryd.underlying3
  a3 := Tryd.isAgg3
  z3 := Tryd.sizeOf3
  v3 := Tryd.zeroValue3
  t4 := Tryd.underlying4
  a4 := Tryd.isAgg4
  z4 := Tryd.sizeOf4
  v4 := Tryd.zeroValue4
  t5 := Tryd.underlying5
  a5 := Tryd.isAgg5
  z5 := Tryd.sizeOf5
  v5 := Tryd.zeroValue5
  t9 := Tryd.underlying9
  a9 := Tryd.isAgg9
  z9 := Tryd.sizeOf9
  v9 := Tryd.zeroValue9
  t22 := Tryd.underlying45
  a22 := Tryd.isAgg45
  z22 := Tryd.sizeOf45
  v22 := Tryd.zeroValue45
  t25 := Tryd.underlying77
  a25 := Tryd.isAgg77
  z25 := Tryd.sizeOf77
  v25 := Tryd.zeroValue77
  t39 := Tryd.underlying114
  a39 := Tryd.isAgg114
  z39 := Tryd.sizeOf114
  v39 := Tryd.zeroValue114
  t45 := Tryd.underlying118
  a45 := Tryd.isAgg118
  z45 := Tryd.sizeOf118
  v45 := Tryd.zeroValue118
  t46 := Tryd.underlying119
  a46 := Tryd.isAgg119
  z46 := Tryd.sizeOf119
  v46 := Tryd.zeroValue119
  t50 := Tryd.underlying123
  a50 := Tryd.isAgg123
  z50 := Tryd.sizeOf123
  v50 := Tryd.zeroValue123
  t53 := Tryd.underlying126
  a53 := Tryd.isAgg126
  z53 := Tryd.sizeOf126
  v53 := Tryd.zeroValue126
  t55 := Tryd.underlying32
  a55 := Tryd.isAgg32
  z55 := Tryd.sizeOf32
  v55 := Tryd.zeroValue32
  t66 := Tryd.underlying129
  a66 := Tryd.isAgg129
  z66 := Tryd.sizeOf129
  v66 := Tryd.zeroValue129
  t70 := Tryd.underlying133
  a70 := Tryd.isAgg133
  z70 := Tryd.sizeOf133
  v70 := Tryd.zeroValue133
  t76 := Tryd.underlying140
  a76 := Tryd.isAgg140
  z76 := Tryd.sizeOf140
  v76 := Tryd.zeroValue140
  t77 := Tryd.underlying141
  a77 := Tryd.isAgg141
  z77 := Tryd.sizeOf141
  v77 := Tryd.zeroValue141 }
def cmpI_ren : Go.Shelf.Ren := ⟨fun | 5 => 32 | 7 => 50 | n => n, fun | 22 => 2 | 3 => 3 | 4 => 4 | n => n, fun | n => n⟩
theorem cmpI : Go.Proofs.SlLaysC2.n5 Tryd.prog cmpI_ren := {
  mixed := by kernel_rfl
  f5 := ⟨Tryd.f32.name, by decide, Tryd.func32.trans (congrArg some (by kernel_rfl))⟩
  f7 := ⟨Tryd.f50.name, by decide, Tryd.func50.trans (congrArg some (by kernel_rfl))⟩
  t3 := Tryd.underlying3
  a3 := Tryd.isAgg3
  z3 := Tryd.sizeOf3
  v3 := Tryd.zeroValue3
  t4 := Tryd.underlying4
  a4 := Tryd.isAgg4
  z4 := Tryd.sizeOf4
  v4 := Tryd.zeroValue4
  t22 := Tryd.underlying2
  a22 := Tryd.isAgg2
  z22 := Tryd.sizeOf2
  v22 := Tryd.zeroValue2 }
end Go.Proofs.YtmcddajniiaieaaDoor
