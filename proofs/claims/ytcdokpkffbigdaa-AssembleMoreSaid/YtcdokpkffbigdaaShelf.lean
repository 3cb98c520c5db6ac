/- The layings of slices.SortFunc at spans and of cmp.Compare at int64 (plain text, printed by the kit's tool). -/
import Derived.Shelf.SlSortCmp.WholeK
import Derived.Shelf.SlicesG.Cmp
import Derived.Ground.SlsfProg
import Derived.Ground.SlgcProg
import Derived.Test.YtcdokpkffbigdaaProg
namespace Go.Proofs.Ytcdokpkffbigdaa
open Go.Shelf
def sortS_ren : Go.Shelf.Ren := ⟨fun | 6 => 36 | 15 => 53 | 14 => 52 | 28 => 68 | 29 => 69 | 20 => 60 | 21 => 61 | 22 => 62 | 23 => 63 | 24 => 64 | 25 => 65 | 26 => 66 | 27 => 67 | 46 => 72 | 47 => 73 | 48 => 74 | 49 => 75 | 50 => 76 | 57 => 77 | n => n, fun | 22 => 32 | 24 => 37 | 25 => 80 | 3 => 3 | 39 => 94 | 0 => 0 | 53 => 110 | 55 => 112 | 4 => 4 | 46 => 103 | 45 => 102 | 50 => 107 | 5 => 5 | 9 => 9 | 66 => 115 | 70 => 119 | 76 => 121 | 77 => 122 | n => n, fun | n => n⟩
theorem sortS : Go.Proofs.SlLaysF0.n6 Try.prog sortS_ren := {
  mixed := by kernel_rfl
  f6 := ⟨Try.f36.name, by decide, Try.func36.trans (congrArg some (by kernel_rfl))⟩
  f14 := ⟨Try.f52.name, by decide, Try.func52.trans (congrArg some (by kernel_rfl))⟩
  f15 := Try.func53.trans (congrArg some (by kernel_rfl))
  f20 := ⟨Try.f60.name, by decide, Try.func60.trans (congrArg some (by kernel_rfl))⟩
  f21 := ⟨Try.f61.name, by decide, Try.func61.trans (congrArg some (by kernel_rfl))⟩
  f22 := ⟨Try.f62.name, by decide, Try.func62.trans (congrArg some (by kernel_rfl))⟩
  f23 := ⟨Try.f63.name, by decide, Try.func63.trans (congrArg some (by kernel_rfl))⟩
  f24 := ⟨Try.f64.name, by decide, Try.func64.trans (congrArg some (by kernel_rfl))⟩
  f25 := ⟨Try.f65.name, by decide, Try.func65.trans (congrArg some (by kernel_rfl))⟩
  f26 := ⟨Try.f66.name, by decide, Try.func66.trans (congrArg some (by kernel_rfl))⟩
  f27 := ⟨Try.f67.name, by decide, Try.func67.trans (congrArg some (by kernel_rfl))⟩
  f28 := Try.func68.trans (congrArg some (by kernel_rfl))
  f29 := Try.func69.trans (congrArg some (by kernel_rfl))
  f46 := ⟨Try.f72.name, by decide, Try.func72.trans (congrArg some (by kernel_rfl))⟩
  f47 := Try.func73.trans (congrArg some (by kernel_rfl))
  f48 := Try.func74.trans (congrArg some (by kernel_rfl))
  f49 := ⟨Try.f75.name, by decide, Try.func75.trans (congrArg some (by kernel_rfl))⟩
  f50 := ⟨Try.f76.name, by decide, Try.func76.trans (congrArg some (by kernel_rfl))⟩
  f57 := ⟨Try.f77.name, by decide, Try.func77.trans (congrArg some (by kernel_rfl))⟩
  t0 := Try.underlying0
  a0 := Try.isAgg0
  z0 := Try.sizeOf0
  v0 := Try.zeroValue0
  t3 := Try.underlying3
  a3 := Try.isAgg3
  z3 := Try.sizeOf3
  v3 := Try.zeroValue3
  t4 := Try.underlying4
  a4 := Try.isAgg4
  z4 := Try.sizeOf4
  v4 := Try.zeroValue4
  t5 := Try.underlying5
  a5 := Try.isAgg5
  z5 := Try.sizeOf5
  v5 := Try.zeroValue5
  t9 := Try.underlying9
  a9 := Try.isAgg9
  z9 := Try.sizeOf9
  v9 := Try.zeroValue9
  t22 := Try.underlying32
  a22 := Try.isAgg32
  z22 := Try.sizeOf32
  v22 := Try.zeroValue32
  t25 := Try.underlying80
  a25 := Try.isAgg80
  z25 := Try.sizeOf80
  v25 := Try.zeroValue80
  t39 := Try.underlying94
  a39 := Try.isAgg94
  z39 := Try.sizeOf94
  v39 := Try.zeroValue94
  t45 := Try.underlying102
  a45 := Try.isAgg102
  z45 := Try.sizeOf102
  v45 := Try.zeroValue102
  t46 := Try.underlying103
  a46 := Try.isAgg103
  z46 := Try.sizeOf103
  v46 := Try.zeroValue103
  t50 := Try.underlying107
  a50 := Try.isAgg107
  z50 := Try.sizeOf107
  v50 := Try.zeroValue107
  t53 := Try.underlying110
  a53 := Try.isAgg110
  z53 := Try.sizeOf110
  v53 := Try.zeroValue110
  t55 := Try.underlying112
  a55 := Try.isAgg112
  z55 := Try.sizeOf112
  v55 := Try.zeroValue112
  t66 := Try.underlying115
  a66 := Try.isAgg115
  z66 := Try.sizeOf115
  v66 := Try.zeroValue115
  t70 := Try.underlying119
  a70 := Try.isAgg119
  z70 := Try.sizeOf119
  v70 := Try.zeroValue119
  t76 := Try.underlying121
  a76 := Try.isAgg121
  z76 := Try.sizeOf121
  v76 := Try.zeroValue121
  t77 := Try.underlying122
  a77 := Try.isAgg122
  z77 := Try.sizeOf122
  v77 := Try.zeroValue122 }
def cmpI_ren : Go.Shelf.Ren := ⟨fun | 5 => 38 | 7 => 54 | n => n, fun | 22 => 2 | 3 => 3 | 4 => 4 | n => n, fun | n => n⟩
theorem cmpI : Go.Proofs.SlLaysC2.n5 Try.prog cmpI_ren := {
  mixed := by kernel_rfl
  f5 := ⟨Try.f38.name, by decide, Try.func38.trans (congrArg some (by kernel_rfl))⟩
  f7 := ⟨Try.f54.name, by decide, Try.func54.trans (congrArg some (by kernel_rfl))⟩
  t3 := Try.underlying3
  a3 := Try.isAgg3
  z3 := Try.sizeOf3
  v3 := Try.zeroValue3
  t4 := Try.underlying4
  a4 := Try.isAgg4
  z4 := Try.sizeOf4
  v4 := Try.zeroValue4
  t22 := Try.underlying2
  a22 := Try.isAgg2
  z22 := Try.sizeOf2
  v22 := Try.zeroValue2 }
end Go.Proofs.Ytcdokpkffbigdaa
