/- The layings of slices.SortFunc at spans and of cmp.Compare at int64 (plain text, printed by the kit's tool). -/
import Derived.Shelf.SlSortCmp.WholeK
import Derived.Shelf.SlicesG.Cmp
import Derived.Ground.SlsfProg
import Derived.Ground.SlgcProg
import Derived.Test.YtaanbgagdanalaaProg
namespace Go.Proofs.Ytaanbgagdanalaa.Rg
open Go.Shelf
def sortS_ren : Go.Shelf.Ren := ⟨fun | 6 => 65 | 15 => 71 | 14 => 70 | 28 => 83 | 29 => 84 | 20 => 75 | 21 => 76 | 22 => 77 | 23 => 78 | 24 => 79 | 25 => 80 | 26 => 81 | 27 => 82 | 46 => 87 | 47 => 88 | 48 => 89 | 49 => 90 | 50 => 91 | 57 => 93 | n => n, fun | 22 => 72 | 24 => 24 | 25 => 114 | 3 => 3 | 39 => 117 | 0 => 0 | 53 => 130 | 55 => 132 | 4 => 4 | 46 => 124 | 45 => 123 | 50 => 94 | 5 => 5 | 9 => 9 | 66 => 134 | 70 => 138 | 76 => 141 | 77 => 142 | n => n, fun | n => n⟩
theorem sortS : Go.Proofs.SlLaysF0.n6 Try.prog sortS_ren := {
  mixed := by kernel_rfl
  f6 := ⟨Try.f65.name, by decide, Try.func65.trans (congrArg some (by kernel_rfl))⟩
  f14 := ⟨Try.f70.name, by decide, Try.func70.trans (congrArg some (by kernel_rfl))⟩
  f15 := Try.func71.trans (congrArg some (by kernel_rfl))
  f20 := ⟨Try.f75.name, by decide, Try.func75.trans (congrArg some (by kernel_rfl))⟩
  f21 := ⟨Try.f76.name, by decide, Try.func76.trans (congrArg some (by kernel_rfl))⟩
  f22 := ⟨Try.f77.name, by decide, Try.func77.trans (congrArg some (by kernel_rfl))⟩
  f23 := ⟨Try.f78.name, by decide, Try.func78.trans (congrArg some (by kernel_rfl))⟩
  f24 := ⟨Try.f79.name, by decide, Try.func79.trans (congrArg some (by kernel_rfl))⟩
  f25 := ⟨Try.f80.name, by decide, Try.func80.trans (congrArg some (by kernel_rfl))⟩
  f26 := ⟨Try.f81.name, by decide, Try.func81.trans (congrArg some (by kernel_rfl))⟩
  f27 := ⟨Try.f82.name, by decide, Try.func82.trans (congrArg some (by kernel_rfl))⟩
  f28 := Try.func83.trans (congrArg some (by kernel_rfl))
  f29 := Try.func84.trans (congrArg some (by kernel_rfl))
  f46 := ⟨Try.f87.name, by decide, Try.func87.trans (congrArg some (by kernel_rfl))⟩
  f47 := Try.func88.trans (congrArg some (by kernel_rfl))
  f48 := Try.func89.trans (congrArg some (by kernel_rfl))
  f49 := ⟨Try.f90.name, by decide, Try.func90.trans (congrArg some (by kernel_rfl))⟩
  f50 := ⟨Try.f91.name, by decide, Try.func91.trans (congrArg some (by kernel_rfl))⟩
  f57 := ⟨Try.f93.name, by decide, Try.func93.trans (congrArg some (by kernel_rfl))⟩
  t0 := Try.underlying0
  a0 := Try.isAgg0
  z0 := Try.sizeOf0
  v0 := Try.zeroValue0
  t3 := Try.underlying3
  a3 := Try.isAgg3
  z3 := Try.sizeOf3
  v3 := Try.zeroValue3
  t4 := Try.underlying4
  a4 := Try.isAgg4
  z4 := Try.sizeOf4
  v4 := Try.zeroValue4
  t5 := Try.underlying5
  a5 := Try.isAgg5
  z5 := Try.sizeOf5
  v5 := Try.zeroValue5
  t9 := Try.underlying9
  a9 := Try.isAgg9
  z9 := Try.sizeOf9
  v9 := Try.zeroValue9
  t22 := Try.underlying72
  a22 := Try.isAgg72
  z22 := Try.sizeOf72
  v22 := Try.zeroValue72
  t25 := Try.underlying114
  a25 := Try.isAgg114
  z25 := Try.sizeOf114
  v25 := Try.zeroValue114
  t39 := Try.underlying117
  a39 := Try.isAgg117
  z39 := Try.sizeOf117
  v39 := Try.zeroValue117
  t45 := Try.underlying123
  a45 := Try.isAgg123
  z45 := Try.sizeOf123
  v45 := Try.zeroValue123
  t46 := Try.underlying124
  a46 := Try.isAgg124
  z46 := Try.sizeOf124
  v46 := Try.zeroValue124
  t50 := Try.underlying94
  a50 := Try.isAgg94
  z50 := Try.sizeOf94
  v50 := Try.zeroValue94
  t53 := Try.underlying130
  a53 := Try.isAgg130
  z53 := Try.sizeOf130
  v53 := Try.zeroValue130
  t55 := Try.underlying132
  a55 := Try.isAgg132
  z55 := Try.sizeOf132
  v55 := Try.zeroValue132
  t66 := Try.underlying134
  a66 := Try.isAgg134
  z66 := Try.sizeOf134
  v66 := Try.zeroValue134
  t70 := Try.underlying138
  a70 := Try.isAgg138
  z70 := Try.sizeOf138
  v70 := Try.zeroValue138
  t76 := Try.underlying141
  a76 := Try.isAgg141
  z76 := Try.sizeOf141
  v76 := Try.zeroValue141
  t77 := Try.underlying142
  a77 := Try.isAgg142
  z77 := Try.sizeOf142
  v77 := Try.zeroValue142 }
def cmpI_ren : Go.Shelf.Ren := ⟨fun | 5 => 67 | 7 => 72 | n => n, fun | 22 => 2 | 3 => 3 | 4 => 4 | n => n, fun | n => n⟩
theorem cmpI : Go.Proofs.SlLaysC2.n5 Try.prog cmpI_ren := {
  mixed := by kernel_rfl
  f5 := ⟨Try.f67.name, by decide, Try.func67.trans (congrArg some (by kernel_rfl))⟩
  f7 := ⟨Try.f72.name, by decide, Try.func72.trans (congrArg some (by kernel_rfl))⟩
  t3 := Try.underlying3
  a3 := Try.isAgg3
  z3 := Try.sizeOf3
  v3 := Try.zeroValue3
  t4 := Try.underlying4
  a4 := Try.isAgg4
  z4 := Try.sizeOf4
  v4 := Try.zeroValue4
  t22 := Try.underlying2
  a22 := Try.isAgg2
  z22 := Try.sizeOf2
  v22 := Try.zeroValue2 }
end Go.Proofs.Ytaanbgagdanalaa.Rg
