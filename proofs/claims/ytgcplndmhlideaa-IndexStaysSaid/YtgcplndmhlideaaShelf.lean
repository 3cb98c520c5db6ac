/- The layings of slices.SortFunc at spans and of cmp.Compare at int64 (plain text, printed by the kit's tool). -/
import Derived.Shelf.SlSortCmp.WholeK
import Derived.Shelf.SlicesG.Cmp
import Derived.Ground.SlsfProg
import Derived.Ground.SlgcProg
import Derived.Test.YtgcplndmhlideaaProg
namespace Go.Proofs.Ytgcplndmhlideaa
open Go.Shelf
def sortS_ren : Go.Shelf.Ren := ⟨fun | 6 => 62 | 15 => 77 | 14 => 76 | 28 => 89 | 29 => 71 | 20 => 81 | 21 => 82 | 22 => 83 | 23 => 84 | 24 => 85 | 25 => 86 | 26 => 87 | 27 => 88 | 46 => 90 | 47 => 91 | 48 => 92 | 49 => 93 | 50 => 94 | 57 => 95 | n => n, fun | 22 => 62 | 24 => 74 | 25 => 133 | 3 => 3 | 39 => 140 | 0 => 0 | 53 => 161 | 55 => 98 | 4 => 4 | 46 => 154 | 45 => 153 | 50 => 158 | 5 => 5 | 9 => 9 | 66 => 162 | 70 => 166 | 76 => 168 | 77 => 169 | n => n, fun | n => n⟩
theorem sortS : Go.Proofs.SlLaysF0.n6 Try.prog sortS_ren := {
  mixed := by kernel_rfl
  f6 := ⟨Try.f62.name, by decide, Try.func62.trans (congrArg some (by kernel_rfl))⟩
  f14 := ⟨Try.f76.name, by decide, Try.func76.trans (congrArg some (by kernel_rfl))⟩
  f15 := Try.func77.trans (congrArg some (by kernel_rfl))
  f20 := ⟨Try.f81.name, by decide, Try.func81.trans (congrArg some (by kernel_rfl))⟩
  f21 := ⟨Try.f82.name, by decide, Try.func82.trans (congrArg some (by kernel_rfl))⟩
  f22 := ⟨Try.f83.name, by decide, Try.func83.trans (congrArg some (by kernel_rfl))⟩
  f23 := ⟨Try.f84.name, by decide, Try.func84.trans (congrArg some (by kernel_rfl))⟩
  f24 := ⟨Try.f85.name, by decide, Try.func85.trans (congrArg some (by kernel_rfl))⟩
  f25 := ⟨Try.f86.name, by decide, Try.func86.trans (congrArg some (by kernel_rfl))⟩
  f26 := ⟨Try.f87.name, by decide, Try.func87.trans (congrArg some (by kernel_rfl))⟩
  f27 := ⟨Try.f88.name, by decide, Try.func88.trans (congrArg some (by kernel_rfl))⟩
  f28 := Try.func89.trans (congrArg some (by kernel_rfl))
  f29 := Try.func71.trans (congrArg some (by kernel_rfl))
  f46 := ⟨Try.f90.name, by decide, Try.func90.trans (congrArg some (by kernel_rfl))⟩
  f47 := Try.func91.trans (congrArg some (by kernel_rfl))
  f48 := Try.func92.trans (congrArg some (by kernel_rfl))
  f49 := ⟨Try.f93.name, by decide, Try.func93.trans (congrArg some (by kernel_rfl))⟩
  f50 := ⟨Try.f94.name, by decide, Try.func94.trans (congrArg some (by kernel_rfl))⟩
  f57 := ⟨Try.f95.name, by decide, Try.func95.trans (congrArg some (by kernel_rfl))⟩
  t0 := Try.underlying0
  a0 := Try.isAgg0
  z0 := Try.sizeOf0
  v0 := Try.zeroValue0
  t3 := Try.underlying3
  a3 := Try.isAgg3
  z3 := Try.sizeOf3
  v3 := Try.zeroValue3
  t4 := Try.underlying4
  a4 := Try.isAgg4
  z4 := Try.sizeOf4
  v4 := Try.zeroValue4
  t5 := Try.underlying5
  a5 := Try.isAgg5
  z5 := Try.sizeOf5
  v5 := Try.zeroValue5
  t9 := Try.underlying9
  a9 := Try.isAgg9
  z9 := Try.sizeOf9
  v9 := Try.zeroValue9
  t22 := Try.underlying62
  a22 := Try.isAgg62
  z22 := Try.sizeOf62
  v22 := Try.zeroValue62
  t25 := Try.underlying133
  a25 := Try.isAgg133
  z25 := Try.sizeOf133
  v25 := Try.zeroValue133
  t39 := Try.underlying140
  a39 := Try.isAgg140
  z39 := Try.sizeOf140
  v39 := Try.zeroValue140
  t45 := Try.underlying153
  a45 := Try.isAgg153
  z45 := Try.sizeOf153
  v45 := Try.zeroValue153
  t46 := Try.underlying154
  a46 := Try.isAgg154
  z46 := Try.sizeOf154
  v46 := Try.zeroValue154
  t50 := Try.underlying158
  a50 := Try.isAgg158
  z50 := Try.sizeOf158
  v50 := Try.zeroValue158
  t53 := Try.underlying161
  a53 := Try.isAgg161
  z53 := Try.sizeOf161
  v53 := Try.zeroValue161
  t55 := Try.underlying98
  a55 := Try.isAgg98
  z55 := Try.sizeOf98
  v55 := Try.zeroValue98
  t66 := Try.underlying162
  a66 := Try.isAgg162
  z66 := Try.sizeOf162
  v66 := Try.zeroValue162
  t70 := Try.underlying166
  a70 := Try.isAgg166
  z70 := Try.sizeOf166
  v70 := Try.zeroValue166
  t76 := Try.underlying168
  a76 := Try.isAgg168
  z76 := Try.sizeOf168
  v76 := Try.zeroValue168
  t77 := Try.underlying169
  a77 := Try.isAgg169
  z77 := Try.sizeOf169
  v77 := Try.zeroValue169 }
def cmpI_ren : Go.Shelf.Ren := ⟨fun | 5 => 64 | 7 => 78 | n => n, fun | 22 => 2 | 3 => 3 | 4 => 4 | n => n, fun | n => n⟩
theorem cmpI : Go.Proofs.SlLaysC2.n5 Try.prog cmpI_ren := {
  mixed := by kernel_rfl
  f5 := ⟨Try.f64.name, by decide, Try.func64.trans (congrArg some (by kernel_rfl))⟩
  f7 := ⟨Try.f78.name, by decide, Try.func78.trans (congrArg some (by kernel_rfl))⟩
  t3 := Try.underlying3
  a3 := Try.isAgg3
  z3 := Try.sizeOf3
  v3 := Try.zeroValue3
  t4 := Try.underlying4
  a4 := Try.isAgg4
  z4 := Try.sizeOf4
  v4 := Try.zeroValue4
  t22 := Try.underlying2
  a22 := Try.isAgg2
  z22 := Try.sizeOf2
  v22 := Try.zeroValue2 }
end Go.Proofs.Ytgcplndmhlideaa
