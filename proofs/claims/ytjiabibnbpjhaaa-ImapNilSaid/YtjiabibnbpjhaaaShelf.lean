/- The layings of slices.SortFunc at spans and of cmp.Compare at int64 (plain text, printed by the kit's tool). -/
import Derived.Shelf.SlSortCmp.WholeK
import Derived.Shelf.SlicesG.Cmp
import Derived.Ground.SlsfProg
import Derived.Ground.SlgcProg
import Derived.Test.YtjiabibnbpjhaaaProg
namespace Go.Proofs.Ytjiabibnbpjhaaa.Rg
open Go.Shelf
def sortS_ren : Go.Shelf.Ren := ⟨fun | 6 => 52 | 15 => 57 | 14 => 56 | 28 => 67 | 29 => 68 | 20 => 59 | 21 => 60 | 22 => 61 | 23 => 62 | 24 => 63 | 25 => 64 | 26 => 65 | 27 => 66 | 46 => 69 | 47 => 70 | 48 => 71 | 49 => 72 | 50 => 73 | 57 => 74 | n => n, fun | 22 => 63 | 24 => 34 | 25 => 91 | 3 => 3 | 39 => 95 | 0 => 0 | 53 => 105 | 55 => 107 | 4 => 4 | 46 => 99 | 45 => 98 | 50 => 59 | 5 => 5 | 9 => 9 | 66 => 108 | 70 => 112 | 76 => 114 | 77 => 115 | n => n, fun | n => n⟩
theorem sortS : Go.Proofs.SlLaysF0.n6 Try.prog sortS_ren := {
  mixed := by kernel_rfl
  f6 := ⟨Try.f52.name, by decide, Try.func52.trans (congrArg some (by kernel_rfl))⟩
  f14 := ⟨Try.f56.name, by decide, Try.func56.trans (congrArg some (by kernel_rfl))⟩
  f15 := Try.func57.trans (congrArg some (by kernel_rfl))
  f20 := ⟨Try.f59.name, by decide, Try.func59.trans (congrArg some (by kernel_rfl))⟩
  f21 := ⟨Try.f60.name, by decide, Try.func60.trans (congrArg some (by kernel_rfl))⟩
  f22 := ⟨Try.f61.name, by decide, Try.func61.trans (congrArg some (by kernel_rfl))⟩
  f23 := ⟨Try.f62.name, by decide, Try.func62.trans (congrArg some (by kernel_rfl))⟩
  f24 := ⟨Try.f63.name, by decide, Try.func63.trans (congrArg some (by kernel_rfl))⟩
  f25 := ⟨Try.f64.name, by decide, Try.func64.trans (congrArg some (by kernel_rfl))⟩
  f26 := ⟨Try.f65.name, by decide, Try.func65.trans (congrArg some (by kernel_rfl))⟩
  f27 := ⟨Try.f66.name, by decide, Try.func66.trans (congrArg some (by kernel_rfl))⟩
  f28 := Try.func67.trans (congrArg some (by kernel_rfl))
  f29 := Try.func68.trans (congrArg some (by kernel_rfl))
  f46 := ⟨Try.f69.name, by decide, Try.func69.trans (congrArg some (by kernel_rfl))⟩
  f47 := Try.func70.trans (congrArg some (by kernel_rfl))
  f48 := Try.func71.trans (congrArg some (by kernel_rfl))
  f49 := ⟨Try.f72.name, by decide, Try.func72.trans (congrArg some (by kernel_rfl))⟩
  f50 := ⟨Try.f73.name, by decide, Try.func73.trans (congrArg some (by kernel_rfl))⟩
  f57 := ⟨Try.f74.name, by decide, Try.func74.trans (congrArg some (by kernel_rfl))⟩
  t0 := Try.underlying0
  a0 := Try.isAgg0
  z0 := Try.sizeOf0
  v0 := Try.zeroValue0
  t3 := Try.underlying3
  a3 := Try.isAgg3
  z3 := Try.sizeOf3
  v3 := Try.zeroValue3
  t4 := Try.underlying4
  a4 := Try.isAgg4
  z4 := Try.sizeOf4
  v4 := Try.zeroValue4
  t5 := Try.underlying5
  a5 := Try.isAgg5
  z5 := Try.sizeOf5
  v5 := Try.zeroValue5
  t9 := Try.underlying9
  a9 := Try.isAgg9
  z9 := Try.sizeOf9
  v9 := Try.zeroValue9
  t22 := Try.underlying63
  a22 := Try.isAgg63
  z22 := Try.sizeOf63
  v22 := Try.zeroValue63
  t25 := Try.underlying91
  a25 := Try.isAgg91
  z25 := Try.sizeOf91
  v25 := Try.zeroValue91
  t39 := Try.underlying95
  a39 := Try.isAgg95
  z39 := Try.sizeOf95
  v39 := Try.zeroValue95
  t45 := Try.underlying98
  a45 := Try.isAgg98
  z45 := Try.sizeOf98
  v45 := Try.zeroValue98
  t46 := Try.underlying99
  a46 := Try.isAgg99
  z46 := Try.sizeOf99
  v46 := Try.zeroValue99
  t50 := Try.underlying59
  a50 := Try.isAgg59
  z50 := Try.sizeOf59
  v50 := Try.zeroValue59
  t53 := Try.underlying105
  a53 := Try.isAgg105
  z53 := Try.sizeOf105
  v53 := Try.zeroValue105
  t55 := Try.underlying107
  a55 := Try.isAgg107
  z55 := Try.sizeOf107
  v55 := Try.zeroValue107
  t66 := Try.underlying108
  a66 := Try.isAgg108
  z66 := Try.sizeOf108
  v66 := Try.zeroValue108
  t70 := Try.underlying112
  a70 := Try.isAgg112
  z70 := Try.sizeOf112
  v70 := Try.zeroValue112
  t76 := Try.underlying114
  a76 := Try.isAgg114
  z76 := Try.sizeOf114
  v76 := Try.zeroValue114
  t77 := Try.underlying115
  a77 := Try.isAgg115
  z77 := Try.sizeOf115
  v77 := Try.zeroValue115 }
def cmpI_ren : Go.Shelf.Ren := ⟨fun | 5 => 54 | 7 => 58 | n => n, fun | 22 => 2 | 3 => 3 | 4 => 4 | n => n, fun | n => n⟩
theorem cmpI : Go.Proofs.SlLaysC2.n5 Try.prog cmpI_ren := {
  mixed := by kernel_rfl
  f5 := ⟨Try.f54.name, by decide, Try.func54.trans (congrArg some (by kernel_rfl))⟩
  f7 := ⟨Try.f58.name, by decide, Try.func58.trans (congrArg some (by kernel_rfl))⟩
  t3 := Try.underlying3
  a3 := Try.isAgg3
  z3 := Try.sizeOf3
  v3 := Try.zeroValue3
  t4 := Try.underlying4
  a4 := Try.isAgg4
  z4 := Try.sizeOf4
  v4 := Try.zeroValue4
  t22 := Try.underlying2
  a22 := Try.isAgg2
  z22 := Try.sizeOf2
  v22 := Try.zeroValue2 }
end Go.Proofs.Ytjiabibnbpjhaaa.Rg
