/- The layings of slices.Delete at numbers and at pointers (plain text, printed by the kit's tool). -/
import Derived.Shelf.SlicesE.Delete
import Derived.Ground.SlgnProg
import Derived.Test.YtaanbgagdanalaaProg
namespace Go.Proofs.Ytaanbgagdanalaa
open Go.Shelf
def delI_ren : Go.Shelf.Ren := ⟨fun | 45 => 64 | n => n, fun | 22 => 22 | 23 => 3 | 3 => 3 | 4 => 4 | 0 => 0 | n => n, fun | n => n⟩
theorem delI : Go.Proofs.SlLaysE.n45 Try.prog delI_ren := {
  mixed := by kernel_rfl
  f45 := ⟨Try.f64.name, by decide, Try.func64.trans (congrArg some (by kernel_rfl))⟩
  t0 := Try.underlying0
  a0 := Try.isAgg0
  z0 := Try.sizeOf0
  v0 := Try.zeroValue0
  t3 := Try.underlying3
  a3 := Try.isAgg3
  z3 := Try.sizeOf3
  v3 := Try.zeroValue3
  t4 := Try.underlying4
  a4 := Try.isAgg4
  z4 := Try.sizeOf4
  v4 := Try.zeroValue4
  t22 := Try.underlying22
  a22 := Try.isAgg22
  z22 := Try.sizeOf22
  v22 := Try.zeroValue22
  a23 := Try.isAgg3
  z23 := Try.sizeOf3 }
def delP_ren : Go.Shelf.Ren := ⟨fun | 45 => 44 | n => n, fun | 22 => 85 | 23 => 89 | 3 => 3 | 4 => 4 | 0 => 0 | n => n, fun | n => n⟩
theorem delP : Go.Proofs.SlLaysE.n45 Try.prog delP_ren := {
  mixed := by kernel_rfl
  f45 := ⟨Try.f44.name, by decide, Try.func44.trans (congrArg some (by kernel_rfl))⟩
  t0 := Try.underlying0
  a0 := Try.isAgg0
  z0 := Try.sizeOf0
  v0 := Try.zeroValue0
  t3 := Try.underlying3
  a3 := Try.isAgg3
  z3 := Try.sizeOf3
  v3 := Try.zeroValue3
  t4 := Try.underlying4
  a4 := Try.isAgg4
  z4 := Try.sizeOf4
  v4 := Try.zeroValue4
  t22 := Try.underlying85
  a22 := Try.isAgg85
  z22 := Try.sizeOf85
  v22 := Try.zeroValue85
  a23 := Try.isAgg89
  z23 := Try.sizeOf89 }
end Go.Proofs.Ytaanbgagdanalaa
