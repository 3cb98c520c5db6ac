/- The walk of PlanLimits, in the frame's words. -/
import Derived.Test.YtdcdnnbijjcfmaaLawLimits
import Derived.ChangeShapes
namespace Go.Proofs.Ytdcdnnbijjcfmaa
open Go.RowKit

theorem u8_wf {x : Int} (h : (Lit.int .u8 x).wf = true) : 0 ≤ x ∧ x ≤ 255 := by
  simp [Lit.wf] at h
  have h1 : IntKind.u8.min = 0 := rfl
  have h2 : IntKind.u8.max = 255 := rfl
  omega
theorem lawLimits_walk (j : Jb) (x y : Int) (w : World) (hg : SAt w j.g.A j.g.l) (hf : SAt w j.f.A j.f.l) (hlg : j.g.l.length ≤ 9223372036854775807) (hlf : j.f.l.length ≤ 9223372036854775807) (wx : (Lit.int .u8 x).wf = true) (wy : (Lit.int .u8 y).wf = true) :
    Calls Try.prog 5 #[.agg j.cells.toArray, .int .u8 x, .int .u8 y] w fun e w' => e = .returned (.bool true) ∧ Ext w w' :=
  lawLimits_calls j x y (u8_wf wx) (u8_wf wy) w hg hf hlg hlf
end Go.Proofs.Ytdcdnnbijjcfmaa
