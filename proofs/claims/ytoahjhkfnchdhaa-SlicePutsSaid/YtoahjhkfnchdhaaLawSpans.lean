/- SliceSpans: the walk. -/
import Derived.Test.YtoahjhkfnchdhaaAwake
namespace Go.Proofs.Ytoahjhkfnchdhaa
open Go.RowKit

theorem i64_wf {n : Int} (h : (Lit.int .i64 n).wf = true) : -9223372036854775808 ≤ n ∧ n ≤ 9223372036854775807 := by
  have e1 : IntKind.i64.min = -9223372036854775808 := by decide
  simp [Lit.wf, e1] at h
  omega

set_option maxHeartbeats 1000000 in
set_option maxRecDepth 100000 in
theorem lawSpans_calls (no u n : Int) (w : World) (hno : (Lit.int .i64 no).wf = true) :
    Calls Try.prog 3 #[.int .i64 no, .int .i64 u, .int .i64 n] w fun e w' => e = .returned (.bool true) ∧ Ext w w' := by
  have hn := (i64_wf hno).2
  have HS := Lib.hid (span_calls no u n)
  have HR := Lib.hid (refspan_calls no u n)
  have HN := Lib.hid fun W => no_calls no u W hn
  have HM := Lib.hid fun W => refno_calls no u W hn
  have HC := Lib.hid (count_calls u n)
  have HD := Lib.hid (refcount_calls u n)
  generalize spanS no u n = s at *
  generalize noS no u = k at *
  generalize countS u n = m at *
  clear hno
  go_enter Try.func3, Try.ntmps3
  go_wp2_with (first
    | (go_at_call 11; refine (awake_calls _).mono ?_; rintro e w1 ⟨rfl, hx1⟩)
    | (go_at_call 12; refine (HS.out _).mono ?_; rintro e w2 ⟨rfl, hx2⟩)
    | (go_at_call 13; refine (HR.out _).mono ?_; rintro e w3 ⟨rfl, hx3⟩)
    | (go_at_call 14; refine (HN.out _).mono ?_; rintro e w4 ⟨rfl, rfl⟩)
    | (go_at_call 15; refine (HM.out _).mono ?_; rintro e w5 ⟨rfl, rfl⟩)
    | (go_at_call 16; refine (HC.out _).mono ?_; rintro e w6 ⟨rfl, rfl⟩)
    | (go_at_call 17; refine (HD.out _).mono ?_; rintro e w7 ⟨rfl, rfl⟩))
  go_ret
  exact ⟨rfl, (hx1.trans hx2).trans hx3⟩
end Go.Proofs.Ytoahjhkfnchdhaa
