/- The contracts of span.Align, span.Within, and of an object's bytes. -/
import Derived.Test.YtdcdnnbijjcfmaaUnt
import Derived.Test.YtdcdnnbijjcfmaaFirst
import Derived.BigRegion
namespace Go.Proofs.Ytdcdnnbijjcfmaa
open Go.RowKit

/-- A span, widened. -/
def alnT (t u : Int) : Int := if t % u = 0 then t else min (t - t % u + u) 4611686018427387904
def alnS (s : Sp) (u : Int) : Sp := ⟨s.f - s.f % u, alnT s.t u⟩
set_option maxHeartbeats 2000000 in
set_option maxRecDepth 100000 in
theorem align_calls (f t u : Int) (w : World) (h0 : 0 ≤ f) (h1 : f ≤ t) (h2 : t ≤ 4611686018427387904) (hu : 4 ≤ u) (hu2 : u ≤ 1048576) :
    Calls Try.prog 47 #[.agg #[.int .i64 f, .int .i64 t], .int .i64 u] w fun e w' => e = .returned (.tuple #[(alnS ⟨f, t⟩ u).val, .int .i64 0]) ∧ Ext w w' := by
  have hR : rightB f t = true := by simp [rightB]; omega
  have HS : Hid (alnS ⟨f, t⟩ u = ⟨f - f % u, alnT t u⟩) := Lib.hid rfl
  have HT : Hid (alnT t u = if t % u = 0 then t else min (t - t % u + u) 4611686018427387904) := Lib.hid rfl
  generalize alnS ⟨f, t⟩ u = S at *
  generalize alnT t u = T at *
  have HR := Lib.hid hR
  go_enter Try.func47, Try.ntmps47
  go_wp2_with fail
  refine (right_calls _ _ _).mono ?_
  rintro e w1 ⟨rfl, hx1⟩
  rw [HR.out]
  have hx0 : Ext w ((w.alloc (.cells #[.int .i64 f, .int .i64 t] 48)).alloc (.cells #[.int .i64 0, .int .i64 0] 48)) := ((Ext.refl w).alloc _).alloc _
  have a0 : w1.cell? ⟨w.heap.size, 0, none⟩ = some (.int .i64 f) := hx1.cell (by simp [go_sem])
  have a1 : w1.cell? ⟨w.heap.size, 1, none⟩ = some (.int .i64 t) := hx1.cell (by simp [go_sem])
  have b0 : w1.cell? ⟨w.heap.size + 1, 0, none⟩ = some (.int .i64 0) := hx1.cell (by simp [go_sem])
  have b1 : w1.cell? ⟨w.heap.size + 1, 1, none⟩ = some (.int .i64 0) := hx1.cell (by simp [go_sem])
  have g0 : w1.frozen? ⟨w.heap.size + 1, 0, none⟩ = false := (hx1.frozen (by simp)).trans (by simp [go_sem])
  have g1 : w1.frozen? ⟨w.heap.size + 1, 1, none⟩ = false := (hx1.frozen (by simp)).trans (by simp [go_sem])
  have z1 : w.heap.size + 1 < w1.heap.size := by have := hx1.size; simp at this; omega
  replace hx1 := hx0.trans hx1
  clear hx0
  have z0 : w.heap.size < w1.heap.size := by omega
  have m1 : 0 ≤ f % u := Int.emod_nonneg _ (by omega)
  have m2 : f % u < u := Int.emod_lt_of_pos _ (by omega)
  have m3 : 0 ≤ t % u := Int.emod_nonneg _ (by omega)
  have m4 : t % u < u := Int.emod_lt_of_pos _ (by omega)
  have m5 : f % u ≤ f := by have := Int.emod_nonneg f (show u ≠ 0 by omega); have := Int.emod_add_mul_ediv f u; have := Int.mul_nonneg (show 0 ≤ u by omega) (Int.ediv_nonneg h0 (show 0 ≤ u by omega)); omega
  have m6 : t % u ≤ t := by have := Int.emod_add_mul_ediv t u; have := Int.mul_nonneg (show 0 ≤ u by omega) (Int.ediv_nonneg (show 0 ≤ t by omega) (show 0 ≤ u by omega)); omega
  have hu0 : u ≠ 0 := by omega
  go_wp2
  go_region
  have hx2 : Ext w1 (w1.alloc (.cells #[.int .i64 (f - (f % u)), .int .i64 t] 48)).drew := ((Ext.refl w1).alloc _).drew
  have p0 : (w1.alloc (.cells #[.int .i64 (f - (f % u)), .int .i64 t] 48)).drew.cell? ⟨w1.heap.size, 0, none⟩ = some (.int .i64 (f - (f % u))) := by simp [go_sem]
  have p1 : (w1.alloc (.cells #[.int .i64 (f - (f % u)), .int .i64 t] 48)).drew.cell? ⟨w1.heap.size, 1, none⟩ = some (.int .i64 t) := by simp [go_sem]
  have q1 : (w1.alloc (.cells #[.int .i64 (f - (f % u)), .int .i64 t] 48)).drew.frozen? ⟨w1.heap.size, 1, none⟩ = false := by simp [go_sem]
  generalize (w1.alloc (.cells #[.int .i64 (f - (f % u)), .int .i64 t] 48)).drew = w2 at *
  replace a1 := hx2.cell a1
  replace b0 := hx2.cell b0
  replace b1 := hx2.cell b1
  replace g0 := (hx2.frozen (by simpa using z1)).trans g0
  replace g1 := (hx2.frozen (by simpa using z1)).trans g1
  have hn : w1.heap.size ≠ w.heap.size + 1 := by omega
  have hbx : w.heap.size ≤ w1.heap.size := by omega
  generalize w1.heap.size = xb at *
  replace hx1 := hx1.trans hx2
  clear hx2 a0
  by_cases e : t % u = 0
  · have HT2 : Hid (T = t) := Lib.hid (by rw [HT.out, if_pos e])
    have e9 : (t % u != 0) = false := by simp [e]
    clear HT e
    go_wp2
    refine bodyPost_ret (v := .tuple #[.agg #[.int .i64 (f - (f % u)), .int .i64 t], .int .i64 0]) (by simp [results, Try.results47, go_sem, b0, b1]) rfl ⟨by rw [HS.out, HT2.out]; rfl, ?_⟩
    refine Ext.setCell (Ext.setCell hx1 ?_ _) ?_ _ <;> (show w.heap.size ≤ w.heap.size + 1; omega)
  · have HT2 : Hid (T = min (t - t % u + u) 4611686018427387904) := Lib.hid (by rw [HT.out, if_neg e])
    have e9 : (t % u != 0) = true := by simp [e]
    clear HT e
    go_wp2
    refine bodyPost_ret (v := .tuple #[.agg #[.int .i64 (f - (f % u)), .int .i64 (min (t - t % u + u) 4611686018427387904)], .int .i64 0]) (by simp [results, Try.results47, go_sem, b0, b1]) rfl ⟨by rw [HS.out, HT2.out]; rfl, ?_⟩
    refine Ext.setCell (Ext.setCell (Ext.setCell hx1 ?_ _) ?_ _) ?_ _ <;> first | exact hbx | (show w.heap.size ≤ w.heap.size + 1; omega)

def objT (n : Int) : Int := if n = -1 then 4611686018427387904 else n
set_option maxHeartbeats 1000000 in
theorem object_calls (n : Int) (w : World) : Calls Try.prog 45 #[.int .i64 n] w fun e w' => e = .returned (.agg #[.int .i64 0, .int .i64 (objT n)]) ∧ Ext w w' := by
  obtain ⟨m, hm⟩ : ∃ m, objT n = m := ⟨_, rfl⟩
  rw [hm]
  unfold objT at hm
  by_cases e1 : n = -1
  all_goals
    have HM := Lib.hid hm
    clear hm
    go_enter Try.func45, Try.ntmps45
    go_wp2
  · have HM2 : Hid (m = 4611686018427387904) := Lib.hid (by rw [← HM.out, if_pos e1])
    refine bodyPost_ret (v := .agg #[.int .i64 0, .int .i64 4611686018427387904]) (by simp [results, Try.results45, go_sem]) rfl ⟨by rw [HM2.out], ?_⟩
    exact (Ext.refl w).alloc _
  · have HM2 : Hid (m = n) := Lib.hid (by rw [← HM.out, if_neg e1])
    refine bodyPost_ret (v := .agg #[.int .i64 0, .int .i64 n]) (by simp [results, Try.results45, go_sem]) rfl ⟨by rw [HM2.out], ?_⟩
    exact (Ext.refl w).alloc _

def withinB (a b : Sp) : Bool := rightB a.f a.t && rightB b.f b.t && (a.f == a.t || (decide (b.f ≤ a.f) && decide (a.t ≤ b.t)))
set_option maxHeartbeats 2000000 in
set_option maxRecDepth 100000 in
theorem within_calls (a b : Sp) (w : World) :
    Calls Try.prog 56 #[.agg #[.int .i64 a.f, .int .i64 a.t], .agg #[.int .i64 b.f, .int .i64 b.t]] w fun e w' => e = .returned (.bool (withinB a b)) ∧ Ext w w' := by
  have hx0 : Ext w ((w.alloc (.cells #[.int .i64 a.f, .int .i64 a.t] 48)).alloc (.cells #[.int .i64 b.f, .int .i64 b.t] 48)) := ((Ext.refl w).alloc _).alloc _
  obtain ⟨af, at_⟩ := a
  obtain ⟨bf, bt⟩ := b
  have hd : withinB ⟨af, at_⟩ ⟨bf, bt⟩ = (rightB af at_ && rightB bf bt && (af == at_ || (decide (bf ≤ af) && decide (at_ ≤ bt)))) := rfl
  generalize withinB ⟨af, at_⟩ ⟨bf, bt⟩ = R at *
  have HD := Lib.hid hd
  clear hd
  simp only at hx0 ⊢
  go_enter Try.func56, Try.ntmps56
  go_wp2_with fail
  refine (right_calls _ _ _).mono ?_
  rintro e w1 ⟨rfl, hx1⟩
  have a0 : w1.cell? ⟨w.heap.size, 0, none⟩ = some (.int .i64 af) := hx1.cell (by simp [go_sem])
  have a1 : w1.cell? ⟨w.heap.size, 1, none⟩ = some (.int .i64 at_) := hx1.cell (by simp [go_sem])
  have b0 : w1.cell? ⟨w.heap.size + 1, 0, none⟩ = some (.int .i64 bf) := hx1.cell (by simp [go_sem])
  have b1 : w1.cell? ⟨w.heap.size + 1, 1, none⟩ = some (.int .i64 bt) := hx1.cell (by simp [go_sem])
  replace hx1 := hx0.trans hx1
  clear hx0
  cases e1 : rightB af at_
  · have HD2 : Hid (R = false) := Lib.hid (by rw [HD.out, e1]; rfl)
    clear HD
    go_wp2
    go_ret
    exact ⟨by rw [HD2.out]; rfl, hx1⟩
  · go_wp2_with fail
    refine (right_calls _ _ _).mono ?_
    rintro e w2 ⟨rfl, hx2⟩
    replace a0 := hx2.cell a0
    replace a1 := hx2.cell a1
    replace b0 := hx2.cell b0
    replace b1 := hx2.cell b1
    replace hx2 := hx1.trans hx2
    clear hx1
    cases e2 : rightB bf bt
    · have HD2 : Hid (R = false) := Lib.hid (by rw [HD.out, e1, e2]; rfl)
      clear HD
      go_wp2
      go_ret
      exact ⟨by rw [HD2.out]; rfl, hx2⟩
    · have HD2 : Hid (R = (af == at_ || (decide (bf ≤ af) && decide (at_ ≤ bt)))) := Lib.hid (by rw [HD.out, e1, e2]; rfl)
      clear HD
      cases e3 : (af == at_)
      · by_cases e4 : bf ≤ af
        · have HD3 : Hid (R = decide (at_ ≤ bt)) := Lib.hid (by rw [HD2.out, e3]; simp [e4])
          clear HD2
          go_wp2
          go_ret
          exact ⟨by rw [HD3.out]; rfl, hx2⟩
        · have HD3 : Hid (R = false) := Lib.hid (by rw [HD2.out, e3]; simp [e4])
          clear HD2
          go_wp2
          go_ret
          exact ⟨by rw [HD3.out]; rfl, hx2⟩
      · have HD3 : Hid (R = true) := Lib.hid (by rw [HD2.out, e3]; rfl)
        clear HD2
        go_wp2
        go_ret
        exact ⟨by rw [HD3.out]; rfl, hx2⟩
end Go.Proofs.Ytdcdnnbijjcfmaa
