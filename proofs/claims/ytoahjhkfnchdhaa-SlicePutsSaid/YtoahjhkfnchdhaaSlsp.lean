/- The contracts of slice.Span, No, Count and of their references. -/
import Derived.Test.YtoahjhkfnchdhaaUnit
namespace Go.Proofs.Ytoahjhkfnchdhaa
open Go.RowKit

/-- The bytes of a slice. -/
def cutE (no u n : Int) : Int := if n = -1 then (no + 1) * u else min ((no + 1) * u) n
def spanOk (no u n : Int) : Bool := unitB u && (lengthB n && (decide (0 ≤ no) && (decide (no < 1099511627776 / u) && decide (no * u < cutE no u n))))
def spanS (no u n : Int) : Sp := if spanOk no u n then ⟨no * u, cutE no u n⟩ else ⟨0, 0⟩
theorem no_bound {no u : Int} (hu : unitB u = true) (h0 : 0 ≤ no) (h1 : no < 1099511627776 / u) : 0 ≤ no * u ∧ (no + 1) * u ≤ 1099511627776 ∧ no * u < (no + 1) * u ∧ no ≤ no * u := by
  obtain ⟨a, b⟩ := unit_bound hu
  have h2 : no + 1 ≤ 1099511627776 / u := by omega
  have h3 : (no + 1) * u ≤ 1099511627776 / u * u := Int.mul_le_mul_of_nonneg_right h2 (by omega)
  have h4 : 1099511627776 / u * u ≤ 1099511627776 := Int.ediv_mul_le _ (by omega)
  have h5 : (no + 1) * u = no * u + u := by rw [Int.add_mul, Int.one_mul]
  have h6 : 0 ≤ no * u := Int.mul_nonneg h0 (by omega)
  have h7 : no * 1 ≤ no * u := Int.mul_le_mul_of_nonneg_left (by omega) h0
  omega
theorem quo_lt (u : Int) (h : 1 ≤ u) : (1099511627776 : Int).tdiv u = 1099511627776 / u := Int.tdiv_eq_ediv_of_nonneg (by omega)

set_option maxHeartbeats 4000000 in
set_option maxRecDepth 100000 in
theorem span_calls (no u n : Int) (w : World) :
    Calls Try.prog 12 #[.int .i64 no, .int .i64 u, .int .i64 n] w fun e w' => e = .returned (.agg #[.int .i64 (spanS no u n).f, .int .i64 (spanS no u n).t]) ∧ Ext w w' := by
  have bad : spanOk no u n = false → spanS no u n = ⟨0, 0⟩ := fun h => by unfold spanS; rw [h]; rfl
  by_cases hn0 : no < 0
  · cases eU : unitB u <;> cases eL : lengthB n
    all_goals
      have HB := Lib.hid (bad (by unfold spanOk; rw [show decide (0 ≤ no) = false from decide_eq_false (by omega)]; simp))
      clear bad
      go_enter Try.func12, Try.ntmps12
      go_wp2_with (first | (go_at_call 35; refine (unitary_calls _ _).mono ?_; rw [eU]; rintro e w1 ⟨rfl, rfl⟩) | (go_at_call 36; refine (lengthy_calls _ _).mono ?_; rw [eL]; rintro e w1 ⟨rfl, rfl⟩))
      refine bodyPost_ret (v := .agg #[.int .i64 0, .int .i64 0]) (by simp [results, Try.results12, go_sem]) rfl ⟨by rw [HB.out], ?_⟩
      (first | exact (Ext.refl w).alloc _ | (refine Ext.alloc ?_ _; exact (Ext.refl w).alloc _) | (repeat' first | exact Ext.refl w | refine Ext.alloc ?_ _ | refine Ext.setCell ?_ ?_ _) <;> (first | exact Nat.le_refl _ | (show w.heap.size ≤ w.heap.size + 1; omega)))
  cases eU : unitB u
  · cases eL : lengthB n
    all_goals
      have HB := Lib.hid (bad (by unfold spanOk; rw [eU]; rfl))
      clear bad
      go_enter Try.func12, Try.ntmps12
      go_wp2_with (first | (go_at_call 35; refine (unitary_calls _ _).mono ?_; rw [eU]; rintro e w1 ⟨rfl, rfl⟩) | (go_at_call 36; refine (lengthy_calls _ _).mono ?_; rw [eL]; rintro e w1 ⟨rfl, rfl⟩))
      refine bodyPost_ret (v := .agg #[.int .i64 0, .int .i64 0]) (by simp [results, Try.results12, go_sem]) rfl ⟨by rw [HB.out], ?_⟩
      (first | exact (Ext.refl w).alloc _ | (refine Ext.alloc ?_ _; exact (Ext.refl w).alloc _) | (repeat' first | exact Ext.refl w | refine Ext.alloc ?_ _ | refine Ext.setCell ?_ ?_ _) <;> (first | exact Nat.le_refl _ | (show w.heap.size ≤ w.heap.size + 1; omega)))
  obtain ⟨u1, u2⟩ := unit_bound eU
  cases eL : lengthB n
  · 
    have HB := Lib.hid (bad (by unfold spanOk; rw [eU, eL]; rfl))
    clear bad
    go_enter Try.func12, Try.ntmps12
    go_wp2_with (first | (go_at_call 35; refine (unitary_calls _ _).mono ?_; rw [eU]; rintro e w1 ⟨rfl, rfl⟩) | (go_at_call 36; refine (lengthy_calls _ _).mono ?_; rw [eL]; rintro e w1 ⟨rfl, rfl⟩))
    refine bodyPost_ret (v := .agg #[.int .i64 0, .int .i64 0]) (by simp [results, Try.results12, go_sem]) rfl ⟨by rw [HB.out], ?_⟩
    (first | exact (Ext.refl w).alloc _ | (refine Ext.alloc ?_ _; exact (Ext.refl w).alloc _) | (repeat' first | exact Ext.refl w | refine Ext.alloc ?_ _ | refine Ext.setCell ?_ ?_ _) <;> (first | exact Nat.le_refl _ | (show w.heap.size ≤ w.heap.size + 1; omega)))
  by_cases hq : no < 1099511627776 / u
  · have hl : -1 ≤ n ∧ n ≤ 1099511627776 := by simpa [lengthB] using eL
    obtain ⟨l1, l2⟩ := hl
    obtain ⟨m1, m2, m3, m4⟩ := no_bound eU (by omega) hq
    have hnb : no ≤ 1099511627776 := by omega
    have hok : spanOk no u n = decide (no * u < cutE no u n) := by
      unfold spanOk
      rw [eU, eL, show decide (0 ≤ no) = true from decide_eq_true (by omega), show decide (no < 1099511627776 / u) = true from decide_eq_true hq]
      rfl
    have m5 : (no + 1) * u = no * u + u := by rw [Int.add_mul, Int.one_mul]
    by_cases hn1 : n = -1
    · have hc : spanS no u n = ⟨no * u, (no + 1) * u⟩ := by
        unfold spanS
        rw [hok]
        unfold cutE
        rw [if_pos hn1, if_pos (decide_eq_true m3)]
      subst hn1
      have HB := Lib.hid hc
      have HM5 := Lib.hid m5
      clear bad hok hc m5
      go_enter Try.func12, Try.ntmps12
      go_wp2_with (first | (go_at_call 35; refine (unitary_calls _ _).mono ?_; rw [eU]; rintro e w1 ⟨rfl, rfl⟩) | (go_at_call 36; refine (lengthy_calls _ _).mono ?_; rw [eL]; rintro e w1 ⟨rfl, rfl⟩))
      refine bodyPost_ret (v := .agg #[.int .i64 (no * u), .int .i64 ((no + 1) * u)]) (by simp [results, Try.results12, go_sem]) rfl ⟨by rw [HB.out], ?_⟩
      (first | exact (Ext.refl w).alloc _ | (refine Ext.alloc ?_ _; exact (Ext.refl w).alloc _) | (repeat' first | exact Ext.refl w | refine Ext.alloc ?_ _ | refine Ext.setCell ?_ ?_ _) <;> (first | exact Nat.le_refl _ | (show w.heap.size ≤ w.heap.size + 1; omega)))
    · by_cases hft : no * u < min ((no + 1) * u) n
      · have hc : spanS no u n = ⟨no * u, min ((no + 1) * u) n⟩ := by
          unfold spanS
          rw [hok]
          unfold cutE
          rw [if_neg hn1, if_pos (decide_eq_true hft)]
        have HB := Lib.hid hc
        have n0 : 0 ≤ n := by omega
        have HM5 := Lib.hid m5
        clear bad hok hc m5 hn1
        go_enter Try.func12, Try.ntmps12
        go_wp2_with (first | (go_at_call 35; refine (unitary_calls _ _).mono ?_; rw [eU]; rintro e w1 ⟨rfl, rfl⟩) | (go_at_call 36; refine (lengthy_calls _ _).mono ?_; rw [eL]; rintro e w1 ⟨rfl, rfl⟩))
        refine bodyPost_ret (v := .agg #[.int .i64 (no * u), .int .i64 (min ((no + 1) * u) n)]) (by simp [results, Try.results12, go_sem]) rfl ⟨by rw [HB.out], ?_⟩
        (first | exact (Ext.refl w).alloc _ | (refine Ext.alloc ?_ _; exact (Ext.refl w).alloc _) | (repeat' first | exact Ext.refl w | refine Ext.alloc ?_ _ | refine Ext.setCell ?_ ?_ _) <;> (first | exact Nat.le_refl _ | (show w.heap.size ≤ w.heap.size + 1; omega)))
      · have hc : spanS no u n = ⟨0, 0⟩ := by
          unfold spanS
          rw [hok]
          unfold cutE
          rw [if_neg hn1, if_neg (by simpa using hft)]
        have HB := Lib.hid hc
        have n0 : 0 ≤ n := by omega
        have HM5 := Lib.hid m5
        clear bad hok hc m5 hn1
        go_enter Try.func12, Try.ntmps12
        go_wp2_with (first | (go_at_call 35; refine (unitary_calls _ _).mono ?_; rw [eU]; rintro e w1 ⟨rfl, rfl⟩) | (go_at_call 36; refine (lengthy_calls _ _).mono ?_; rw [eL]; rintro e w1 ⟨rfl, rfl⟩))
        refine bodyPost_ret (v := .agg #[.int .i64 0, .int .i64 0]) (by simp [results, Try.results12, go_sem]) rfl ⟨by rw [HB.out], ?_⟩
        (first | exact (Ext.refl w).alloc _ | (refine Ext.alloc ?_ _; exact (Ext.refl w).alloc _) | (repeat' first | exact Ext.refl w | refine Ext.alloc ?_ _ | refine Ext.setCell ?_ ?_ _) <;> (first | exact Nat.le_refl _ | (show w.heap.size ≤ w.heap.size + 1; omega)))
  · 
    have HB := Lib.hid (bad (by unfold spanOk; rw [show decide (no < 1099511627776 / u) = false from decide_eq_false hq]; simp))
    clear bad
    go_enter Try.func12, Try.ntmps12
    go_wp2_with (first | (go_at_call 35; refine (unitary_calls _ _).mono ?_; rw [eU]; rintro e w1 ⟨rfl, rfl⟩) | (go_at_call 36; refine (lengthy_calls _ _).mono ?_; rw [eL]; rintro e w1 ⟨rfl, rfl⟩))
    refine bodyPost_ret (v := .agg #[.int .i64 0, .int .i64 0]) (by simp [results, Try.results12, go_sem]) rfl ⟨by rw [HB.out], ?_⟩
    (first | exact (Ext.refl w).alloc _ | (refine Ext.alloc ?_ _; exact (Ext.refl w).alloc _) | (repeat' first | exact Ext.refl w | refine Ext.alloc ?_ _ | refine Ext.setCell ?_ ?_ _) <;> (first | exact Nat.le_refl _ | (show w.heap.size ≤ w.heap.size + 1; omega)))

set_option maxHeartbeats 4000000 in
set_option maxRecDepth 100000 in
theorem refspan_calls (no u n : Int) (w : World) :
    Calls Try.prog 13 #[.int .i64 no, .int .i64 u, .int .i64 n] w fun e w' => e = .returned (.agg #[.int .i64 (spanS no u n).f, .int .i64 (spanS no u n).t]) ∧ Ext w w' := by
  have bad : spanOk no u n = false → spanS no u n = ⟨0, 0⟩ := fun h => by unfold spanS; rw [h]; rfl
  by_cases hn0 : no < 0
  · cases eU : unitB u <;> cases eL : lengthB n
    all_goals
      have HB := Lib.hid (bad (by unfold spanOk; rw [show decide (0 ≤ no) = false from decide_eq_false (by omega)]; simp))
      clear bad
      go_enter Try.func13, Try.ntmps13
      go_wp2_with (first | (go_at_call 34; refine (unitOk_calls _ _).mono ?_; rw [eU]; rintro e w1 ⟨rfl, rfl⟩) | (go_at_call 37; refine (lengthOk_calls _ _).mono ?_; rw [eL]; rintro e w1 ⟨rfl, rfl⟩) | (go_at_call 38; refine (most_calls _).mono ?_; rintro e w1 ⟨rfl, rfl⟩))
      refine bodyPost_ret (v := .agg #[.int .i64 0, .int .i64 0]) (by simp [results, Try.results13, go_sem]) rfl ⟨by rw [HB.out], ?_⟩
      (first | exact (Ext.refl w).alloc _ | (refine Ext.alloc ?_ _; exact (Ext.refl w).alloc _) | (repeat' first | exact Ext.refl w | refine Ext.alloc ?_ _ | refine Ext.setCell ?_ ?_ _) <;> (first | exact Nat.le_refl _ | (show w.heap.size ≤ w.heap.size + 1; omega)))
  cases eU : unitB u
  · cases eL : lengthB n
    all_goals
      have HB := Lib.hid (bad (by unfold spanOk; rw [eU]; rfl))
      clear bad
      go_enter Try.func13, Try.ntmps13
      go_wp2_with (first | (go_at_call 34; refine (unitOk_calls _ _).mono ?_; rw [eU]; rintro e w1 ⟨rfl, rfl⟩) | (go_at_call 37; refine (lengthOk_calls _ _).mono ?_; rw [eL]; rintro e w1 ⟨rfl, rfl⟩) | (go_at_call 38; refine (most_calls _).mono ?_; rintro e w1 ⟨rfl, rfl⟩))
      refine bodyPost_ret (v := .agg #[.int .i64 0, .int .i64 0]) (by simp [results, Try.results13, go_sem]) rfl ⟨by rw [HB.out], ?_⟩
      (first | exact (Ext.refl w).alloc _ | (refine Ext.alloc ?_ _; exact (Ext.refl w).alloc _) | (repeat' first | exact Ext.refl w | refine Ext.alloc ?_ _ | refine Ext.setCell ?_ ?_ _) <;> (first | exact Nat.le_refl _ | (show w.heap.size ≤ w.heap.size + 1; omega)))
  obtain ⟨u1, u2⟩ := unit_bound eU
  cases eL : lengthB n
  · 
    have HB := Lib.hid (bad (by unfold spanOk; rw [eU, eL]; rfl))
    clear bad
    go_enter Try.func13, Try.ntmps13
    go_wp2_with (first | (go_at_call 34; refine (unitOk_calls _ _).mono ?_; rw [eU]; rintro e w1 ⟨rfl, rfl⟩) | (go_at_call 37; refine (lengthOk_calls _ _).mono ?_; rw [eL]; rintro e w1 ⟨rfl, rfl⟩) | (go_at_call 38; refine (most_calls _).mono ?_; rintro e w1 ⟨rfl, rfl⟩))
    refine bodyPost_ret (v := .agg #[.int .i64 0, .int .i64 0]) (by simp [results, Try.results13, go_sem]) rfl ⟨by rw [HB.out], ?_⟩
    (first | exact (Ext.refl w).alloc _ | (refine Ext.alloc ?_ _; exact (Ext.refl w).alloc _) | (repeat' first | exact Ext.refl w | refine Ext.alloc ?_ _ | refine Ext.setCell ?_ ?_ _) <;> (first | exact Nat.le_refl _ | (show w.heap.size ≤ w.heap.size + 1; omega)))
  by_cases hq : no < 1099511627776 / u
  · have hl : -1 ≤ n ∧ n ≤ 1099511627776 := by simpa [lengthB] using eL
    obtain ⟨l1, l2⟩ := hl
    obtain ⟨m1, m2, m3, m4⟩ := no_bound eU (by omega) hq
    have hnb : no ≤ 1099511627776 := by omega
    have hok : spanOk no u n = decide (no * u < cutE no u n) := by
      unfold spanOk
      rw [eU, eL, show decide (0 ≤ no) = true from decide_eq_true (by omega), show decide (no < 1099511627776 / u) = true from decide_eq_true hq]
      rfl
    have m5 : (no + 1) * u = no * u + u := by rw [Int.add_mul, Int.one_mul]
    rw [m5] at m2 m3
    have hc0 : no * u < cutE no u n → spanS no u n = ⟨no * u, cutE no u n⟩ := fun h => by unfold spanS; rw [hok, if_pos (decide_eq_true h)]
    have hc1 : ¬ no * u < cutE no u n → spanS no u n = ⟨0, 0⟩ := fun h => by unfold spanS; rw [hok, if_neg (by simpa using h)]
    by_cases hn1 : n = -1
    · have hc : cutE no u n = no * u + u := by unfold cutE; rw [if_pos hn1, m5]
      rw [hc] at hc0
      have HB := Lib.hid (hc0 m3)
      subst hn1
      clear bad hok hc hc0 hc1 m5
      go_enter Try.func13, Try.ntmps13
      go_wp2_with (first | (go_at_call 34; refine (unitOk_calls _ _).mono ?_; rw [eU]; rintro e w1 ⟨rfl, rfl⟩) | (go_at_call 37; refine (lengthOk_calls _ _).mono ?_; rw [eL]; rintro e w1 ⟨rfl, rfl⟩) | (go_at_call 38; refine (most_calls _).mono ?_; rintro e w1 ⟨rfl, rfl⟩))
      refine bodyPost_ret (v := .agg #[.int .i64 (no * u), .int .i64 (no * u + u)]) (by simp [results, Try.results13, go_sem]) rfl ⟨by rw [HB.out], ?_⟩
      (first | exact (Ext.refl w).alloc _ | (refine Ext.alloc ?_ _; exact (Ext.refl w).alloc _) | (repeat' first | exact Ext.refl w | refine Ext.alloc ?_ _ | refine Ext.setCell ?_ ?_ _) <;> (first | exact Nat.le_refl _ | (show w.heap.size ≤ w.heap.size + 1; omega)))
    · have n0 : 0 ≤ n := by omega
      have hc : cutE no u n = min (no * u + u) n := by unfold cutE; rw [if_neg hn1, m5]
      by_cases hgt : n < no * u + u
      · have hc2 : cutE no u n = n := by rw [hc]; omega
        rw [hc2] at hc0 hc1
        by_cases hft : no * u < n
        · have HB := Lib.hid (hc0 hft)
          clear bad hok hc hc0 hc1 hc2 m5 hn1
          go_enter Try.func13, Try.ntmps13
          go_wp2_with (first | (go_at_call 34; refine (unitOk_calls _ _).mono ?_; rw [eU]; rintro e w1 ⟨rfl, rfl⟩) | (go_at_call 37; refine (lengthOk_calls _ _).mono ?_; rw [eL]; rintro e w1 ⟨rfl, rfl⟩) | (go_at_call 38; refine (most_calls _).mono ?_; rintro e w1 ⟨rfl, rfl⟩))
          refine bodyPost_ret (v := .agg #[.int .i64 (no * u), .int .i64 n]) (by simp [results, Try.results13, go_sem]) rfl ⟨by rw [HB.out], ?_⟩
          (first | exact (Ext.refl w).alloc _ | (refine Ext.alloc ?_ _; exact (Ext.refl w).alloc _) | (repeat' first | exact Ext.refl w | refine Ext.alloc ?_ _ | refine Ext.setCell ?_ ?_ _) <;> (first | exact Nat.le_refl _ | (show w.heap.size ≤ w.heap.size + 1; omega)))
        · have HB := Lib.hid (hc1 hft)
          clear bad hok hc hc0 hc1 hc2 m5 hn1
          go_enter Try.func13, Try.ntmps13
          go_wp2_with (first | (go_at_call 34; refine (unitOk_calls _ _).mono ?_; rw [eU]; rintro e w1 ⟨rfl, rfl⟩) | (go_at_call 37; refine (lengthOk_calls _ _).mono ?_; rw [eL]; rintro e w1 ⟨rfl, rfl⟩) | (go_at_call 38; refine (most_calls _).mono ?_; rintro e w1 ⟨rfl, rfl⟩))
          refine bodyPost_ret (v := .agg #[.int .i64 0, .int .i64 0]) (by simp [results, Try.results13, go_sem]) rfl ⟨by rw [HB.out], ?_⟩
          (first | exact (Ext.refl w).alloc _ | (refine Ext.alloc ?_ _; exact (Ext.refl w).alloc _) | (repeat' first | exact Ext.refl w | refine Ext.alloc ?_ _ | refine Ext.setCell ?_ ?_ _) <;> (first | exact Nat.le_refl _ | (show w.heap.size ≤ w.heap.size + 1; omega)))
      · have hc2 : cutE no u n = no * u + u := by rw [hc]; omega
        rw [hc2] at hc0
        have HB := Lib.hid (hc0 m3)
        clear bad hok hc hc0 hc1 hc2 m5 hn1
        go_enter Try.func13, Try.ntmps13
        go_wp2_with (first | (go_at_call 34; refine (unitOk_calls _ _).mono ?_; rw [eU]; rintro e w1 ⟨rfl, rfl⟩) | (go_at_call 37; refine (lengthOk_calls _ _).mono ?_; rw [eL]; rintro e w1 ⟨rfl, rfl⟩) | (go_at_call 38; refine (most_calls _).mono ?_; rintro e w1 ⟨rfl, rfl⟩))
        refine bodyPost_ret (v := .agg #[.int .i64 (no * u), .int .i64 (no * u + u)]) (by simp [results, Try.results13, go_sem]) rfl ⟨by rw [HB.out], ?_⟩
        (first | exact (Ext.refl w).alloc _ | (refine Ext.alloc ?_ _; exact (Ext.refl w).alloc _) | (repeat' first | exact Ext.refl w | refine Ext.alloc ?_ _ | refine Ext.setCell ?_ ?_ _) <;> (first | exact Nat.le_refl _ | (show w.heap.size ≤ w.heap.size + 1; omega)))
  · 
    have HB := Lib.hid (bad (by unfold spanOk; rw [show decide (no < 1099511627776 / u) = false from decide_eq_false hq]; simp))
    clear bad
    go_enter Try.func13, Try.ntmps13
    go_wp2_with (first | (go_at_call 34; refine (unitOk_calls _ _).mono ?_; rw [eU]; rintro e w1 ⟨rfl, rfl⟩) | (go_at_call 37; refine (lengthOk_calls _ _).mono ?_; rw [eL]; rintro e w1 ⟨rfl, rfl⟩) | (go_at_call 38; refine (most_calls _).mono ?_; rintro e w1 ⟨rfl, rfl⟩))
    refine bodyPost_ret (v := .agg #[.int .i64 0, .int .i64 0]) (by simp [results, Try.results13, go_sem]) rfl ⟨by rw [HB.out], ?_⟩
    (first | exact (Ext.refl w).alloc _ | (refine Ext.alloc ?_ _; exact (Ext.refl w).alloc _) | (repeat' first | exact Ext.refl w | refine Ext.alloc ?_ _ | refine Ext.setCell ?_ ?_ _) <;> (first | exact Nat.le_refl _ | (show w.heap.size ≤ w.heap.size + 1; omega)))


def noS (a u : Int) : Int := if 0 ≤ a ∧ unitB u = true then a / u else -1
def countS (u n : Int) : Int := if unitB u = true ∧ 0 ≤ n ∧ n ≤ 1099511627776 then (n + u - 1) / u else -1
set_option maxHeartbeats 1000000 in
theorem no_calls (a u : Int) (w : World) (ha : a ≤ 9223372036854775807) : Calls Try.prog 14 #[.int .i64 a, .int .i64 u] w fun e w' => e = .returned (.int .i64 (noS a u)) ∧ w = w' := by
  by_cases h0 : 0 ≤ a
  · cases eU : unitB u
    · have HB := Lib.hid (show noS a u = -1 by unfold noS; rw [if_neg (by simp [eU])])
      go_enter Try.func14, Try.ntmps14
      go_wp2_with (go_at_call 35; refine (unitary_calls _ _).mono ?_; rw [eU]; rintro e w1 ⟨rfl, rfl⟩)
      go_ret
      exact ⟨by rw [HB.out]; rfl, rfl⟩
    · have HB := Lib.hid (show noS a u = a / u by unfold noS; rw [if_pos ⟨h0, eU⟩])
      obtain ⟨u1, u2⟩ := unit_bound eU
      go_enter Try.func14, Try.ntmps14
      go_wp2_with (go_at_call 35; refine (unitary_calls _ _).mono ?_; rw [eU]; rintro e w1 ⟨rfl, rfl⟩)
      go_ret
      exact ⟨by rw [HB.out]; rfl, rfl⟩
  · have HB := Lib.hid (show noS a u = -1 by unfold noS; rw [if_neg (by omega)])
    go_enter Try.func14, Try.ntmps14
    go_wp2
    go_ret
    exact ⟨by rw [HB.out]; rfl, rfl⟩
set_option maxHeartbeats 1000000 in
theorem refno_calls (a u : Int) (w : World) (ha : a ≤ 9223372036854775807) : Calls Try.prog 15 #[.int .i64 a, .int .i64 u] w fun e w' => e = .returned (.int .i64 (noS a u)) ∧ w = w' := by
  by_cases h0 : 0 ≤ a
  · cases eU : unitB u
    · have HB := Lib.hid (show noS a u = -1 by unfold noS; rw [if_neg (by simp [eU])])
      go_enter Try.func15, Try.ntmps15
      go_wp2_with (go_at_call 34; refine (unitOk_calls _ _).mono ?_; rw [eU]; rintro e w1 ⟨rfl, rfl⟩)
      go_ret
      exact ⟨by rw [HB.out]; rfl, rfl⟩
    · have HB := Lib.hid (show noS a u = a / u by unfold noS; rw [if_pos ⟨h0, eU⟩])
      obtain ⟨u1, u2⟩ := unit_bound eU
      go_enter Try.func15, Try.ntmps15
      go_wp2_with (go_at_call 34; refine (unitOk_calls _ _).mono ?_; rw [eU]; rintro e w1 ⟨rfl, rfl⟩)
      go_ret
      exact ⟨by rw [HB.out]; rfl, rfl⟩
  · have HB := Lib.hid (show noS a u = -1 by unfold noS; rw [if_neg (by omega)])
    go_enter Try.func15, Try.ntmps15
    go_wp2
    go_ret
    exact ⟨by rw [HB.out]; rfl, rfl⟩
set_option maxHeartbeats 1000000 in
theorem count_calls (u n : Int) (w : World) : Calls Try.prog 16 #[.int .i64 u, .int .i64 n] w fun e w' => e = .returned (.int .i64 (countS u n)) ∧ w = w' := by
  cases eU : unitB u
  · have HB := Lib.hid (show countS u n = -1 by unfold countS; rw [if_neg (by simp [eU])])
    go_enter Try.func16, Try.ntmps16
    go_wp2_with (go_at_call 35; refine (unitary_calls _ _).mono ?_; rw [eU]; rintro e w1 ⟨rfl, rfl⟩)
    go_ret
    exact ⟨by rw [HB.out]; rfl, rfl⟩
  · obtain ⟨u1, u2⟩ := unit_bound eU
    cases eL : lengthB n
    · have hn : ¬ (0 ≤ n ∧ n ≤ 1099511627776) := fun h => by
        have : lengthB n = true := by simp [lengthB]; omega
        rw [this] at eL; cases eL
      have HB := Lib.hid (show countS u n = -1 by unfold countS; rw [if_neg (fun h => hn h.2)])
      clear hn
      go_enter Try.func16, Try.ntmps16
      go_wp2_with (first | (go_at_call 35; refine (unitary_calls _ _).mono ?_; rw [eU]; rintro e w1 ⟨rfl, rfl⟩) | (go_at_call 36; refine (lengthy_calls _ _).mono ?_; rw [eL]; rintro e w1 ⟨rfl, rfl⟩))
      go_ret
      exact ⟨by rw [HB.out]; rfl, rfl⟩
    · have hl : -1 ≤ n ∧ n ≤ 1099511627776 := by simpa [lengthB] using eL
      obtain ⟨l1, l2⟩ := hl
      by_cases hn1 : n = -1
      · have HB := Lib.hid (show countS u n = -1 by unfold countS; rw [if_neg (by omega)])
        subst hn1
        go_enter Try.func16, Try.ntmps16
        go_wp2_with (first | (go_at_call 35; refine (unitary_calls _ _).mono ?_; rw [eU]; rintro e w1 ⟨rfl, rfl⟩) | (go_at_call 36; refine (lengthy_calls _ _).mono ?_; rw [eL]; rintro e w1 ⟨rfl, rfl⟩))
        go_ret
        exact ⟨by rw [HB.out]; rfl, rfl⟩
      · have HB := Lib.hid (show countS u n = (n + u - 1) / u by unfold countS; rw [if_pos ⟨eU, by omega, l2⟩])
        have n0 : 0 ≤ n := by omega
        have e1 : (n == -1) = false := by simpa using hn1
        clear hn1
        go_enter Try.func16, Try.ntmps16
        go_wp2_with (first | (go_at_call 35; refine (unitary_calls _ _).mono ?_; rw [eU]; rintro e w1 ⟨rfl, rfl⟩) | (go_at_call 36; refine (lengthy_calls _ _).mono ?_; rw [eL]; rintro e w1 ⟨rfl, rfl⟩))
        go_ret
        exact ⟨by rw [HB.out]; rfl, rfl⟩
set_option maxHeartbeats 1000000 in
theorem refcount_calls (u n : Int) (w : World) : Calls Try.prog 17 #[.int .i64 u, .int .i64 n] w fun e w' => e = .returned (.int .i64 (countS u n)) ∧ w = w' := by
  cases eU : unitB u
  · have HB := Lib.hid (show countS u n = -1 by unfold countS; rw [if_neg (by simp [eU])])
    go_enter Try.func17, Try.ntmps17
    go_wp2_with (go_at_call 34; refine (unitOk_calls _ _).mono ?_; rw [eU]; rintro e w1 ⟨rfl, rfl⟩)
    go_ret
    exact ⟨by rw [HB.out]; rfl, rfl⟩
  · obtain ⟨u1, u2⟩ := unit_bound eU
    by_cases h0 : 0 ≤ n
    · by_cases h1 : n ≤ 1099511627776
      · have HB := Lib.hid (show countS u n = (n + u - 1) / u by unfold countS; rw [if_pos ⟨eU, h0, h1⟩])
        go_enter Try.func17, Try.ntmps17
        go_wp2_with (first | (go_at_call 34; refine (unitOk_calls _ _).mono ?_; rw [eU]; rintro e w1 ⟨rfl, rfl⟩) | (go_at_call 38; refine (most_calls _).mono ?_; rintro e w1 ⟨rfl, rfl⟩))
        go_ret
        exact ⟨by rw [HB.out]; rfl, rfl⟩
      · have HB := Lib.hid (show countS u n = -1 by unfold countS; rw [if_neg (by omega)])
        go_enter Try.func17, Try.ntmps17
        go_wp2_with (first | (go_at_call 34; refine (unitOk_calls _ _).mono ?_; rw [eU]; rintro e w1 ⟨rfl, rfl⟩) | (go_at_call 38; refine (most_calls _).mono ?_; rintro e w1 ⟨rfl, rfl⟩))
        go_ret
        exact ⟨by rw [HB.out]; rfl, rfl⟩
    · have HB := Lib.hid (show countS u n = -1 by unfold countS; rw [if_neg (by omega)])
      go_enter Try.func17, Try.ntmps17
      go_wp2_with (go_at_call 34; refine (unitOk_calls _ _).mono ?_; rw [eU]; rintro e w1 ⟨rfl, rfl⟩)
      go_ret
      exact ⟨by rw [HB.out]; rfl, rfl⟩
end Go.Proofs.Ytoahjhkfnchdhaa
