/- SliceAll: the walk. -/
import Derived.Test.YtoahjhkfnchdhaaLawSpans
namespace Go.Proofs.Ytoahjhkfnchdhaa
open Go.RowKit

theorem count_pos {u n : Int} (hu : unitB u = true) (h0 : 0 ≤ n) (h1 : n ≤ 300) : countS u n = (n + u - 1) / u ∧ 0 ≤ (n + u - 1) / u ∧ (n + u - 1) / u ≤ n ∧ n ≤ (n + u - 1) / u * u := by
  obtain ⟨u1, u2⟩ := unit_bound hu
  refine ⟨by unfold countS; rw [if_pos ⟨hu, h0, by omega⟩], Int.ediv_nonneg (by omega) (by omega), ?_, ?_⟩
  · rcases Int.lt_or_le 0 n with h | h
    · have : n + u - 1 < (n + 1) * u := by
        have := Int.mul_le_mul_of_nonneg_left u1 h0
        rw [Int.add_mul]; omega
      have := Int.ediv_lt_of_lt_mul (by omega) this
      omega
    · have : n = 0 := by omega
      subst this
      rw [Int.ediv_eq_zero_of_lt (by omega) (by omega)]
      omega
  · have := Int.lt_ediv_add_one_mul_self (n + u - 1) (show 0 < u by omega)
    rw [Int.add_mul] at this
    omega
theorem all_round {u n : Int} (hu : unitB u = true) (h0 : 0 ≤ n) (h1 : n ≤ 300) {k : Int} (hk : 0 ≤ k) (hkn : k < (n + u - 1) / u) :
    spanS k u n = ⟨k * u, min ((k + 1) * u) n⟩ ∧ k * u < min ((k + 1) * u) n ∧ noS (k * u) u = k ∧ noS (min ((k + 1) * u) n - 1) u = k ∧ min (k * u) n = k * u ∧ 0 ≤ k * u ∧ min ((k + 1) * u) n ≤ 300 := by
  obtain ⟨u1, u2⟩ := unit_bound hu
  have e1 : k * u < n := by
    have h2 := Int.ediv_mul_le (n + u - 1) (show u ≠ 0 by omega)
    have h3 : (k + 1) * u ≤ (n + u - 1) / u * u := Int.mul_le_mul_of_nonneg_right (by omega) (by omega)
    rw [Int.add_mul] at h3
    omega
  have e0 : 0 ≤ k * u := Int.mul_nonneg hk (by omega)
  have e2 : (k + 1) * u = k * u + u := by rw [Int.add_mul, Int.one_mul]
  have e3 : k ≤ k * u := by
    have := Int.mul_le_mul_of_nonneg_left u1 hk
    omega
  have e4 : k < 1099511627776 / u := by
    have : 1048576 ≤ 1099511627776 / u := (Int.le_ediv_iff_mul_le (by omega)).2 (by omega)
    omega
  have hc : cutE k u n = min ((k + 1) * u) n := by unfold cutE; rw [if_neg (by omega)]
  have hok : spanOk k u n = true := by
    unfold spanOk lengthB
    rw [hu, hc]
    simp only [Bool.and_eq_true, decide_eq_true_eq]
    refine ⟨trivial, ⟨by omega, by omega⟩, hk, e4, by omega⟩
  refine ⟨by unfold spanS; rw [hok, hc]; rfl, by omega, ?_, ?_, by omega, e0, by omega⟩
  · unfold noS
    rw [if_pos ⟨e0, hu⟩]
    exact Int.mul_ediv_cancel k (by omega)
  · unfold noS
    rw [if_pos ⟨by omega, hu⟩]
    have : min ((k + 1) * u) n - 1 = (min ((k + 1) * u) n - 1 - k * u) + k * u := by omega
    rw [this, Int.add_mul_ediv_right _ _ (by omega), Int.ediv_eq_zero_of_lt (by omega) (by omega)]
    omega
theorem all_end {u n : Int} (hu : unitB u = true) (h0 : 0 ≤ n) (h1 : n ≤ 300) : spanS ((n + u - 1) / u) u n = ⟨0, 0⟩ ∧ min ((n + u - 1) / u * u) n = n := by
  obtain ⟨_, c0, c1, c2⟩ := count_pos hu h0 h1
  refine ⟨?_, by omega⟩
  unfold spanS
  have : spanOk ((n + u - 1) / u) u n = false := by
    have hc : cutE ((n + u - 1) / u) u n ≤ (n + u - 1) / u * u := by unfold cutE; rw [if_neg (by omega)]; omega
    unfold spanOk
    have : decide ((n + u - 1) / u * u < cutE ((n + u - 1) / u) u n) = false := by simp; omega
    rw [this]
    simp
  rw [this]
  rfl

set_option maxHeartbeats 1000000 in
set_option maxRecDepth 100000 in
theorem lawAll_calls (u n : Int) (w : World) :
    Calls Try.prog 10 #[.int .i64 u, .int .i64 n] w fun e w' => e = .returned (.bool true) ∧ Ext w w' := by
  by_cases hg : unitB u = true ∧ 0 ≤ n ∧ n ≤ 300
  · obtain ⟨hu, n0, n1⟩ := hg
    obtain ⟨c0, c1, c2, c3⟩ := count_pos hu n0 n1
    have hR := fun k h1 h2 => all_round (k := k) hu n0 n1 h1 h2
    have hE := all_end hu n0 n1
    have hC := fun W => count_calls u n W
    rw [c0] at hC
    have hUO := fun W => unitOk_calls u W
    rw [hu] at hUO
    have HU := Lib.hid hUO
    generalize (n + u - 1) / u = N at *
    have HR := Lib.hid hR
    have HE := Lib.hid hE
    have HC := Lib.hid hC
    clear hR hE hC c0 hUO hu c3
    go_enter Try.func10, Try.ntmps10
    go_wp2_with (first
      | (go_at_call 11; refine (awake_calls _).mono ?_; rintro e w1 ⟨rfl, hx1⟩)
      | (go_at_call 34; refine (HU.out _).mono ?_; rintro e w2 ⟨rfl, rfl⟩)
      | (go_at_call 16; refine (HC.out _).mono ?_; rintro e w3 ⟨rfl, rfl⟩))
    go_loopw [5, 27] (fun at' i wr => ∃ k : Int, 0 ≤ k ∧ k ≤ N ∧ i = .int .i64 k ∧ at' = .int .i64 (min (k * u) n) ∧ Ext w wr) (fun _ i _ => (N - intOf i).toNat)
    case atStart => exact ⟨0, Int.le_refl _, c1, rfl, by rw [Int.zero_mul]; simp; omega, hx1⟩
    case round =>
      obtain ⟨k, k0, k1, rfl, rfl, hx⟩ := hrel
      by_cases hlt : k < N
      · obtain ⟨r1, r2, r3, r4, r5, r6, r7⟩ := HR.out k k0 hlt
        rw [r5]
        have hS := fun W => span_calls k u n W
        rw [r1] at hS
        have hN1 := fun W => no_calls (k * u) u W (by omega)
        rw [r3] at hN1
        have hN2 := fun W => no_calls (min ((k + 1) * u) n - 1) u W (by omega)
        rw [r4] at hN2
        have HS := Lib.hid hS
        have HN1 := Lib.hid hN1
        have HN2 := Lib.hid hN2
        clear hS hN1 hN2 r1 r3 r4 r5
        obtain ⟨M, hM⟩ : ∃ M, min ((k + 1) * u) n = M := ⟨_, rfl⟩
        rw [hM] at HS HN2 r2 r7
        have HM := Lib.hid hM
        clear hM
        generalize k * u = F at *
        have hFM : ¬ M ≤ F := by omega
        go_wp2_with (first
          | (go_at_call 12; refine (HS.out _).mono ?_; rintro e w2 ⟨rfl, hx2⟩)
          | (go_at_call 14; with_reducible refine (HN1.out _).mono ?_; rintro e w3 ⟨rfl, rfl⟩)
          | (go_at_call 14; with_reducible refine (HN2.out _).mono ?_; rintro e w4 ⟨rfl, rfl⟩))
        go_roundw
        case rel => exact ⟨k + 1, by omega, by omega, rfl, by rw [HM.out], (hx.trans hx2).alloc _⟩
        case measure => simp [intOf]; omega
      · obtain rfl : k = N := by omega
        obtain ⟨e1, e2⟩ := HE.out
        have hS := fun W => span_calls k u n W
        rw [e1] at hS
        rw [e2]
        have HS := Lib.hid hS
        clear hS e1 e2
        go_wp2_with (first
          | (go_at_call 12; refine (HS.out _).mono ?_; rintro e w2 ⟨rfl, hx2⟩)
          | (go_at_call 16; refine (HC.out _).mono ?_; rintro e w3 ⟨rfl, rfl⟩))
        go_ret
        exact ⟨rfl, hx.trans hx2⟩
  · have HU := Lib.hid fun W => unitOk_calls u W
    cases eu : unitB u
    · rw [eu] at HU
      go_enter Try.func10, Try.ntmps10
      go_wp2_with (first
        | (go_at_call 11; refine (awake_calls _).mono ?_; rintro e w1 ⟨rfl, hx1⟩)
        | (go_at_call 34; refine (HU.out _).mono ?_; rintro e w2 ⟨rfl, rfl⟩))
      go_ret
      exact ⟨rfl, Ext.trans ‹Ext w _› hx1⟩
    · have h : n < 0 ∨ 300 < n := by
        rcases Int.lt_or_le n 0 with h | h
        · exact .inl h
        · exact .inr (by rcases Int.lt_or_le 300 n with h2 | h2; · exact h2
                         · exact absurd ⟨eu, h, h2⟩ hg)
      rw [eu] at HU
      clear hg eu
      rcases h with h | h
      all_goals
        go_enter Try.func10, Try.ntmps10
        go_wp2_with (first
          | (go_at_call 11; refine (awake_calls _).mono ?_; rintro e w1 ⟨rfl, hx1⟩)
          | (go_at_call 34; refine (HU.out _).mono ?_; rintro e w2 ⟨rfl, rfl⟩))
        go_ret
        exact ⟨rfl, Ext.trans ‹Ext w _› hx1⟩
end Go.Proofs.Ytoahjhkfnchdhaa
