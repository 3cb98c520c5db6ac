/- The contracts of what tells units and lengths, in the program and in its reference. -/
import Derived.Test.YtoahjhkfnchdhaaSpn
import Derived.IntWalk
namespace Go.Proofs.Ytoahjhkfnchdhaa
open Go.RowKit

/-- A unit: 1, 2, 4 .. 2^20. -/
def unitB (u : Int) : Bool := (List.range 21).any fun k => u == (2 : Int) ^ k
theorem unitB_iff (u : Int) : unitB u = true ↔ ∃ k, k ≤ 20 ∧ u = (2 : Int) ^ k := by
  unfold unitB
  simp only [List.any_eq_true, List.mem_range, beq_iff_eq]
  exact ⟨fun ⟨k, h1, h2⟩ => ⟨k, by omega, h2⟩, fun ⟨k, h1, h2⟩ => ⟨k, by omega, h2⟩⟩
theorem pow_bound {k : Nat} (hk : k ≤ 20) : 1 ≤ (2 : Int) ^ k ∧ (2 : Int) ^ k ≤ 1048576 := by
  have h1 : 0 < 2 ^ k := Nat.pow_pos (by omega)
  have h2 : 2 ^ k ≤ 2 ^ 20 := Nat.pow_le_pow_right (by omega) hk
  have h3 : ((2 ^ k : Nat) : Int) = (2 : Int) ^ k := by simp
  omega
theorem unit_bound {u : Int} (h : unitB u = true) : 1 ≤ u ∧ u ≤ 1048576 := by
  obtain ⟨k, hk, rfl⟩ := (unitB_iff u).1 h
  exact pow_bound hk
def lengthB (n : Int) : Bool := decide (-1 ≤ n) && decide (n ≤ 1099511627776)

set_option maxHeartbeats 1000000 in
theorem lengthy_calls (n : Int) (w : World) : Calls Try.prog 36 #[.int .i64 n] w fun e w' => e = .returned (.bool (lengthB n)) ∧ w = w' := by
  go_enter Try.func36, Try.ntmps36
  go_wp2
  all_goals go_ret
  all_goals exact ⟨by simp [lengthB, *] <;> omega, rfl⟩
theorem most_calls (w : World) : Calls Try.prog 38 #[] w fun e w' => e = .returned (.int .i64 1099511627776) ∧ w = w' := by
  go_enter Try.func38, Try.ntmps38
  go_wp2
  go_ret
  exact ⟨rfl, rfl⟩
theorem lengthOk_calls (n : Int) (w : World) : Calls Try.prog 37 #[.int .i64 n] w fun e w' => e = .returned (.bool (lengthB n)) ∧ w = w' := by
  cases e1 : decide (-1 ≤ n)
  all_goals
    go_enter Try.func37, Try.ntmps37
    go_wp2_with (go_at_call 38; refine (most_calls _).mono ?_; rintro e w' ⟨rfl, rfl⟩)
    all_goals go_ret
    all_goals exact ⟨by simp [lengthB, *] <;> omega, rfl⟩
theorem bits_and_i64 (a b : Nat) (ha : a < 4611686018427387904) (hb : b < 4611686018427387904) : bits .and .i64 (a : Int) (b : Int) = ((a &&& b : Nat) : Int) := by
  have hx : a &&& b < 2 ^ 62 := Nat.and_lt_two_pow _ (by omega)
  have h1 : (BitVec.ofInt 64 (a : Int)).toNat = a := by
    rw [BitVec.ofInt_natCast, BitVec.toNat_ofNat]; exact Nat.mod_eq_of_lt (by omega)
  have h2 : (BitVec.ofInt 64 (b : Int)).toNat = b := by
    rw [BitVec.ofInt_natCast, BitVec.toNat_ofNat]; exact Nat.mod_eq_of_lt (by omega)
  show IntKind.i64.wrap ((BitVec.ofInt 64 (a : Int) &&& BitVec.ofInt 64 (b : Int)).toNat : Int) = _
  rw [BitVec.toNat_and, h1, h2]
  exact IntWalk.i64_in _ (by omega)
theorem unit_bits {u : Int} (h1 : 1 ≤ u) (h2 : u ≤ 1048576) : (bits .and .i64 u (u - 1) == 0) = unitB u := by
  obtain ⟨n, rfl⟩ : ∃ n : Nat, u = n := ⟨u.toNat, by omega⟩
  rw [show ((n : Int) - 1) = ((n - 1 : Nat) : Int) by omega, bits_and_i64 _ _ (by omega) (by omega), Bool.eq_iff_iff, unitB_iff]
  have h3 := Nat.and_sub_one_eq_zero_iff_isPowerOfTwo (n := n) (by omega)
  constructor
  · intro h
    have h4 : n &&& n - 1 = 0 := by simpa using h
    obtain ⟨k, hk⟩ := h3.1 h4
    refine ⟨k, ?_, by rw [hk]; simp⟩
    rcases Nat.lt_or_ge 20 k with h5 | h5
    · have h6 : 2 ^ 21 ≤ 2 ^ k := Nat.pow_le_pow_right (by omega) h5
      omega
    · exact h5
  · rintro ⟨k, hk, e⟩
    have e2 : n = 2 ^ k := by
      have h4 : ((2 ^ k : Nat) : Int) = (2 : Int) ^ k := by simp
      omega
    have h4 := h3.2 ⟨k, e2⟩
    simp [h4]
theorem unit_no {u : Int} (h : u < 1 ∨ 1048576 < u) : unitB u = false := by
  cases e : unitB u
  · rfl
  · have := unit_bound e; omega
set_option maxHeartbeats 1000000 in
theorem unitary_calls (u : Int) (w : World) : Calls Try.prog 35 #[.int .i64 u] w fun e w' => e = .returned (.bool (unitB u)) ∧ w = w' := by
  by_cases h : 1 ≤ u ∧ u ≤ 1048576
  · obtain ⟨h1, h2⟩ := h
    have HU := Lib.hid (unit_bits h1 h2)
    go_enter Try.func35, Try.ntmps35
    go_wp2
    go_ret
    exact ⟨by rw [← HU.out]; rfl, rfl⟩
  · have HU := Lib.hid (unit_no (u := u) (by omega))
    have h1 : u < 1 ∨ 1048576 < u := by omega
    clear h
    rcases h1 with h1 | h1
    · go_enter Try.func35, Try.ntmps35
      go_wp2
      go_ret
      exact ⟨by rw [HU.out]; rfl, rfl⟩
    · go_enter Try.func35, Try.ntmps35
      go_wp2
      go_ret
      exact ⟨by rw [HU.out]; rfl, rfl⟩

/-- What the reference's loop has seen. -/
def seen (u : Int) (j : Nat) : Prop := ∀ k, k < j → u ≠ (2 : Int) ^ k
set_option maxHeartbeats 1000000 in
theorem unitOk_calls (u : Int) (w : World) : Calls Try.prog 34 #[.int .i64 u] w fun e w' => e = .returned (.bool (unitB u)) ∧ w = w' := by
  go_enter Try.func34, Try.ntmps34
  go_wp2
  go_loop [3] (fun n => ∃ j : Nat, j ≤ 21 ∧ n = .int .i64 ((2 : Int) ^ j) ∧ seen u j) (fun n => (2097152 - intOf n).toNat)
  case atStart => exact ⟨0, by omega, rfl, fun k hk => absurd hk (by omega)⟩
  case round =>
    obtain ⟨j, hj, rfl, hs⟩ := hrel
    by_cases hlt : j ≤ 20
    · obtain ⟨p1, p2⟩ := pow_bound hlt
      have hsucc : (2 : Int) ^ (j + 1) = 2 * (2 : Int) ^ j := by rw [Int.pow_succ]; omega
      have hin : (2 : Int) ^ j = u → unitB u = true := fun e => (unitB_iff u).2 ⟨j, hlt, e.symm⟩
      have hnx : (2 : Int) ^ j ≠ u → seen u (j + 1) := fun e k hk => by
        rcases Nat.lt_or_ge k j with h | h
        · exact hs k h
        · obtain rfl : k = j := by omega
          exact fun e2 => e e2.symm
      have H1 := Lib.hid hsucc
      have H2 := Lib.hid hin
      have H3 := Lib.hid hnx
      clear hs hsucc hin hnx
      generalize (2 : Int) ^ j = n at *
      by_cases e : n = u
      · have HU := Lib.hid (H2.out e)
        subst e
        clear H2 H3
        go_wp2
        go_ret
        exact ⟨by rw [HU.out]; rfl, rfl⟩
      · have e1 : (n == u) = false := by simpa using e
        have H4 := Lib.hid (H3.out e)
        clear H2 H3 e
        go_wp2
        go_round
        case rel => exact ⟨j + 1, by omega, by rw [H1.out], H4.out⟩
        case measure => simp [intOf]; omega
    · obtain rfl : j = 21 := by omega
      have hu : unitB u = false := by
        cases e : unitB u
        · rfl
        · obtain ⟨k, hk, e2⟩ := (unitB_iff u).1 e
          exact absurd e2 (hs k (by omega))
      have HU := Lib.hid hu
      have e21 : (2 : Int) ^ 21 = 2097152 := by decide
      have E := Lib.hid e21
      clear hs hu e21
      rw [E.out]
      go_wp2
      go_ret
      exact ⟨by rw [HU.out]; rfl, rfl⟩
end Go.Proofs.Ytoahjhkfnchdhaa
