/- The contracts of what tells units and lengths, in the program and in its reference. -/
import Derived.Test.YtdcdnnbijjcfmaaSpn
import Derived.IntWalk
namespace Go.Proofs.Ytdcdnnbijjcfmaa
open Go.RowKit

/-- A unit: 4, 8 .. 2^20. -/
def unitB (u : Int) : Bool := (List.range 19).any fun k => u == (2 : Int) ^ (k + 2)
theorem unitB_iff (u : Int) : unitB u = true ↔ ∃ k, k ≤ 18 ∧ u = (2 : Int) ^ (k + 2) := by
  unfold unitB
  simp only [List.any_eq_true, List.mem_range, beq_iff_eq]
  exact ⟨fun ⟨k, h1, h2⟩ => ⟨k, by omega, h2⟩, fun ⟨k, h1, h2⟩ => ⟨k, by omega, h2⟩⟩
theorem pow_bound {k : Nat} (hk : k ≤ 18) : 4 ≤ (2 : Int) ^ (k + 2) ∧ (2 : Int) ^ (k + 2) ≤ 1048576 := by
  have h1 : 0 < 2 ^ k := Nat.pow_pos (by omega)
  have h2 : 2 ^ k ≤ 2 ^ 18 := Nat.pow_le_pow_right (by omega) hk
  have h3 : ((2 ^ k : Nat) : Int) = (2 : Int) ^ k := by simp
  have h4 : (2 : Int) ^ (k + 2) = (2 : Int) ^ k * 4 := by rw [Int.pow_succ, Int.pow_succ]; omega
  omega
theorem unit_bound {u : Int} (h : unitB u = true) : 4 ≤ u ∧ u ≤ 1048576 := by
  obtain ⟨k, hk, rfl⟩ := (unitB_iff u).1 h
  exact pow_bound hk
/-- No end is a whole number of units. -/
theorem unit_open {u : Int} (h : unitB u = true) : 4611686018427387904 % u = 0 := by
  obtain ⟨k, hk, rfl⟩ := (unitB_iff u).1 h
  have e : (4611686018427387904 : Int) = (2 : Int) ^ (k + 2) * (2 : Int) ^ (60 - k) := by
    rw [← Int.pow_add, show k + 2 + (60 - k) = 62 by omega]; rfl
  rw [e]
  exact Int.mul_emod_right _ _
def lengthB (n : Int) : Bool := decide (-1 ≤ n) && decide (n ≤ 1099511627776)
def measB (n u : Int) : Bool := unitB u && lengthB n

theorem bits_and_i64 (a b : Nat) (ha : a < 4611686018427387904) (hb : b < 4611686018427387904) : bits .and .i64 (a : Int) (b : Int) = ((a &&& b : Nat) : Int) := by
  have hx : a &&& b < 2 ^ 62 := Nat.and_lt_two_pow _ (by omega)
  have h1 : (BitVec.ofInt 64 (a : Int)).toNat = a := by
    rw [BitVec.ofInt_natCast, BitVec.toNat_ofNat]; exact Nat.mod_eq_of_lt (by omega)
  have h2 : (BitVec.ofInt 64 (b : Int)).toNat = b := by
    rw [BitVec.ofInt_natCast, BitVec.toNat_ofNat]; exact Nat.mod_eq_of_lt (by omega)
  show IntKind.i64.wrap ((BitVec.ofInt 64 (a : Int) &&& BitVec.ofInt 64 (b : Int)).toNat : Int) = _
  rw [BitVec.toNat_and, h1, h2]
  exact IntWalk.i64_in _ (by omega)
theorem unit_bits {u : Int} (h1 : 4 ≤ u) (h2 : u ≤ 1048576) : (bits .and .i64 u (u - 1) == 0) = unitB u := by
  obtain ⟨n, rfl⟩ : ∃ n : Nat, u = n := ⟨u.toNat, by omega⟩
  rw [show ((n : Int) - 1) = ((n - 1 : Nat) : Int) by omega, bits_and_i64 _ _ (by omega) (by omega), Bool.eq_iff_iff, unitB_iff]
  have h3 := Nat.and_sub_one_eq_zero_iff_isPowerOfTwo (n := n) (by omega)
  constructor
  · intro h
    have h4 : n &&& n - 1 = 0 := by simpa using h
    obtain ⟨k, hk⟩ := h3.1 h4
    have hk2 : 2 ≤ k := by
      rcases Nat.lt_or_ge k 2 with h5 | h5
      · rcases k with _ | _ | k
        · simp at hk; omega
        · simp at hk; omega
        · omega
      · exact h5
    refine ⟨k - 2, ?_, by rw [hk, show k - 2 + 2 = k by omega]; simp⟩
    rcases Nat.lt_or_ge 20 k with h5 | h5
    · have h6 : 2 ^ 21 ≤ 2 ^ k := Nat.pow_le_pow_right (by omega) h5
      omega
    · omega
  · rintro ⟨k, hk, e⟩
    have e2 : n = 2 ^ (k + 2) := by
      have h4 : ((2 ^ (k + 2) : Nat) : Int) = (2 : Int) ^ (k + 2) := by simp
      omega
    have h4 := h3.2 ⟨k + 2, e2⟩
    simp [h4]
theorem unit_no {u : Int} (h : u < 4 ∨ 1048576 < u) : unitB u = false := by
  cases e : unitB u
  · rfl
  · have := unit_bound e; omega

set_option maxHeartbeats 1000000 in
theorem measures_calls (n u : Int) (w : World) : Calls Try.prog 44 #[.int .i64 n, .int .i64 u] w fun e w' => e = .returned (.bool (measB n u)) ∧ w = w' := by
  by_cases h : 4 ≤ u ∧ u ≤ 1048576
  · obtain ⟨h1, h2⟩ := h
    have HU := Lib.hid (unit_bits h1 h2)
    generalize hb : (bits .and .i64 u (u - 1) == 0) = b at HU
    cases b
    · go_enter Try.func44, Try.ntmps44
      go_wp2
      go_ret
      exact ⟨by simp [measB, ← HU.out], rfl⟩
    · go_enter Try.func44, Try.ntmps44
      go_wp2
      all_goals go_ret
      all_goals exact ⟨by simp [measB, ← HU.out, lengthB, *] <;> omega, rfl⟩
  · have HU := Lib.hid (unit_no (u := u) (by omega))
    have h1 : u < 4 ∨ 1048576 < u := by omega
    clear h
    rcases h1 with h1 | h1
    · go_enter Try.func44, Try.ntmps44
      go_wp2
      go_ret
      exact ⟨by simp [measB, HU.out], rfl⟩
    · go_enter Try.func44, Try.ntmps44
      go_wp2
      go_ret
      exact ⟨by simp [measB, HU.out], rfl⟩

set_option maxHeartbeats 1000000 in
theorem lengthOk_calls (n : Int) (w : World) : Calls Try.prog 41 #[.int .i64 n] w fun e w' => e = .returned (.bool (lengthB n)) ∧ w = w' := by
  go_enter Try.func41, Try.ntmps41
  go_wp2
  all_goals go_ret
  all_goals exact ⟨by simp [lengthB, *] <;> omega, rfl⟩

/-- Where an object ends. -/
def endI (n : Int) : Int := if n < 0 then 4611686018427387904 else n
theorem end_calls (n : Int) (w : World) : Calls Try.prog 43 #[.int .i64 n] w fun e w' => e = .returned (.int .i64 (endI n)) ∧ w = w' := by
  go_enter Try.func43, Try.ntmps43
  go_wp2
  all_goals go_ret
  all_goals exact ⟨by simp [endI, *] <;> omega, rfl⟩

/-- What the reference's loop has seen. -/
def seen (u : Int) (j : Nat) : Prop := ∀ k, k < j → u ≠ (2 : Int) ^ (k + 2)
set_option maxHeartbeats 1000000 in
theorem unitOk_calls (u : Int) (w : World) : Calls Try.prog 40 #[.int .i64 u] w fun e w' => e = .returned (.bool (unitB u)) ∧ w = w' := by
  go_enter Try.func40, Try.ntmps40
  go_wp2
  go_loop [3] (fun n => ∃ j : Nat, j ≤ 19 ∧ n = .int .i64 ((2 : Int) ^ (j + 2)) ∧ seen u j) (fun n => (2097152 - intOf n).toNat)
  case atStart => exact ⟨0, by omega, rfl, fun k hk => absurd hk (by omega)⟩
  case round =>
    obtain ⟨j, hj, rfl, hs⟩ := hrel
    by_cases hlt : j ≤ 18
    · obtain ⟨p1, p2⟩ := pow_bound hlt
      have hsucc : (2 : Int) ^ (j + 1 + 2) = 2 * (2 : Int) ^ (j + 2) := by rw [show j + 1 + 2 = j + 2 + 1 by omega, Int.pow_succ]; omega
      have hin : (2 : Int) ^ (j + 2) = u → unitB u = true := fun e => (unitB_iff u).2 ⟨j, hlt, e.symm⟩
      have hnx : (2 : Int) ^ (j + 2) ≠ u → seen u (j + 1) := fun e k hk => by
        rcases Nat.lt_or_ge k j with h | h
        · exact hs k h
        · obtain rfl : k = j := by omega
          exact fun e2 => e e2.symm
      have H1 := Lib.hid hsucc
      have H2 := Lib.hid hin
      have H3 := Lib.hid hnx
      clear hs hsucc hin hnx
      generalize (2 : Int) ^ (j + 2) = n at *
      by_cases e : n = u
      · have HU := Lib.hid (H2.out e)
        subst e
        clear H2 H3
        go_wp2
        go_ret
        exact ⟨by rw [HU.out]; rfl, rfl⟩
      · have e1 : (n == u) = false := by simpa using e
        have H4 := Lib.hid (H3.out e)
        clear H2 H3 e
        go_wp2
        go_round
        case rel => exact ⟨j + 1, by omega, by rw [H1.out]; go_num, H4.out⟩
        case measure => simp [intOf]; omega
    · obtain rfl : j = 19 := by omega
      have hu : unitB u = false := by
        cases e : unitB u
        · rfl
        · obtain ⟨k, hk, e2⟩ := (unitB_iff u).1 e
          exact absurd e2 (hs k (by omega))
      have HU := Lib.hid hu
      have e21 : (2 : Int) ^ (19 + 2) = 2097152 := by decide
      have E := Lib.hid e21
      clear hs hu e21
      rw [E.out]
      go_wp2
      go_ret
      exact ⟨by rw [HU.out]; rfl, rfl⟩
end Go.Proofs.Ytdcdnnbijjcfmaa
