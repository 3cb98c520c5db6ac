/- The contract of bits.Len64. -/
import Derived.Test.YtgcplndmhlideaaGreatBase
import Derived.Test.YtgcplndmhlideaaGreatProg
namespace Go.Proofs.YtgcplndmhlideaaGreat
open Go.RowKit

theorem log2_shift {x s : Nat} (h : 2 ^ s ≤ x) : x.log2 = (x / 2 ^ s).log2 + s := by
  have hp := Nat.two_pow_pos s
  have hy : x / 2 ^ s ≠ 0 := by
    have := Nat.div_pos h hp
    omega
  have hx : x ≠ 0 := by omega
  have l1 := (Nat.le_log2 hy).1 (Nat.le_refl _)
  have l2 := (Nat.log2_lt hy).1 (Nat.lt_succ_self _)
  have m1 : 2 ^ ((x / 2 ^ s).log2 + s) ≤ x := by
    rw [Nat.pow_add]
    exact Nat.le_trans (Nat.mul_le_mul_right _ l1) (Nat.div_mul_le_self _ _)
  have m2 : x < 2 ^ ((x / 2 ^ s).log2 + s + 1) := by
    rw [show (x / 2 ^ s).log2 + s + 1 = ((x / 2 ^ s).log2 + 1) + s from by omega, Nat.pow_add]
    exact (Nat.div_lt_iff_lt_mul hp).1 l2
  have := (Nat.le_log2 hx).2 m1
  have := (Nat.log2_lt hx).2 m2
  omega

set_option maxRecDepth 100000 in
theorem len64_000 (x : Nat) (hx : x < 256) (h0 : 0 < x) (c0 : ¬ (4294967296 : Int) ≤ x) (c1 : ¬ (65536 : Int) ≤ x) (c2 : ¬ (256 : Int) ≤ x) (hl : (x : Int) < 256) (w : World) :
    Calls Tryz.prog 74 #[.int .u64 x] w fun e w' => e = .returned (.int .i64 ((x.log2 + 1 + 0 : Nat) : Int)) ∧ Ext w w' := by
  go_enter Tryz.func74, Tryz.ntmps74
  go_wp2_with fail
  go_ret
  refine ⟨congrArg (fun z : Int => Ending.returned (.int .i64 z)) ?_, Ext.refl w⟩
  clear w
  revert hl c2 c1 c0
  revert h0
  revert hx
  revert x
  decide +kernel

set_option maxRecDepth 100000 in
theorem len64_001 (y2 : Nat) (hx : y2 < 256) (h0 : 0 < y2) (x : Nat) (c0 : ¬ (4294967296 : Int) ≤ x) (c1 : ¬ (65536 : Int) ≤ x) (c2 : (256 : Int) ≤ x) (e2 : (x : Int) / 256 = y2) (hl : (y2 : Int) < 256) (w : World) :
    Calls Tryz.prog 74 #[.int .u64 x] w fun e w' => e = .returned (.int .i64 ((y2.log2 + 1 + 8 : Nat) : Int)) ∧ Ext w w' := by
  go_enter Tryz.func74, Tryz.ntmps74
  go_wp2_with fail
  go_ret
  refine ⟨congrArg (fun z : Int => Ending.returned (.int .i64 z)) ?_, Ext.refl w⟩
  clear w c0 c1 c2 e2
  revert hl 
  revert h0
  revert hx
  revert y2
  decide +kernel

set_option maxRecDepth 100000 in
theorem len64_010 (y1 : Nat) (hx : y1 < 256) (h0 : 0 < y1) (x : Nat) (c0 : ¬ (4294967296 : Int) ≤ x) (c1 : (65536 : Int) ≤ x) (e1 : (x : Int) / 65536 = y1) (c2 : ¬ (256 : Int) ≤ y1) (hl : (y1 : Int) < 256) (w : World) :
    Calls Tryz.prog 74 #[.int .u64 x] w fun e w' => e = .returned (.int .i64 ((y1.log2 + 1 + 16 : Nat) : Int)) ∧ Ext w w' := by
  go_enter Tryz.func74, Tryz.ntmps74
  go_wp2_with fail
  go_ret
  refine ⟨congrArg (fun z : Int => Ending.returned (.int .i64 z)) ?_, Ext.refl w⟩
  clear w c0 c1 e1
  revert hl c2
  revert h0
  revert hx
  revert y1
  decide +kernel

set_option maxRecDepth 100000 in
theorem len64_011 (y2 : Nat) (hx : y2 < 256) (h0 : 0 < y2) (x y1 : Nat) (c0 : ¬ (4294967296 : Int) ≤ x) (c1 : (65536 : Int) ≤ x) (e1 : (x : Int) / 65536 = y1) (c2 : (256 : Int) ≤ y1) (e2 : (y1 : Int) / 256 = y2) (hl : (y2 : Int) < 256) (w : World) :
    Calls Tryz.prog 74 #[.int .u64 x] w fun e w' => e = .returned (.int .i64 ((y2.log2 + 1 + 24 : Nat) : Int)) ∧ Ext w w' := by
  go_enter Tryz.func74, Tryz.ntmps74
  go_wp2_with fail
  go_ret
  refine ⟨congrArg (fun z : Int => Ending.returned (.int .i64 z)) ?_, Ext.refl w⟩
  clear w c0 c1 e1 c2 e2
  revert hl 
  revert h0
  revert hx
  revert y2
  decide +kernel

set_option maxRecDepth 100000 in
theorem len64_100 (y0 : Nat) (hx : y0 < 256) (h0 : 0 < y0) (x : Nat) (c0 : (4294967296 : Int) ≤ x) (e0 : (x : Int) / 4294967296 = y0) (c1 : ¬ (65536 : Int) ≤ y0) (c2 : ¬ (256 : Int) ≤ y0) (hl : (y0 : Int) < 256) (w : World) :
    Calls Tryz.prog 74 #[.int .u64 x] w fun e w' => e = .returned (.int .i64 ((y0.log2 + 1 + 32 : Nat) : Int)) ∧ Ext w w' := by
  go_enter Tryz.func74, Tryz.ntmps74
  go_wp2_with fail
  go_ret
  refine ⟨congrArg (fun z : Int => Ending.returned (.int .i64 z)) ?_, Ext.refl w⟩
  clear w c0 e0 c1
  revert hl c2
  revert h0
  revert hx
  revert y0
  decide +kernel

set_option maxRecDepth 100000 in
theorem len64_101 (y2 : Nat) (hx : y2 < 256) (h0 : 0 < y2) (x y0 : Nat) (c0 : (4294967296 : Int) ≤ x) (e0 : (x : Int) / 4294967296 = y0) (c1 : ¬ (65536 : Int) ≤ y0) (c2 : (256 : Int) ≤ y0) (e2 : (y0 : Int) / 256 = y2) (hl : (y2 : Int) < 256) (w : World) :
    Calls Tryz.prog 74 #[.int .u64 x] w fun e w' => e = .returned (.int .i64 ((y2.log2 + 1 + 40 : Nat) : Int)) ∧ Ext w w' := by
  go_enter Tryz.func74, Tryz.ntmps74
  go_wp2_with fail
  go_ret
  refine ⟨congrArg (fun z : Int => Ending.returned (.int .i64 z)) ?_, Ext.refl w⟩
  clear w c0 e0 c1 c2 e2
  revert hl 
  revert h0
  revert hx
  revert y2
  decide +kernel

set_option maxRecDepth 100000 in
theorem len64_110 (y1 : Nat) (hx : y1 < 256) (h0 : 0 < y1) (x y0 : Nat) (c0 : (4294967296 : Int) ≤ x) (e0 : (x : Int) / 4294967296 = y0) (c1 : (65536 : Int) ≤ y0) (e1 : (y0 : Int) / 65536 = y1) (c2 : ¬ (256 : Int) ≤ y1) (hl : (y1 : Int) < 256) (w : World) :
    Calls Tryz.prog 74 #[.int .u64 x] w fun e w' => e = .returned (.int .i64 ((y1.log2 + 1 + 48 : Nat) : Int)) ∧ Ext w w' := by
  go_enter Tryz.func74, Tryz.ntmps74
  go_wp2_with fail
  go_ret
  refine ⟨congrArg (fun z : Int => Ending.returned (.int .i64 z)) ?_, Ext.refl w⟩
  clear w c0 e0 c1 e1
  revert hl c2
  revert h0
  revert hx
  revert y1
  decide +kernel

set_option maxRecDepth 100000 in
theorem len64_111 (y2 : Nat) (hx : y2 < 256) (h0 : 0 < y2) (x y0 y1 : Nat) (c0 : (4294967296 : Int) ≤ x) (e0 : (x : Int) / 4294967296 = y0) (c1 : (65536 : Int) ≤ y0) (e1 : (y0 : Int) / 65536 = y1) (c2 : (256 : Int) ≤ y1) (e2 : (y1 : Int) / 256 = y2) (hl : (y2 : Int) < 256) (w : World) :
    Calls Tryz.prog 74 #[.int .u64 x] w fun e w' => e = .returned (.int .i64 ((y2.log2 + 1 + 56 : Nat) : Int)) ∧ Ext w w' := by
  go_enter Tryz.func74, Tryz.ntmps74
  go_wp2_with fail
  go_ret
  refine ⟨congrArg (fun z : Int => Ending.returned (.int .i64 z)) ?_, Ext.refl w⟩
  clear w c0 e0 c1 e1 c2 e2
  revert hl 
  revert h0
  revert hx
  revert y2
  decide +kernel

set_option maxHeartbeats 2000000 in
theorem len64_calls (x : Nat) (h0 : 0 < x) (hx : x < 2 ^ 64) (w : World) :
    Calls Tryz.prog 74 #[.int .u64 x] w fun e w' => e = .returned (.int .i64 ((x.log2 + 1 : Nat) : Int)) ∧ Ext w w' := by
  by_cases a0 : 4294967296 ≤ x
  · have g0 := log2_shift (s := 32) a0
    obtain ⟨y0, z0⟩ : ∃ y, x / 2 ^ 32 = y := ⟨_, rfl⟩
    rw [z0] at g0
    by_cases a1 : 65536 ≤ y0
    · have g1 := log2_shift (s := 16) a1
      obtain ⟨y1, z1⟩ : ∃ y, y0 / 2 ^ 16 = y := ⟨_, rfl⟩
      rw [z1] at g1
      by_cases a2 : 256 ≤ y1
      · have g2 := log2_shift (s := 8) a2
        obtain ⟨y2, z2⟩ : ∃ y, y1 / 2 ^ 8 = y := ⟨_, rfl⟩
        rw [z2] at g2
        have hq := len64_111 y2 (by omega) (by omega) x y0 y1 (by omega) (by omega) (by omega) (by omega) (by omega) (by omega) (by omega) w
        rw [show x.log2 + 1 = y2.log2 + 1 + 56 from by omega]; exact hq
      · skip
        have hq := len64_110 y1 (by omega) (by omega) x y0 (by omega) (by omega) (by omega) (by omega) (by omega) (by omega) w
        rw [show x.log2 + 1 = y1.log2 + 1 + 48 from by omega]; exact hq
    · skip
      by_cases a2 : 256 ≤ y0
      · have g2 := log2_shift (s := 8) a2
        obtain ⟨y2, z2⟩ : ∃ y, y0 / 2 ^ 8 = y := ⟨_, rfl⟩
        rw [z2] at g2
        have hq := len64_101 y2 (by omega) (by omega) x y0 (by omega) (by omega) (by omega) (by omega) (by omega) (by omega) w
        rw [show x.log2 + 1 = y2.log2 + 1 + 40 from by omega]; exact hq
      · skip
        have hq := len64_100 y0 (by omega) (by omega) x (by omega) (by omega) (by omega) (by omega) (by omega) w
        rw [show x.log2 + 1 = y0.log2 + 1 + 32 from by omega]; exact hq
  · skip
    by_cases a1 : 65536 ≤ x
    · have g1 := log2_shift (s := 16) a1
      obtain ⟨y1, z1⟩ : ∃ y, x / 2 ^ 16 = y := ⟨_, rfl⟩
      rw [z1] at g1
      by_cases a2 : 256 ≤ y1
      · have g2 := log2_shift (s := 8) a2
        obtain ⟨y2, z2⟩ : ∃ y, y1 / 2 ^ 8 = y := ⟨_, rfl⟩
        rw [z2] at g2
        have hq := len64_011 y2 (by omega) (by omega) x y1 (by omega) (by omega) (by omega) (by omega) (by omega) (by omega) w
        rw [show x.log2 + 1 = y2.log2 + 1 + 24 from by omega]; exact hq
      · skip
        have hq := len64_010 y1 (by omega) (by omega) x (by omega) (by omega) (by omega) (by omega) (by omega) w
        rw [show x.log2 + 1 = y1.log2 + 1 + 16 from by omega]; exact hq
    · skip
      by_cases a2 : 256 ≤ x
      · have g2 := log2_shift (s := 8) a2
        obtain ⟨y2, z2⟩ : ∃ y, x / 2 ^ 8 = y := ⟨_, rfl⟩
        rw [z2] at g2
        have hq := len64_001 y2 (by omega) (by omega) x (by omega) (by omega) (by omega) (by omega) (by omega) w
        rw [show x.log2 + 1 = y2.log2 + 1 + 8 from by omega]; exact hq
      · skip
        have hq := len64_000 x (by omega) (by omega)  (by omega) (by omega) (by omega) (by omega) w
        rw [show x.log2 + 1 = x.log2 + 1 + 0 from by omega]; exact hq
end Go.Proofs.YtgcplndmhlideaaGreat
