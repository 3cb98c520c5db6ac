/- The sketch in memory; the contracts of counter, Add, Count. -/
import Derived.Test.YtmcddajniiaieaaDoorRow
import Derived.Laws.Bits64
import Derived.BigQuiet
namespace Go.Proofs.YtmcddajniiaieaaDoor
open Go.RowKit

/-- Four rows of 1024 counters, whatever they have counted; m were counted. -/
structure SkAt (w : World) (B sb : Nat) (m : Int) : Prop where
  ex : ∃ R c, w.heap[sb]? = some (.cells #[.slice (some ⟨R, 0, none⟩) 4 c, .int .i64 16384, .int .i64 m] 100 (0, 0)) ∧
    (∃ cs, w.heap[R]? = some (.cells cs 28 (0, 0)) ∧ ∀ i, i < 4 → ∃ r ci ds, cs[i]? = some (.slice (some ⟨r, 0, none⟩) 1024 ci) ∧ B ≤ r ∧ w.heap[r]? = some (.cells ds 2 (0, 0)) ∧ ∀ j, j < 1024 → ∃ n, ds[j]? = some (.int .i64 n))
  sb : B ≤ sb

theorem u64_wrap_range (n : Int) : 0 ≤ IntKind.u64.wrap n ∧ IntKind.u64.wrap n < 18446744073709551616 := by
  have h : IntKind.u64.wrap n = n % 18446744073709551616 := by simp [IntKind.wrap, IntKind.bits, IntKind.signed]
  rw [h]
  omega
theorem xor_nonneg {a b : Int} (h0 : 0 ≤ a) (h1 : a < 18446744073709551616) (k0 : 0 ≤ b) (k1 : b < 18446744073709551616) : 0 ≤ bits .xor .u64 a b := by
  obtain ⟨x, rfl⟩ := Int.eq_ofNat_of_zero_le h0
  obtain ⟨y, rfl⟩ := Int.eq_ofNat_of_zero_le k0
  rw [bits_xor_u64_nat x y (by omega) (by omega)]
  omega
set_option maxHeartbeats 1000000 in
set_option maxRecDepth 100000 in
theorem counter_calls (B sb : Nat) (m : Int) (i : Nat) (k : Int) (w : World) (h : SkAt w B sb m) (hi : i < 4) (hk : 0 ≤ k ∧ k < 18446744073709551616) :
    Calls Tryd.prog 39 #[.pointer (some ⟨sb, 0, none⟩), .int .i64 i, .int .u64 k] w fun e w' => (∃ r j ds, e = .returned (.pointer (some ⟨r, j, none⟩)) ∧ B ≤ r ∧ j < 1024 ∧ w.heap[r]? = some (.cells ds 2 (0, 0)) ∧ ∃ n, ds[j]? = some (.int .i64 n)) ∧ Ext w w' := by
  obtain ⟨R, c, hb, ⟨cs, hR, hrow⟩⟩ := h.ex
  obtain ⟨r, ci, ds, h1, h2, h3, h4⟩ := hrow i hi
  have l0 : w.cell? ⟨sb, 0, none⟩ = some (.slice (some ⟨R, 0, none⟩) 4 c) := blk_cell hb 0 rfl
  have l1 : w.cell? ⟨R, i, none⟩ = some (.slice (some ⟨r, 0, none⟩) 1024 ci) := blk_cell hR i h1
  have hi2 : (i : Int) < 4 := by omega
  clear h hb hR hrow h1
  go_enter Tryd.func39, Tryd.ntmps39
  go_upto_region 2 with (fail)
  obtain ⟨X1, hX1⟩ : ∃ X, bits .xor .u64 k (IntKind.u64.wrap (((i : Int) + 1) * 11400714819323198485)) = X := ⟨_, rfl⟩
  rw [hX1]
  clear hX1
  go_upto_region 3 with (fail)
  obtain ⟨X2, hX2⟩ : ∃ X, IntKind.u64.wrap (bits .xor .u64 X1 (X1 / 1073741824) * 13787848793156543929) = X := ⟨_, rfl⟩
  rw [hX2]
  clear hX2
  go_upto_region 4 with (fail)
  obtain ⟨X3, hX3⟩ : ∃ X, IntKind.u64.wrap (bits .xor .u64 X2 (X2 / 134217728) * 10723151780598845931) = X := ⟨_, rfl⟩
  have h30 : 0 ≤ X3 ∧ X3 < 18446744073709551616 := by rw [← hX3]; exact u64_wrap_range _
  rw [hX3]
  clear hX3
  go_upto_region 5 with (fail)
  obtain ⟨X4, hX4⟩ : ∃ X, bits .xor .u64 X3 (X3 / 2147483648) = X := ⟨_, rfl⟩
  have h40 : 0 ≤ X4 := by rw [← hX4]; exact xor_nonneg h30.1 h30.2 (by omega) (by omega)
  rw [hX4]
  clear hX4
  obtain ⟨J, hJ⟩ : ∃ J : Nat, X4 % 1024 = (J : Int) := ⟨(X4 % 1024).toNat, by omega⟩
  have hJ2 : X4.tmod 1024 = (J : Int) := by rw [Int.tmod_eq_emod_of_nonneg h40]; exact hJ
  have hJ3 : J < 1024 := by omega
  have hJ4 : (J : Int) < 1024 := by omega
  obtain ⟨n, hn⟩ := h4 J hJ3
  clear h4
  go_wp2
  go_quiet (fail)
  go_wp2
  go_ret
  exact ⟨⟨r, J, ds, rfl, h2, hJ3, h3, n, hn⟩, (Ext.refl _).drewN _⟩
end Go.Proofs.YtmcddajniiaieaaDoor
