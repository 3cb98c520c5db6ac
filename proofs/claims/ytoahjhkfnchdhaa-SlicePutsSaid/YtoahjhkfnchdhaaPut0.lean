/- Put, where nothing is put. -/
import Derived.Test.YtoahjhkfnchdhaaPutp
namespace Go.Proofs.Ytoahjhkfnchdhaa
open Go.RowKit

set_option maxHeartbeats 4000000 in
set_option maxRecDepth 100000 in
theorem put0_calls (pb : Nat) (F T : Int) (a : Int) (A : Option Addr) (m c : Nat) (w : World) (d2 : w.cell? ⟨pb, 2, none⟩ = some (.int .i64 F)) (d3 : w.cell? ⟨pb, 3, none⟩ = some (.int .i64 T))
    (f0 : 0 ≤ F) (ft : F < T) (t1 : T ≤ 1099511627776) (hm : m ≤ 1000) (ha : -9223372036854775808 ≤ a) (ha' : a < 9223372036854775808) (h : a < 0 ∨ min (a + m) T ≤ max a F) :
    Calls Try.prog 23 #[.pointer (some ⟨pb, 0, none⟩), .int .i64 a, .slice A m c] w fun e w' => e = .returned (.tuple #[.int .i64 0, .int .i64 (if a < 0 then 1 else 0)]) ∧ Ext w w' := by
  have hpb : pb < w.heap.size := block_of_cell d2
  have hx0 : Ext w (((w.alloc (.cells #[.pointer (some ⟨pb, 0, none⟩)] 36)).alloc (.cells #[.int .i64 0] 3)).alloc (.cells #[.int .i64 0] 37)) := (((Ext.refl w).alloc _).alloc _).alloc _
  by_cases e0 : a < 0
  · rw [if_pos e0]
    go_enter Try.func23, Try.ntmps23
    go_wp2
    refine bodyPost_ret (v := .tuple #[.int .i64 0, .int .i64 1]) (by simp [results, Try.results23, go_sem]) rfl ⟨rfl, ?_⟩
    exact (((Ext.refl w).alloc _).alloc _).alloc _
  · rw [if_neg e0]
    have h0 : min (a + m) T ≤ max a F := by omega
    have n0 : 0 ≤ a := by omega
    clear h
    have g2 := hx0.cell d2
    have g3 := hx0.cell d3
    by_cases e1 : T ≤ a ∨ m = 0
    · have b1 : decide (T ≤ a) = true ∨ (decide (T ≤ a) = false ∧ m = 0) := by
        by_cases h : T ≤ a
        · left; simpa using h
        · right; exact ⟨by simpa using h, by omega⟩
      rcases b1 with b1 | ⟨b1, rfl⟩
      all_goals
        go_enter Try.func23, Try.ntmps23
        go_wp2
        refine bodyPost_ret (v := .tuple #[.int .i64 0, .int .i64 0]) (by simp [results, Try.results23, go_sem]) rfl ⟨rfl, ?_⟩
        exact (((Ext.refl w).alloc _).alloc _).alloc _
    · have h1 : a < T := by omega
      have h2 : 0 < m := by omega
      have hmt : meets a (a + m) F T = false := by unfold meets; simp; intros; omega
      have hmv : meetV a (a + m) F T = .agg #[.int .i64 0, .int .i64 0] := by unfold meetV; rw [hmt]; rfl
      have hmc := meet_calls a (a + m) F T _ |>.mono fun e w' (h : _ ∧ Ext (((w.alloc (.cells #[.pointer (some ⟨pb, 0, none⟩)] 36)).alloc (.cells #[.int .i64 0] 3)).alloc (.cells #[.int .i64 0] 37)) w') => h
      rw [hmt, hmv] at hmc
      have HC := Lib.hid hmc
      have b1 : decide (T ≤ a) = false := by simpa using h1
      have b2 : ((m : Int) == 0) = false := by simp; omega
      have b3 : ¬ (m : Int) = 0 := by omega
      clear hmc hmt hmv e1 e0 h0
      go_enter Try.func23, Try.ntmps23
      go_wp2_with fail
      refine HC.out.mono ?_
      rintro e w1 ⟨rfl, hx⟩
      have z1 := hx.size
      simp only [World.size_alloc] at z1
      have q1 : w1.frozen? ⟨w.heap.size + 1, 0, none⟩ = false := (hx.frozen (by simp)).trans (by simp [go_sem])
      have q2 : w1.frozen? ⟨w.heap.size + 1 + 1, 0, none⟩ = false := (hx.frozen (by simp)).trans (by simp [go_sem])
      have u1 : w1.cell? ⟨w.heap.size + 1, 0, none⟩ = some (.int .i64 0) := hx.cell (by simp [go_sem])
      have u2 : w1.cell? ⟨w.heap.size + 1 + 1, 0, none⟩ = some (.int .i64 0) := hx.cell (by simp [go_sem])
      replace hx := hx0.trans hx
      have z2 : w.heap.size + 1 < w1.heap.size := by omega
      have z3 : w.heap.size + 1 + 1 < w1.heap.size := by omega
      have z4 : w.heap.size + 1 < w1.heap.size + 1 := by omega
      have z5 : w.heap.size + 1 + 1 < w1.heap.size + 1 := by omega
      clear hx0 HC
      go_wp2
      refine bodyPost_ret (v := .tuple #[.int .i64 0, .int .i64 0]) (by simp [results, Try.results23, go_sem, u1, u2, z2, z3, z4, z5]) rfl ⟨rfl, ?_⟩
      refine Ext.alloc (Ext.setCell (Ext.setCell hx ?_ _) ?_ _) _ <;> first | (show w.heap.size ≤ w.heap.size + 1; omega) | (show w.heap.size ≤ w.heap.size + 1 + 1; omega)
end Go.Proofs.Ytoahjhkfnchdhaa
