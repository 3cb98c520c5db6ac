/- The contracts of the reference's Cut (of what the parts ask) and Parts. -/
import Derived.Test.YtoahjhkfnchdhaaPartsl
import Derived.Deep.RegionHeld3
namespace Go.Proofs.Ytoahjhkfnchdhaa
open Go.RowKit

set_option maxHeartbeats 1000000 in
set_option maxRecDepth 100000 in
theorem cut_calls (f t a : Int) (hr : rightB f t = true) (ha : f ≤ a) (w : World) :
    Calls Try.prog 41 #[.agg #[.int .i64 f, .int .i64 t], .int .i64 a] w fun e w' => e = .returned (.tuple #[.agg #[.int .i64 f, .int .i64 (min a t)], .agg #[.int .i64 (min a t), .int .i64 t]]) ∧ Ext w w' := by
  have hR := fun W => refright_calls f t W
  rw [hr] at hR
  have HR := Lib.hid hR
  clear hR hr
  by_cases h : t < a
  · have hm : min a t = t := by omega
    have HM := Lib.hid hm
    clear hm
    rw [HM.out]
    go_enter Try.func41, Try.ntmps41
    go_wp2_with fail
    refine (HR.out _).mono ?_
    rintro e w1 ⟨rfl, hx⟩
    have b0 := hx.block ((Ext.refl _).alloc (.cells #[.int .i64 0, .int .i64 0] 24) |>.block ((Ext.refl _).alloc (.cells #[.int .i64 0, .int .i64 0] 24) |>.block (heap_alloc_new w (.cells #[.int .i64 f, .int .i64 t] 24))))
    have b1 := hx.block ((Ext.refl _).alloc (.cells #[.int .i64 0, .int .i64 0] 24) |>.block (heap_alloc_new (w.alloc (.cells #[.int .i64 f, .int .i64 t] 24)) (.cells #[.int .i64 0, .int .i64 0] 24)))
    have b2 := hx.block (heap_alloc_new ((w.alloc (.cells #[.int .i64 f, .int .i64 t] 24)).alloc (.cells #[.int .i64 0, .int .i64 0] 24)) (.cells #[.int .i64 0, .int .i64 0] 24))
    have hxw : Ext w w1 := ((((Ext.refl w).alloc _).alloc _).alloc _).trans hx
    simp only [World.size_alloc] at b1 b2
    have c0 : w1.cell? ⟨w.heap.size, 0, none⟩ = some (.int .i64 f) := by rw [cell_of_row _ _ _ _ _ _ b0]; rfl
    have c1 : w1.cell? ⟨w.heap.size, 1, none⟩ = some (.int .i64 t) := by rw [cell_of_row _ _ _ _ _ _ b0]; rfl
    have f1 : ∀ j, w1.frozen? ⟨w.heap.size + 1, j, none⟩ = false := fun j => by simp [World.frozen?, b1]
    have f2 : ∀ j, w1.frozen? ⟨w.heap.size + 1 + 1, j, none⟩ = false := fun j => by simp [World.frozen?, b2]
    have d1 : w1.cell? ⟨w.heap.size + 1, 0, none⟩ = some (.int .i64 0) := by rw [cell_of_row _ _ _ _ _ _ b1]; rfl
    have d2 : w1.cell? ⟨w.heap.size + 1, 1, none⟩ = some (.int .i64 0) := by rw [cell_of_row _ _ _ _ _ _ b1]; rfl
    have d3 : w1.cell? ⟨w.heap.size + 1 + 1, 0, none⟩ = some (.int .i64 0) := by rw [cell_of_row _ _ _ _ _ _ b2]; rfl
    have d4 : w1.cell? ⟨w.heap.size + 1 + 1, 1, none⟩ = some (.int .i64 0) := by rw [cell_of_row _ _ _ _ _ _ b2]; rfl
    clear b0 b1 b2 hx
    go_wp2
    go_region
    go_wp2
    refine bodyPost_ret (v := .tuple #[.agg #[.int .i64 f, .int .i64 t], .agg #[.int .i64 t, .int .i64 t]]) (by simp [results, Try.results41, go_sem, d1, d2, d3, d4]) rfl ⟨rfl, ?_⟩
    refine Ext.drew ?_
    repeat (refine Ext.setCell ?_ (by show w.heap.size ≤ _; simp <;> omega) _)
    exact hxw
  · have hm : min a t = a := by omega
    have HM := Lib.hid hm
    clear hm
    rw [HM.out]
    go_enter Try.func41, Try.ntmps41
    go_wp2_with fail
    refine (HR.out _).mono ?_
    rintro e w1 ⟨rfl, hx⟩
    have b0 := hx.block ((Ext.refl _).alloc (.cells #[.int .i64 0, .int .i64 0] 24) |>.block ((Ext.refl _).alloc (.cells #[.int .i64 0, .int .i64 0] 24) |>.block (heap_alloc_new w (.cells #[.int .i64 f, .int .i64 t] 24))))
    have b1 := hx.block ((Ext.refl _).alloc (.cells #[.int .i64 0, .int .i64 0] 24) |>.block (heap_alloc_new (w.alloc (.cells #[.int .i64 f, .int .i64 t] 24)) (.cells #[.int .i64 0, .int .i64 0] 24)))
    have b2 := hx.block (heap_alloc_new ((w.alloc (.cells #[.int .i64 f, .int .i64 t] 24)).alloc (.cells #[.int .i64 0, .int .i64 0] 24)) (.cells #[.int .i64 0, .int .i64 0] 24))
    have hxw : Ext w w1 := ((((Ext.refl w).alloc _).alloc _).alloc _).trans hx
    simp only [World.size_alloc] at b1 b2
    have c0 : w1.cell? ⟨w.heap.size, 0, none⟩ = some (.int .i64 f) := by rw [cell_of_row _ _ _ _ _ _ b0]; rfl
    have c1 : w1.cell? ⟨w.heap.size, 1, none⟩ = some (.int .i64 t) := by rw [cell_of_row _ _ _ _ _ _ b0]; rfl
    have f1 : ∀ j, w1.frozen? ⟨w.heap.size + 1, j, none⟩ = false := fun j => by simp [World.frozen?, b1]
    have f2 : ∀ j, w1.frozen? ⟨w.heap.size + 1 + 1, j, none⟩ = false := fun j => by simp [World.frozen?, b2]
    have d1 : w1.cell? ⟨w.heap.size + 1, 0, none⟩ = some (.int .i64 0) := by rw [cell_of_row _ _ _ _ _ _ b1]; rfl
    have d2 : w1.cell? ⟨w.heap.size + 1, 1, none⟩ = some (.int .i64 0) := by rw [cell_of_row _ _ _ _ _ _ b1]; rfl
    have d3 : w1.cell? ⟨w.heap.size + 1 + 1, 0, none⟩ = some (.int .i64 0) := by rw [cell_of_row _ _ _ _ _ _ b2]; rfl
    have d4 : w1.cell? ⟨w.heap.size + 1 + 1, 1, none⟩ = some (.int .i64 0) := by rw [cell_of_row _ _ _ _ _ _ b2]; rfl
    clear b0 b1 b2 hx
    go_wp2
    go_region
    go_wp2
    refine bodyPost_ret (v := .tuple #[.agg #[.int .i64 f, .int .i64 a], .agg #[.int .i64 a, .int .i64 t]]) (by simp [results, Try.results41, go_sem, d1, d2, d3, d4]) rfl ⟨rfl, ?_⟩
    refine Ext.drew ?_
    repeat (refine Ext.setCell ?_ (by show w.heap.size ≤ _; simp <;> omega) _)
    exact hxw
end Go.Proofs.Ytoahjhkfnchdhaa
