/- assemble.ready. -/
import Derived.Test.YtcdokpkffbigdaaBe
import Derived.Lib.MinMax
import Derived.BigRegion
namespace Go.Proofs.Ytcdokpkffbigdaa
open Go.RowKit

/-- As much of a part as is there. -/
def readyS (p : Pt) (S : List Sp) : Option Pt := if p.s = [] then
    match firstS S p.f with
    | some x => if x.f = p.f then some ⟨[], p.f, min p.t x.t⟩ else none
    | none => none
  else some p
def optP (o : Option Pt) : Value := (o.getD ⟨[], 0, 0⟩).val
set_option maxHeartbeats 2000000 in
set_option maxRecDepth 100000 in
theorem ready_calls (s : List UInt8) (f t : Int) (A : Option Addr) (c : Nat) (S : List Sp) (w : World) (h : SAt w A S) (hn : Norm S) (hl : S.length ≤ 1000000) :
    Calls Try.prog 40 #[.agg #[.string ⟨s.toArray⟩, .int .i64 f, .int .i64 t], .agg #[.slice A S.length c]] w fun e w' => e = .returned (.tuple #[optP (readyS ⟨s, f, t⟩ S), .bool (readyS ⟨s, f, t⟩ S).isSome]) ∧ Ext w w' := by
  have hx0 : Ext w (((w.alloc (.cells #[.string ⟨s.toArray⟩, .int .i64 f, .int .i64 t] 40)).alloc (.cells #[.slice A S.length c] 34)).alloc (.cells #[.string ⟨#[]⟩, .int .i64 0, .int .i64 0] 40)) := (((Ext.refl w).alloc _).alloc _).alloc _
  have h' := h.ext hx0
  cases e1 : (s == [])
  · have hs : ¬ s = [] := by simpa using e1
    have hR : readyS ⟨s, f, t⟩ S = some ⟨s, f, t⟩ := by simp [readyS, hs]
    have HR := Lib.hid hR
    clear hR h h' hn hl hs
    go_enter Try.func40, Try.ntmps40
    go_wp2
    refine bodyPost_ret (v := .tuple #[.agg #[.string ⟨s.toArray⟩, .int .i64 f, .int .i64 t], .bool true]) (by simp [results, Try.results40, go_sem]) rfl ⟨by rw [HR.out]; rfl, ?_⟩
    exact (((Ext.refl w).alloc _).alloc _).alloc _
  · have hs : s = [] := by simpa using e1
    subst hs
    go_enter Try.func40, Try.ntmps40
    go_wp2_with fail
    refine (first_calls A c S f _ h' hn hl).mono ?_
    rintro e w1 ⟨rfl, hx⟩
    have k0 : w1.cell? ⟨w.heap.size, 0, none⟩ = some (.string ⟨#[]⟩) := hx.cell (by simp [go_sem])
    have k1 : w1.cell? ⟨w.heap.size, 1, none⟩ = some (.int .i64 f) := hx.cell (by simp [go_sem])
    have k2 : w1.cell? ⟨w.heap.size, 2, none⟩ = some (.int .i64 t) := hx.cell (by simp [go_sem])
    have r0 : w1.cell? ⟨w.heap.size + 1 + 1, 0, none⟩ = some (.string ⟨#[]⟩) := hx.cell (by simp [go_sem])
    have r1 : w1.cell? ⟨w.heap.size + 1 + 1, 1, none⟩ = some (.int .i64 0) := hx.cell (by simp [go_sem])
    have r2 : w1.cell? ⟨w.heap.size + 1 + 1, 2, none⟩ = some (.int .i64 0) := hx.cell (by simp [go_sem])
    have g0 : ∀ j, w1.frozen? ⟨w.heap.size + 1 + 1, j, none⟩ = false := fun j => (hx.frozen (by simp)).trans (by simp [go_sem])
    have g2 : ∀ j, w1.frozen? ⟨w.heap.size, j, none⟩ = false := fun j => (hx.frozen (by simp; omega)).trans (by simp [go_sem])
    have z1 : w.heap.size + 1 + 1 < w1.heap.size := by have := hx.size; simp at this; omega
    have z0 : w.heap.size < w1.heap.size := by omega
    replace hx := hx0.trans hx
    clear hx0 h' h hl hn
    cases hF : firstS S f
    · have hR : readyS ⟨[], f, t⟩ S = none := by simp [readyS, hF]
      have HR := Lib.hid hR
      have hv : optV none = .agg #[.int .i64 0, .int .i64 0] := rfl
      rw [hv]
      clear hR hv hF
      go_wp2
      refine bodyPost_ret (v := .tuple #[.agg #[.string ⟨#[]⟩, .int .i64 0, .int .i64 0], .bool false]) (by simp [results, Try.results40, go_sem, r0, r1, r2, z1]) rfl ⟨by rw [HR.out]; rfl, ?_⟩
      ((repeat' (first | exact hx | refine Ext.alloc ?_ _ | refine Ext.drew ?_ | refine Ext.setCell ?_ ?_ _)) <;> (first | (dsimp only; omega) | (simp; omega)))
    · rename_i x
      rcases x with ⟨xf, xt⟩
      have hv : optV (some ⟨xf, xt⟩) = .agg #[.int .i64 xf, .int .i64 xt] := rfl
      rw [hv]
      clear hv
      cases e2 : decide (xf = f)
      · have e3 : ¬ xf = f := by simpa using e2
        have hR : readyS ⟨[], f, t⟩ S = none := by simp [readyS, hF, e3]
        have HR := Lib.hid hR
        clear hR hF e2
        go_wp2
        refine bodyPost_ret (v := .tuple #[.agg #[.string ⟨#[]⟩, .int .i64 0, .int .i64 0], .bool false]) (by simp [results, Try.results40, go_sem, r0, r1, r2, z1]) rfl ⟨by rw [HR.out]; rfl, ?_⟩
        ((repeat' (first | exact hx | refine Ext.alloc ?_ _ | refine Ext.drew ?_ | refine Ext.setCell ?_ ?_ _)) <;> (first | (dsimp only; omega) | (simp; omega)))
      · have e3 : xf = f := by simpa using e2
        subst e3
        have hR : readyS ⟨[], xf, t⟩ S = some ⟨[], xf, min t xt⟩ := by simp [readyS, hF]
        have HR := Lib.hid hR
        clear hR hF e2
        go_wp2
        refine bodyPost_ret (v := .tuple #[.agg #[.string ⟨#[]⟩, .int .i64 xf, .int .i64 (min t xt)], .bool true]) (by simp [results, Try.results40, go_sem, r0, r1, r2, z1]) rfl ⟨by rw [HR.out]; rfl, ?_⟩
        ((repeat' (first | exact hx | refine Ext.alloc ?_ _ | refine Ext.drew ?_ | refine Ext.setCell ?_ ?_ _)) <;> (first | (dsimp only; omega) | (simp; omega)))
end Go.Proofs.Ytcdokpkffbigdaa
