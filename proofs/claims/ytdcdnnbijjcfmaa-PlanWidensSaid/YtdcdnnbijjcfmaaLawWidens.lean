/- The law PlanWidens: it returns true. -/
import Derived.Test.YtdcdnnbijjcfmaaAlv
namespace Go.Proofs.Ytdcdnnbijjcfmaa
open Go.RowKit

set_option maxHeartbeats 8000000 in
set_option maxRecDepth 100000 in
theorem lawWidens_calls (A : Option Addr) (c : Nat) (l : List Sp) (x0 x1 f t : Int) (w : World) (hin : SAt w A l ∧ l.length ≤ c ∧ l.length ≤ 9223372036854775807) :
    Calls Try.prog 6 #[.slice A l.length c, .agg #[.int .i64 x0, .int .i64 x1], .agg #[.int .i64 f, .int .i64 t]] w fun e w' => e = .returned (.bool true) ∧ Ext w w' := by
  have h := hin.1
  have hlm := hin.2.2
  clear hin
  have hx0 : Ext w ((w.alloc (.cells #[.int .i64 x0, .int .i64 x1] 46)).alloc (.cells #[.int .i64 f, .int .i64 t] 48)) := ((Ext.refl w).alloc _).alloc _
  have a0 : ((w.alloc (.cells #[.int .i64 x0, .int .i64 x1] 46)).alloc (.cells #[.int .i64 f, .int .i64 t] 48)).cell? ⟨w.heap.size, 0, none⟩ = some (.int .i64 x0) := by simp [go_sem]
  have a1 : ((w.alloc (.cells #[.int .i64 x0, .int .i64 x1] 46)).alloc (.cells #[.int .i64 f, .int .i64 t] 48)).cell? ⟨w.heap.size, 1, none⟩ = some (.int .i64 x1) := by simp [go_sem]
  have b0 : ((w.alloc (.cells #[.int .i64 x0, .int .i64 x1] 46)).alloc (.cells #[.int .i64 f, .int .i64 t] 48)).cell? ⟨w.heap.size + 1, 0, none⟩ = some (.int .i64 f) := by simp [go_sem]
  have b1 : ((w.alloc (.cells #[.int .i64 x0, .int .i64 x1] 46)).alloc (.cells #[.int .i64 f, .int .i64 t] 48)).cell? ⟨w.heap.size + 1, 1, none⟩ = some (.int .i64 t) := by simp [go_sem]
  go_enter Try.func6, Try.ntmps6
  go_wp2_with fail
  generalize ((w.alloc (.cells #[.int .i64 x0, .int .i64 x1] 46)).alloc (.cells #[.int .i64 f, .int .i64 t] 48)) = w0 at *
  refine (alive_calls _).mono ?_
  rintro e w1 ⟨rfl, hx1⟩
  have hw1 := hx0.trans hx1
  by_cases hl : l.length ≤ 30
  · have hS : SAt w1 A l := h.ext hw1
    replace a0 := hx1.cell a0
    replace a1 := hx1.cell a1
    replace b0 := hx1.cell b0
    replace b1 := hx1.cell b1
    have HOF := Lib.hid (of_calls A c l w1 hS (by omega))
    have hRF := fun W (hW : Ext w1 W) => refOf_calls A c l W (hS.ext hW) (by omega)
    have HRF := Lib.hid hRF
    have hSl := of_length l
    have HSN : Hid (Norm (ofS l)) := Lib.hid (norm_of l)
    clear hRF hS h
    generalize ofS l = S at *
    have HUN : Hid (Norm (unitsS S x0 x1) ∧ (unitsS S x0 x1).length ≤ 33) := Lib.hid ⟨units_norm S x0 x1, by have := units_len HSN.out x0 x1; omega⟩
    go_wp2_with fail
    refine HOF.out.mono ?_
    rintro e w2 ⟨A2, c2, rfl, HS2, _, hx2⟩
    have hxa := hx2.alloc (.cells #[.slice A2 S.length c2] 30)
    have u0 : (w2.alloc (.cells #[.slice A2 S.length c2] 30)).cell? ⟨w2.heap.size, 0, none⟩ = some (.slice A2 S.length c2) := by simp
    go_wp2_with fail
    refine (HRF.out _ hxa).mono ?_
    rintro e w3 ⟨A3, c3, rfl, HS3, hx3⟩
    have hx13 := hxa.trans hx3
    replace u0 := hx3.cell u0
    replace a0 := hx13.cell a0
    replace a1 := hx13.cell a1
    replace b0 := hx13.cell b0
    replace b1 := hx13.cell b1
    have hS2 : SAt w3 A2 S := HS2.out.ext (((Ext.refl w2).alloc _).trans hx3)
    have hw3 := hw1.trans hx13
    have HUC : Hid (∀ W, Ext w3 W → Calls Try.prog 20 #[.agg #[.slice A2 S.length c2], .int .i64 x0, .int .i64 x1] W fun e w' => SetPost W (unitsS S x0 x1) e w' ∧ (unitsS S x0 x1).length ≤ S.length + 2) := Lib.hid fun W hW => unitsC_calls A2 c2 S x0 x1 W (hS2.ext hW) HSN.out (by omega)
    have HUR : Hid (∀ W, Ext w3 W → Calls Try.prog 17 #[.slice A3 S.length c3, .int .i64 x0, .int .i64 x1] W (SPostN W (unitsS S x0 x1))) := Lib.hid fun W hW => unitsR_calls A3 c3 S x0 x1 W (HS3.out.ext hW) HSN.out (by omega)
    have HWC : Hid (∀ W, Ext w3 W → Calls Try.prog 23 #[.agg #[.int .i64 f, .int .i64 t], .agg #[.slice A2 S.length c2]] W fun e w' => e = .returned (.int .i64 (wasteS ⟨f, t⟩ S)) ∧ Ext W w') := Lib.hid fun W hW => waste_calls A2 c2 S f t W (hS2.ext hW) HSN.out (by omega)
    have HWR : Hid (∀ W, Ext w3 W → Calls Try.prog 24 #[.agg #[.int .i64 f, .int .i64 t], .slice A3 S.length c3] W fun e w' => e = .returned (.int .i64 (wasteS ⟨f, t⟩ S)) ∧ Ext W w') := Lib.hid fun W hW => refWaste_calls A3 c3 S f t W (HS3.out.ext hW) HSN.out (by omega)
    clear hx1 hxa hx3 hx13 hS2 HOF HRF hx2 HS2 hw1 hx0
    generalize unitsS S x0 x1 = U at *
    generalize wasteS ⟨f, t⟩ S = wst at *
    go_wp2
    go_region_held3 (fun w' => w'.cell? ⟨w.heap.size, 0, none⟩ = some (.int .i64 x0) ∧ w'.cell? ⟨w.heap.size, 1, none⟩ = some (.int .i64 x1) ∧ w'.cell? ⟨w.heap.size + 1, 0, none⟩ = some (.int .i64 f) ∧ w'.cell? ⟨w.heap.size + 1, 1, none⟩ = some (.int .i64 t) ∧ w'.cell? ⟨w2.heap.size, 0, none⟩ = some (.slice A2 S.length c2))
      ((refine (fun hE => ⟨Ext.cell hE a0, Ext.cell hE a1, Ext.cell hE b0, Ext.cell hE b1, Ext.cell hE u0⟩ : Ext w3 _ → _) ?_
        (repeat' with_reducible first | exact hE9.out | exact hE8.out | exact hE7.out | exact hE6.out | exact hE5.out | exact hE4.out | exact Ext.refl _ | refine Ext.drew ?_ | refine Ext.alloc ?_ _)))
      (first
        | (go_at_call 20
           (with_reducible refine (HUC.out _ (Ext.refl w3).drew).mono ?_)
           rintro e w4 ⟨⟨A4, c4, rfl, HS4, _, hx4⟩, hl4⟩
           have hE4 : Hid (Ext w3 w4) := Lib.hid ((Ext.refl w3).drew.trans hx4))
        | (go_at_call 21
           (with_reducible refine (spans_calls A4 c4 U _ HS4.out (by omega)).mono ?_)
           rintro e w5 ⟨v5, rfl, hown5, hx5⟩
           obtain ⟨A5, c5, rfl, _⟩ := own_shape hown5
           have hE5 : Hid (Ext w3 w5) := Lib.hid (hE4.out.trans hx5)
           have HS5 : Hid (SAt w5 A5 U) := Lib.hid (sat_of_own hown5)
           clear hown5 hx5 hx4)
        | (go_at_call 17
           (with_reducible refine (HUR.out _ hE5.out).mono ?_)
           rintro e w6 ⟨A6, c6, rfl, HS6, _, hx6⟩
           have hE6 : Hid (Ext w3 w6) := Lib.hid (hE5.out.trans hx6)
           have HS56 : Hid (SAt w6 A5 U) := Lib.hid (HS5.out.ext hx6))
        | (go_at_call 16
           (with_reducible refine (list_calls A5 A6 c5 c6 U U _ HS56.out HS6.out (by omega) (by omega)).mono ?_)
           rintro e w7 ⟨rfl, hx7⟩
           rw [show decide (U = U) = true from decide_eq_true rfl]
           have hE7 : Hid (Ext w3 w7) := Lib.hid (hE6.out.trans hx7))
        | (go_at_call 23
           (with_reducible refine (HWC.out _ hE7.out).mono ?_)
           rintro e w8 ⟨rfl, hx8⟩
           have hE8 : Hid (Ext w3 w8) := Lib.hid (hE7.out.trans hx8))
        | (go_at_call 24
           (with_reducible refine (HWR.out _ hE8.out).mono ?_)
           rintro e w9 ⟨rfl, hx9⟩
           have hE9 : Hid (Ext w3 w9) := Lib.hid (hE8.out.trans hx9)))
    go_wp2
    go_ret
    exact ⟨rfl, hw3.trans hE9.out⟩
  · have hl2 : 30 < l.length := by omega
    go_wp2
    go_ret
    exact ⟨rfl, hw1⟩
end Go.Proofs.Ytdcdnnbijjcfmaa
