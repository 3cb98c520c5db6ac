/- The law PlanErrors: it returns true. -/
import Derived.Test.YtdcdnnbijjcfmaaSmu
import Derived.Test.YtdcdnnbijjcfmaaRgw
namespace Go.Proofs.Ytdcdnnbijjcfmaa
open Go.RowKit


theorem units_nil (n u : Int) : unitsS [] n u = [] := by
  cases hm : measB n u
  · unfold unitsS; rw [hm]; rfl
  · refine norm_ext (units_norm [] n u) norm_nil (fun x => ?_)
    rw [mem_units norm_nil hm]
    constructor
    · rintro ⟨_, _, y, ⟨s, hs, _⟩, _⟩; simp at hs
    · rintro ⟨s, hs, _⟩; simp at hs
theorem held_nil : heldB [] [] = false := by
  have : lessS [] [] = [] := by rfl
  unfold heldB; rw [this]; rfl
theorem chk_nil (n : Int) (c : Cf) : chkE n c [] [] = if okB n c then 0 else 1 := by
  unfold chkE; rw [held_nil]; simp
theorem right_nil (n : Int) (c : Cf) : rightR [] [] [] n c = okB n c := by
  have : lessS [] (ofS []) = [] := by rfl
  unfold rightR; rw [held_nil, this]; simp [rightGo]
theorem planP_nil (n : Int) (c : Cf) : planP n c [] [] = [] := by
  unfold planP planL; split <;> rfl
def StBox (w : World) (L : List Sp) (v : Value) (wx : World) : Prop := ∃ xb A c, v = .pointer (some ⟨xb, 0, none⟩) ∧ wx.heap[xb]? = some (.cells #[.slice A L.length c] 30 (0, 0)) ∧ SAt wx A L ∧ Ext w wx
theorem one_fill {w : World} {b : Nat} {t : TypeId} {x u : Value} (h : w.heap[b]? = some (.cells #[x] t (0, 0))) : (w.setCell ⟨b, 0, none⟩ u).heap[b]? = some (.cells #[u] t (0, 0)) := by
  rw [heap_setCell_same _ _ _ _ _ _ h]; rfl
theorem small_nil (u : Int) : SmallU [] u := by intro s hs; simp at hs

set_option maxHeartbeats 8000000 in
set_option maxRecDepth 100000 in
set_option pp.deepTerms true in
set_option pp.maxSteps 100000 in
theorem lawErrors_calls (n : Int) (c : Cf) (f t : Int) (w : World) :
    Calls Try.prog 8 #[.int .i64 n, .agg c.cells.toArray, .agg #[.int .i64 f, .int .i64 t]] w fun e w' => e = .returned (.bool true) ∧ Ext w w' := by
  have hpc := fun W => plan_calls none 0 [] none 0 [] n c W (SAt.nil _ _) (SAt.nil _ _) norm_nil norm_nil (by simp) (by simp) (fun _ => by rw [units_nil]; exact small_nil _)
  have hpr := fun W => planR_calls none 0 [] none 0 [] n c W (SAt.nil _ _) (SAt.nil _ _) norm_nil norm_nil (by simp) (by simp) (fun _ => by rw [units_nil]; exact small_nil _)
  have hri := fun W => right_calls' none 0 [] none 0 [] none 0 [] n c W (SAt.nil _ _) (SAt.nil _ _) (SAt.nil _ _) norm_nil norm_nil (by simp) (by simp) (by simp)
  simp only [units_nil, planP_nil, chk_nil, right_nil] at hpc hpr hri
  obtain ⟨u, wa, mo, r3, r4, r5, r6, r7, r8, r9⟩ := c
  generalize okB n _ = k at hpc hpr hri
  change ∀ W, Calls Try.prog 13 #[.agg #[.slice none 0 0], .agg #[.slice none 0 0], .int .i64 n, .agg #[.int .i64 u, .int .i64 wa, .int .i64 mo, .int .i64 r3, .int .i64 r4, .int .i64 r5, .int .i64 r6, .int .i64 r7, .int .i64 r8, .int .i64 r9]] W (PlanPost W [] (if k then 0 else 1)) at hpc
  change ∀ W, Calls Try.prog 14 #[.slice none 0 0, .slice none 0 0, .int .i64 n, .agg #[.int .i64 u, .int .i64 wa, .int .i64 mo, .int .i64 r3, .int .i64 r4, .int .i64 r5, .int .i64 r6, .int .i64 r7, .int .i64 r8, .int .i64 r9]] W (PlanPost W [] (if k then 0 else 1)) at hpr
  change ∀ W, Calls Try.prog 29 #[.slice none 0 0, .agg #[.slice none 0 0], .agg #[.slice none 0 0], .int .i64 n, .agg #[.int .i64 u, .int .i64 wa, .int .i64 mo, .int .i64 r3, .int .i64 r4, .int .i64 r5, .int .i64 r6, .int .i64 r7, .int .i64 r8, .int .i64 r9]] W (fun e w' => e = .returned (.bool k) ∧ Ext W w') at hri
  show Calls Try.prog 8 #[.int .i64 n, .agg #[.int .i64 u, .int .i64 wa, .int .i64 mo, .int .i64 r3, .int .i64 r4, .int .i64 r5, .int .i64 r6, .int .i64 r7, .int .i64 r8, .int .i64 r9], .agg #[.int .i64 f, .int .i64 t]] w fun e w' => e = .returned (.bool true) ∧ Ext w w'
  have hx0 : Ext w ((w.alloc (.cells #[.int .i64 u, .int .i64 wa, .int .i64 mo, .int .i64 r3, .int .i64 r4, .int .i64 r5, .int .i64 r6, .int .i64 r7, .int .i64 r8, .int .i64 r9] 24)).alloc (.cells #[.int .i64 f, .int .i64 t] 48)) := ((Ext.refl w).alloc _).alloc _
  have bC : ((w.alloc (.cells #[.int .i64 u, .int .i64 wa, .int .i64 mo, .int .i64 r3, .int .i64 r4, .int .i64 r5, .int .i64 r6, .int .i64 r7, .int .i64 r8, .int .i64 r9] 24)).alloc (.cells #[.int .i64 f, .int .i64 t] 48)).heap[w.heap.size]? = some (.cells #[.int .i64 u, .int .i64 wa, .int .i64 mo, .int .i64 r3, .int .i64 r4, .int .i64 r5, .int .i64 r6, .int .i64 r7, .int .i64 r8, .int .i64 r9] 24 (0, 0)) := ((Ext.refl _).alloc _).block (heap_alloc_new w (.cells #[.int .i64 u, .int .i64 wa, .int .i64 mo, .int .i64 r3, .int .i64 r4, .int .i64 r5, .int .i64 r6, .int .i64 r7, .int .i64 r8, .int .i64 r9] 24))
  have b0 : ((w.alloc (.cells #[.int .i64 u, .int .i64 wa, .int .i64 mo, .int .i64 r3, .int .i64 r4, .int .i64 r5, .int .i64 r6, .int .i64 r7, .int .i64 r8, .int .i64 r9] 24)).alloc (.cells #[.int .i64 f, .int .i64 t] 48)).cell? ⟨w.heap.size + 1, 0, none⟩ = some (.int .i64 f) := by simp [go_sem]
  have b1 : ((w.alloc (.cells #[.int .i64 u, .int .i64 wa, .int .i64 mo, .int .i64 r3, .int .i64 r4, .int .i64 r5, .int .i64 r6, .int .i64 r7, .int .i64 r8, .int .i64 r9] 24)).alloc (.cells #[.int .i64 f, .int .i64 t] 48)).cell? ⟨w.heap.size + 1, 1, none⟩ = some (.int .i64 t) := by simp [go_sem]
  have i0 : ((w.alloc (.cells #[.int .i64 u, .int .i64 wa, .int .i64 mo, .int .i64 r3, .int .i64 r4, .int .i64 r5, .int .i64 r6, .int .i64 r7, .int .i64 r8, .int .i64 r9] 24)).alloc (.cells #[.int .i64 f, .int .i64 t] 48)).cell? ⟨w.heap.size, 0, none⟩ = some (.int .i64 u) := by rw [cell_of_block bC]; rfl
  have i1 : ((w.alloc (.cells #[.int .i64 u, .int .i64 wa, .int .i64 mo, .int .i64 r3, .int .i64 r4, .int .i64 r5, .int .i64 r6, .int .i64 r7, .int .i64 r8, .int .i64 r9] 24)).alloc (.cells #[.int .i64 f, .int .i64 t] 48)).cell? ⟨w.heap.size, 1, none⟩ = some (.int .i64 wa) := by rw [cell_of_block bC]; rfl
  have i2 : ((w.alloc (.cells #[.int .i64 u, .int .i64 wa, .int .i64 mo, .int .i64 r3, .int .i64 r4, .int .i64 r5, .int .i64 r6, .int .i64 r7, .int .i64 r8, .int .i64 r9] 24)).alloc (.cells #[.int .i64 f, .int .i64 t] 48)).cell? ⟨w.heap.size, 2, none⟩ = some (.int .i64 mo) := by rw [cell_of_block bC]; rfl
  have i3 : ((w.alloc (.cells #[.int .i64 u, .int .i64 wa, .int .i64 mo, .int .i64 r3, .int .i64 r4, .int .i64 r5, .int .i64 r6, .int .i64 r7, .int .i64 r8, .int .i64 r9] 24)).alloc (.cells #[.int .i64 f, .int .i64 t] 48)).cell? ⟨w.heap.size, 3, none⟩ = some (.int .i64 r3) := by rw [cell_of_block bC]; rfl
  have i4 : ((w.alloc (.cells #[.int .i64 u, .int .i64 wa, .int .i64 mo, .int .i64 r3, .int .i64 r4, .int .i64 r5, .int .i64 r6, .int .i64 r7, .int .i64 r8, .int .i64 r9] 24)).alloc (.cells #[.int .i64 f, .int .i64 t] 48)).cell? ⟨w.heap.size, 4, none⟩ = some (.int .i64 r4) := by rw [cell_of_block bC]; rfl
  have i5 : ((w.alloc (.cells #[.int .i64 u, .int .i64 wa, .int .i64 mo, .int .i64 r3, .int .i64 r4, .int .i64 r5, .int .i64 r6, .int .i64 r7, .int .i64 r8, .int .i64 r9] 24)).alloc (.cells #[.int .i64 f, .int .i64 t] 48)).cell? ⟨w.heap.size, 5, none⟩ = some (.int .i64 r5) := by rw [cell_of_block bC]; rfl
  have i6 : ((w.alloc (.cells #[.int .i64 u, .int .i64 wa, .int .i64 mo, .int .i64 r3, .int .i64 r4, .int .i64 r5, .int .i64 r6, .int .i64 r7, .int .i64 r8, .int .i64 r9] 24)).alloc (.cells #[.int .i64 f, .int .i64 t] 48)).cell? ⟨w.heap.size, 6, none⟩ = some (.int .i64 r6) := by rw [cell_of_block bC]; rfl
  have i7 : ((w.alloc (.cells #[.int .i64 u, .int .i64 wa, .int .i64 mo, .int .i64 r3, .int .i64 r4, .int .i64 r5, .int .i64 r6, .int .i64 r7, .int .i64 r8, .int .i64 r9] 24)).alloc (.cells #[.int .i64 f, .int .i64 t] 48)).cell? ⟨w.heap.size, 7, none⟩ = some (.int .i64 r7) := by rw [cell_of_block bC]; rfl
  have i8 : ((w.alloc (.cells #[.int .i64 u, .int .i64 wa, .int .i64 mo, .int .i64 r3, .int .i64 r4, .int .i64 r5, .int .i64 r6, .int .i64 r7, .int .i64 r8, .int .i64 r9] 24)).alloc (.cells #[.int .i64 f, .int .i64 t] 48)).cell? ⟨w.heap.size, 8, none⟩ = some (.int .i64 r8) := by rw [cell_of_block bC]; rfl
  have i9 : ((w.alloc (.cells #[.int .i64 u, .int .i64 wa, .int .i64 mo, .int .i64 r3, .int .i64 r4, .int .i64 r5, .int .i64 r6, .int .i64 r7, .int .i64 r8, .int .i64 r9] 24)).alloc (.cells #[.int .i64 f, .int .i64 t] 48)).cell? ⟨w.heap.size, 9, none⟩ = some (.int .i64 r9) := by rw [cell_of_block bC]; rfl
  cases k
  all_goals
    simp only [if_true, if_false, Bool.false_eq_true] at hpc hpr
    go_enter Try.func8, Try.ntmps8
    go_wp2_with fail
    generalize ((w.alloc (.cells #[.int .i64 u, .int .i64 wa, .int .i64 mo, .int .i64 r3, .int .i64 r4, .int .i64 r5, .int .i64 r6, .int .i64 r7, .int .i64 r8, .int .i64 r9] 24)).alloc (.cells #[.int .i64 f, .int .i64 t] 48)) = w0 at *
    refine (alive_calls _).mono ?_
    rintro e w1 ⟨rfl, hx1⟩
    have hx2 : Ext w1 ((w1.alloc (.cells #[.slice none 0 0] 30)).alloc (.cells #[.slice none 0 0] 30)) := ((Ext.refl w1).alloc _).alloc _
    have n0 : ((w1.alloc (.cells #[.slice none 0 0] 30)).alloc (.cells #[.slice none 0 0] 30)).cell? ⟨w1.heap.size, 0, none⟩ = some (.slice none 0 0) := by simp [go_sem]
    have m0 : ((w1.alloc (.cells #[.slice none 0 0] 30)).alloc (.cells #[.slice none 0 0] 30)).cell? ⟨w1.heap.size + 1, 0, none⟩ = some (.slice none 0 0) := by simp [go_sem]
    have hx12 := hx1.trans hx2
    replace i0 := hx12.cell i0
    replace i1 := hx12.cell i1
    replace i2 := hx12.cell i2
    replace i3 := hx12.cell i3
    replace i4 := hx12.cell i4
    replace i5 := hx12.cell i5
    replace i6 := hx12.cell i6
    replace i7 := hx12.cell i7
    replace i8 := hx12.cell i8
    replace i9 := hx12.cell i9
    replace b0 := hx12.cell b0
    replace b1 := hx12.cell b1
    have hw2 := hx0.trans hx12
    clear hx0 hx1 bC hx12 hx2
    go_wp2_with fail
    generalize ((w1.alloc (.cells #[.slice none 0 0] 30)).alloc (.cells #[.slice none 0 0] 30)) = w2 at *
    refine (hpc _).mono ?_
    rintro e w3 ⟨A3, k3, rfl, _, hx3⟩
    replace i0 := hx3.cell i0
    replace i1 := hx3.cell i1
    replace i2 := hx3.cell i2
    replace i3 := hx3.cell i3
    replace i4 := hx3.cell i4
    replace i5 := hx3.cell i5
    replace i6 := hx3.cell i6
    replace i7 := hx3.cell i7
    replace i8 := hx3.cell i8
    replace i9 := hx3.cell i9
    replace b0 := hx3.cell b0
    replace b1 := hx3.cell b1
    replace n0 := hx3.cell n0
    replace m0 := hx3.cell m0
    have hw3 := hw2.trans hx3
    clear hw2 hx3
    go_wp2_with fail
    refine (hpr _).mono ?_
    rintro e w4 ⟨A4, k4, rfl, _, hx4⟩
    replace i0 := hx4.cell i0
    replace i1 := hx4.cell i1
    replace i2 := hx4.cell i2
    replace i3 := hx4.cell i3
    replace i4 := hx4.cell i4
    replace i5 := hx4.cell i5
    replace i6 := hx4.cell i6
    replace i7 := hx4.cell i7
    replace i8 := hx4.cell i8
    replace i9 := hx4.cell i9
    replace b0 := hx4.cell b0
    replace b1 := hx4.cell b1
    replace n0 := hx4.cell n0
    replace m0 := hx4.cell m0
    have hw4 := hw3.trans hx4
    clear hw3 hx4
    go_wp2_with fail
    refine (hri _).mono ?_
    rintro e w5 ⟨rfl, hx5⟩
    replace i0 := hx5.cell i0
    replace i1 := hx5.cell i1
    replace i2 := hx5.cell i2
    replace i3 := hx5.cell i3
    replace i4 := hx5.cell i4
    replace i5 := hx5.cell i5
    replace i6 := hx5.cell i6
    replace i7 := hx5.cell i7
    replace i8 := hx5.cell i8
    replace i9 := hx5.cell i9
    replace b0 := hx5.cell b0
    replace b1 := hx5.cell b1
    have hw5 := hw4.trans hx5
    clear hw4 hx5
    have hS1 : SAt (w5.alloc (.cells #[.int .i64 f, .int .i64 t] 48)).drew (some ⟨w5.heap.size, 0, none⟩) [⟨f, t⟩] := sat_one w5 f t
    have HOl := norm_one_length ⟨f, t⟩
    have HOn : Hid (Norm (ofS [⟨f, t⟩])) := Lib.hid (norm_of _)
    have HUL := units_len HOn.out n u
    have HUN : Hid (Norm (unitsS (ofS [⟨f, t⟩]) n u)) := Lib.hid (units_norm _ _ _)
    have HOF : Hid (∀ W d, SAt W d [⟨f, t⟩] → Calls Try.prog 22 #[.slice d 1 1] W (SetPost W (ofS [⟨f, t⟩]))) := Lib.hid fun W d hS => of_calls d 1 [⟨f, t⟩] W hS (by simp)
    have HRF : Hid (∀ W d, SAt W d [⟨f, t⟩] → Calls Try.prog 15 #[.slice d 1 1] W (SPost W (ofS [⟨f, t⟩]))) := Lib.hid fun W d hS => refOf_calls d 1 [⟨f, t⟩] W hS (by simp)
    have HUC := Lib.hid fun A c W (hS : SAt W A (ofS [⟨f, t⟩])) => unitsC_calls A c (ofS [⟨f, t⟩]) n u W hS HOn.out (by omega)
    have HUR := Lib.hid fun A c W (hS : SAt W A (ofS [⟨f, t⟩])) => unitsR_calls A c (ofS [⟨f, t⟩]) n u W hS HOn.out (by omega)
    generalize unitsS (ofS [⟨f, t⟩]) n u = U at *
    generalize ofS [⟨f, t⟩] = O at *
    clear hpc hpr hri
    have hS2 : SAt ((w5.alloc (.cells #[.int .i64 f, .int .i64 t] 48)).alloc (.cells #[.slice none 0 0] 30)).drew (some ⟨w5.heap.size, 0, none⟩) [⟨f, t⟩] := hS1.ext ((Ext.refl _).alloc _)
    have hS3 : SAt ((w5.alloc (.cells #[.slice none 0 0] 30)).alloc (.cells #[.int .i64 f, .int .i64 t] 48)).drew (some ⟨w5.heap.size + 1, 0, none⟩) [⟨f, t⟩] := by
      have h := sat_one (w5.alloc (.cells #[.slice none 0 0] 30)) f t
      have e : (w5.alloc (.cells #[.slice none 0 0] 30)).heap.size = w5.heap.size + 1 := by simp [go_sem]
      rw [e] at h; exact h
    have keep : Hid (∀ w', Ext w5 w' → w'.cell? ⟨w.heap.size, 0, none⟩ = some (.int .i64 u) ∧ w'.cell? ⟨w.heap.size, 1, none⟩ = some (.int .i64 wa) ∧ w'.cell? ⟨w.heap.size, 2, none⟩ = some (.int .i64 mo) ∧ w'.cell? ⟨w.heap.size, 3, none⟩ = some (.int .i64 r3) ∧ w'.cell? ⟨w.heap.size, 4, none⟩ = some (.int .i64 r4) ∧ w'.cell? ⟨w.heap.size, 5, none⟩ = some (.int .i64 r5) ∧ w'.cell? ⟨w.heap.size, 6, none⟩ = some (.int .i64 r6) ∧ w'.cell? ⟨w.heap.size, 7, none⟩ = some (.int .i64 r7) ∧ w'.cell? ⟨w.heap.size, 8, none⟩ = some (.int .i64 r8) ∧ w'.cell? ⟨w.heap.size, 9, none⟩ = some (.int .i64 r9) ∧ w'.cell? ⟨w.heap.size + 1, 0, none⟩ = some (.int .i64 f) ∧ w'.cell? ⟨w.heap.size + 1, 1, none⟩ = some (.int .i64 t)) := Lib.hid fun w' hE => ⟨Ext.cell hE i0, Ext.cell hE i1, Ext.cell hE i2, Ext.cell hE i3, Ext.cell hE i4, Ext.cell hE i5, Ext.cell hE i6, Ext.cell hE i7, Ext.cell hE i8, Ext.cell hE i9, Ext.cell hE b0, Ext.cell hE b1⟩
    have HB0 := Lib.hid (heap_alloc_new w5 (.cells #[.slice none 0 0] 30))
    have HB1 : Hid (((w5.alloc (.cells #[.int .i64 f, .int .i64 t] 48)).alloc (.cells #[.slice none 0 0] 30)).heap[w5.heap.size + 1]? = some (.cells #[.slice none 0 0] 30 (0, 0))) := Lib.hid (by have := heap_alloc_new (w5.alloc (.cells #[.int .i64 f, .int .i64 t] 48)) (.cells #[.slice none 0 0] 30); simpa using this)
    have HZ1 : Hid (∀ (w1 w2 : World), w1 = w2 → Ext w1 w2) := Lib.hid fun w1 w2 e => by subst e; exact Ext.refl _
    go_wp2
    go_upto_region 8 with (fail)
    go_cut [13] from 48 to 54 (fun v wx => StBox w5 U v wx)
    case first =>
      refine wp_region_noPanic ?_
      go_region_held3 (fun w' => w'.cell? ⟨w.heap.size, 0, none⟩ = some (.int .i64 u) ∧ w'.cell? ⟨w.heap.size, 1, none⟩ = some (.int .i64 wa) ∧ w'.cell? ⟨w.heap.size, 2, none⟩ = some (.int .i64 mo) ∧ w'.cell? ⟨w.heap.size, 3, none⟩ = some (.int .i64 r3) ∧ w'.cell? ⟨w.heap.size, 4, none⟩ = some (.int .i64 r4) ∧ w'.cell? ⟨w.heap.size, 5, none⟩ = some (.int .i64 r5) ∧ w'.cell? ⟨w.heap.size, 6, none⟩ = some (.int .i64 r6) ∧ w'.cell? ⟨w.heap.size, 7, none⟩ = some (.int .i64 r7) ∧ w'.cell? ⟨w.heap.size, 8, none⟩ = some (.int .i64 r8) ∧ w'.cell? ⟨w.heap.size, 9, none⟩ = some (.int .i64 r9) ∧ w'.cell? ⟨w.heap.size + 1, 0, none⟩ = some (.int .i64 f) ∧ w'.cell? ⟨w.heap.size + 1, 1, none⟩ = some (.int .i64 t))
        ((refine keep.out _ ?_; (repeat' with_reducible first | exact hE7s _ _ | exact hE7x _ | exact hE7y _ | exact hE7z _ | exact hE7.out | exact hE6.out | exact Ext.refl _ | refine Ext.drew ?_ | refine Ext.alloc ?_ _)))
        (first
          | (go_at_call 20
             (refine (HUC.out A6 c6 _ (HS6.out.ext (by (repeat' first | with_reducible exact Ext.refl _ | with_reducible refine Ext.drew ?_ | with_reducible refine Ext.alloc ?_ _)))).mono ?_)
             rintro e w7 ⟨⟨A7, c7, rfl, HS7, hN7, hx7⟩, hl7⟩
             have hE7 : Hid (Ext w5 w7) := Lib.hid (hE6.out.trans (Ext.trans (by (repeat' first | with_reducible exact Ext.refl _ | with_reducible refine Ext.drew ?_ | with_reducible refine Ext.alloc ?_ _)) hx7))
             have hE7s : ∀ u v, Ext w5 ((w7.alloc v).setCell ⟨w7.heap.size, 0, none⟩ u) := fun u v => (hE7.out.alloc _).setCell (p := ⟨w7.heap.size, 0, none⟩) hE7.out.size u
             have hE7x : ∀ u, Ext w5 (w7.setCell ⟨w5.heap.size, 0, none⟩ u) := fun u => hE7.out.setCell (p := ⟨w5.heap.size, 0, none⟩) (Nat.le_refl _) u
             have hE7y : ∀ u, Ext w5 (w7.setCell ⟨w5.heap.size + 1, 0, none⟩ u) := fun u => hE7.out.setCell (p := ⟨w5.heap.size + 1, 0, none⟩) (Nat.le_succ _) u
             have hE7z : ∀ u, Ext w5 (w7.setCell ⟨w6.heap.size, 0, none⟩ u) := fun u => hE7.out.setCell (p := ⟨w6.heap.size, 0, none⟩) hE6.out.size u
             (try (refine (fun (ya7 : w7.heap[w5.heap.size]? = some (.cells #[.slice none 0 0] 30 (0, 0))) => ?_) ?_; rotate_left; · (exact hx7.block ya6; done)))
             (try (refine (fun (yb7 : w7.heap[w5.heap.size + 1]? = some (.cells #[.slice none 0 0] 30 (0, 0))) => ?_) ?_; rotate_left; · (exact hx7.block yb6; done)))
             (try (refine (fun (yc7 : w7.heap[w6.heap.size]? = some (.cells #[.slice none 0 0] 30 (0, 0))) => ?_) ?_; rotate_left; · (exact hx7.block (heap_alloc_new w6 _); done)))
             (try (refine (fun (qa : w7.cell? ⟨w5.heap.size, 0, none⟩ = some (.slice none 0 0)) => ?_) ?_; rotate_left; · (rw [cell_of_block ya7]; rfl; done)))
             (try (refine (fun (qb : w7.cell? ⟨w5.heap.size + 1, 0, none⟩ = some (.slice none 0 0)) => ?_) ?_; rotate_left; · (rw [cell_of_block yb7]; rfl; done)))
             (try (refine (fun (qc : w7.cell? ⟨w6.heap.size, 0, none⟩ = some (.slice none 0 0)) => ?_) ?_; rotate_left; · (rw [cell_of_block yc7]; rfl; done)))
             (try (refine (fun (za : w7.frozen? ⟨w5.heap.size, 0, none⟩ = false) => ?_) ?_; rotate_left; · (exact frozen_of_block ya7 0; done)))
             (try (refine (fun (zb : w7.frozen? ⟨w5.heap.size + 1, 0, none⟩ = false) => ?_) ?_; rotate_left; · (exact frozen_of_block yb7 0; done)))
             (try (refine (fun (zc : w7.frozen? ⟨w6.heap.size, 0, none⟩ = false) => ?_) ?_; rotate_left; · (exact frozen_of_block yc7 0; done))))
          | (go_at_call 22
             (first | with_reducible refine (HOF.out _ _ hS1).mono ?_ | with_reducible refine (HOF.out _ _ hS2).mono ?_ | with_reducible refine (HOF.out _ _ hS3).mono ?_)
             rintro e w6 ⟨A6, c6, rfl, HS6, _, hx6⟩
             have hE6 : Hid (Ext w5 w6) := Lib.hid (Ext.trans (by (repeat' first | with_reducible exact Ext.refl _ | with_reducible refine Ext.drew ?_ | with_reducible refine Ext.alloc ?_ _)) hx6)
             (try (refine (fun (ya6 : w6.heap[w5.heap.size]? = some (.cells #[.slice none 0 0] 30 (0, 0))) => ?_) ?_; rotate_left; · (exact hx6.block (((Ext.refl _).alloc _).block HB0.out); done)))
             (try (refine (fun (yb6 : w6.heap[w5.heap.size + 1]? = some (.cells #[.slice none 0 0] 30 (0, 0))) => ?_) ?_; rotate_left; · (exact hx6.block HB1.out; done)))))
      all_goals refine noPanic_intro ?_
      all_goals go_wp2_with fail
      all_goals go_meet
      all_goals first
        | exact ⟨w5.heap.size, A7, c7, rfl, one_fill ya7, HS7.out.blocks fun b o e _ => Below.heap_setCell w7 ⟨w5.heap.size, 0, none⟩ _ _ (by have h1 := hN7.out b o e; have h2 := (Array.getElem?_eq_some_iff.1 ya6).1; show b ≠ w5.heap.size; omega), hE7x _⟩
        | exact ⟨w5.heap.size + 1, A7, c7, rfl, one_fill yb7, HS7.out.blocks fun b o e _ => Below.heap_setCell w7 ⟨w5.heap.size + 1, 0, none⟩ _ _ (by have h1 := hN7.out b o e; have h2 := (Array.getElem?_eq_some_iff.1 yb6).1; show b ≠ w5.heap.size + 1; omega), hE7y _⟩
        | exact ⟨w6.heap.size, A7, c7, rfl, one_fill yc7, HS7.out.blocks fun b o e _ => Below.heap_setCell w7 ⟨w6.heap.size, 0, none⟩ _ _ (by have h1 := hN7.out b o e; simp at h1; show b ≠ w6.heap.size; omega), hE7z _⟩
        | exact ⟨w7.heap.size, A7, c7, rfl, heap_alloc_new _ _, HS7.out.ext ((Ext.refl _).alloc _), hE7.out.alloc _⟩
        | exact ⟨w7.heap.size, A7, c7, rfl, one_fill (heap_alloc_new _ _), HS7.out.ext (((Ext.refl _).alloc _).setCell (p := ⟨w7.heap.size, 0, none⟩) (Nat.le_refl _) _), hE7s _ _⟩
    case rest =>
      obtain ⟨xb, A8, c8, rfl, bxb, hS8, hEx⟩ := hcut
      have uu : wc.cell? ⟨xb, 0, none⟩ = some (.slice A8 U.length c8) := by rw [cell_of_block bxb]; rfl
      replace i0 := hEx.cell i0
      replace i1 := hEx.cell i1
      replace i2 := hEx.cell i2
      replace i3 := hEx.cell i3
      replace i4 := hEx.cell i4
      replace i5 := hEx.cell i5
      replace i6 := hEx.cell i6
      replace i7 := hEx.cell i7
      replace i8 := hEx.cell i8
      replace i9 := hEx.cell i9
      replace b0 := hEx.cell b0
      replace b1 := hEx.cell b1
      have hw8 := hw5.trans hEx
      have keep2 : Hid (∀ w', Ext wc w' → w'.cell? ⟨xb, 0, none⟩ = some (.slice A8 U.length c8) ∧ w'.cell? ⟨w.heap.size, 0, none⟩ = some (.int .i64 u) ∧ w'.cell? ⟨w.heap.size, 1, none⟩ = some (.int .i64 wa) ∧ w'.cell? ⟨w.heap.size, 2, none⟩ = some (.int .i64 mo) ∧ w'.cell? ⟨w.heap.size, 3, none⟩ = some (.int .i64 r3) ∧ w'.cell? ⟨w.heap.size, 4, none⟩ = some (.int .i64 r4) ∧ w'.cell? ⟨w.heap.size, 5, none⟩ = some (.int .i64 r5) ∧ w'.cell? ⟨w.heap.size, 6, none⟩ = some (.int .i64 r6) ∧ w'.cell? ⟨w.heap.size, 7, none⟩ = some (.int .i64 r7) ∧ w'.cell? ⟨w.heap.size, 8, none⟩ = some (.int .i64 r8) ∧ w'.cell? ⟨w.heap.size, 9, none⟩ = some (.int .i64 r9) ∧ w'.cell? ⟨w.heap.size + 1, 0, none⟩ = some (.int .i64 f) ∧ w'.cell? ⟨w.heap.size + 1, 1, none⟩ = some (.int .i64 t)) := Lib.hid fun w' hE => ⟨Ext.cell hE uu, Ext.cell hE i0, Ext.cell hE i1, Ext.cell hE i2, Ext.cell hE i3, Ext.cell hE i4, Ext.cell hE i5, Ext.cell hE i6, Ext.cell hE i7, Ext.cell hE i8, Ext.cell hE i9, Ext.cell hE b0, Ext.cell hE b1⟩
      clear keep HB0 HB1 HZ1 hS1
      go_wp2
      go_region_held3 (fun w' => w'.cell? ⟨xb, 0, none⟩ = some (.slice A8 U.length c8) ∧ w'.cell? ⟨w.heap.size, 0, none⟩ = some (.int .i64 u) ∧ w'.cell? ⟨w.heap.size, 1, none⟩ = some (.int .i64 wa) ∧ w'.cell? ⟨w.heap.size, 2, none⟩ = some (.int .i64 mo) ∧ w'.cell? ⟨w.heap.size, 3, none⟩ = some (.int .i64 r3) ∧ w'.cell? ⟨w.heap.size, 4, none⟩ = some (.int .i64 r4) ∧ w'.cell? ⟨w.heap.size, 5, none⟩ = some (.int .i64 r5) ∧ w'.cell? ⟨w.heap.size, 6, none⟩ = some (.int .i64 r6) ∧ w'.cell? ⟨w.heap.size, 7, none⟩ = some (.int .i64 r7) ∧ w'.cell? ⟨w.heap.size, 8, none⟩ = some (.int .i64 r8) ∧ w'.cell? ⟨w.heap.size, 9, none⟩ = some (.int .i64 r9) ∧ w'.cell? ⟨w.heap.size + 1, 0, none⟩ = some (.int .i64 f) ∧ w'.cell? ⟨w.heap.size + 1, 1, none⟩ = some (.int .i64 t))
        ((refine keep2.out _ ?_; (repeat' with_reducible first | exact hE12.out | exact hE11.out | exact hE10.out | exact hE9.out | exact Ext.refl _ | refine Ext.drew ?_ | refine Ext.alloc ?_ _)))
        (first
          | (go_at_call 21
             (refine (spans_calls A8 c8 U _ (hS8.ext (by (repeat' first | with_reducible exact Ext.refl _ | with_reducible refine Ext.drew ?_ | with_reducible refine Ext.alloc ?_ _))) (by omega)).mono ?_)
             rintro e w9 ⟨v9, rfl, hown9, hx9⟩
             obtain ⟨A9, c9, rfl, _⟩ := own_shape hown9
             have hE9 : Hid (Ext wc w9) := Lib.hid (Ext.trans (by (repeat' first | with_reducible exact Ext.refl _ | with_reducible refine Ext.drew ?_ | with_reducible refine Ext.alloc ?_ _)) hx9)
             have HS9 : Hid (SAt w9 A9 U) := Lib.hid (sat_of_own hown9)
             (try (refine (fun (hs9 : SAt w9 (some ⟨wc.heap.size, 0, none⟩) [⟨f, t⟩]) => ?_) ?_; rotate_left; · (first | exact (show SAt (wc.alloc (.cells #[.int .i64 f, .int .i64 t] 48)) (some ⟨wc.heap.size, 0, none⟩) [⟨f, t⟩] from sat_one wc f t).ext hx9 | exact (show SAt (wc.alloc (.cells #[.int .i64 f, .int .i64 t] 48)).drew (some ⟨wc.heap.size, 0, none⟩) [⟨f, t⟩] from sat_one wc f t).ext hx9; done)))
             clear hown9)
          | (go_at_call 17
             (refine (HUR.out A10 c10 _ (HS10.out.ext (by (repeat' first | with_reducible exact Ext.refl _ | with_reducible refine Ext.drew ?_ | with_reducible refine Ext.alloc ?_ _)))).mono ?_)
             rintro e w11 ⟨A11, c11, rfl, HS11, _, hx11⟩
             have hE11 : Hid (Ext wc w11) := Lib.hid (hE10.out.trans (Ext.trans (by (repeat' first | with_reducible exact Ext.refl _ | with_reducible refine Ext.drew ?_ | with_reducible refine Ext.alloc ?_ _)) hx11))
             have HT11 : Hid (SAt w11 A9 U) := Lib.hid (HT10.out.ext (Ext.trans (by (repeat' first | with_reducible exact Ext.refl _ | with_reducible refine Ext.drew ?_ | with_reducible refine Ext.alloc ?_ _)) hx11)))
          | (go_at_call 16
             (refine (list_calls A9 A11 c9 c11 U U _ (HT11.out.ext (by (repeat' first | with_reducible exact Ext.refl _ | with_reducible refine Ext.drew ?_ | with_reducible refine Ext.alloc ?_ _))) (HS11.out.ext (by (repeat' first | with_reducible exact Ext.refl _ | with_reducible refine Ext.drew ?_ | with_reducible refine Ext.alloc ?_ _))) (by omega) (by omega)).mono ?_)
             rintro e w12 ⟨rfl, hx12⟩
             rw [show decide (U = U) = true from decide_eq_true rfl]
             have hE12 : Hid (Ext wc w12) := Lib.hid (hE11.out.trans (Ext.trans (by (repeat' first | with_reducible exact Ext.refl _ | with_reducible refine Ext.drew ?_ | with_reducible refine Ext.alloc ?_ _)) hx12)))
          | (go_at_call 15
             (first | with_reducible refine (HRF.out _ _ hs9).mono ?_ | with_reducible refine (HRF.out _ _ (show SAt (w9.alloc (.cells #[.int .i64 f, .int .i64 t] 48)).drew (some ⟨w9.heap.size, 0, none⟩) [⟨f, t⟩] from sat_one w9 f t)).mono ?_ | with_reducible refine (HRF.out _ _ (show SAt (w9.alloc (.cells #[.int .i64 f, .int .i64 t] 48)) (some ⟨w9.heap.size, 0, none⟩) [⟨f, t⟩] from sat_one w9 f t)).mono ?_)
             rintro e w10 ⟨A10, c10, rfl, HS10, hx10⟩
             have hE10 : Hid (Ext wc w10) := Lib.hid (hE9.out.trans (Ext.trans (by (repeat' first | with_reducible exact Ext.refl _ | with_reducible refine Ext.drew ?_ | with_reducible refine Ext.alloc ?_ _)) hx10))
             have HT10 : Hid (SAt w10 A9 U) := Lib.hid (HS9.out.ext (Ext.trans (by (repeat' first | with_reducible exact Ext.refl _ | with_reducible refine Ext.drew ?_ | with_reducible refine Ext.alloc ?_ _)) hx10))))
      all_goals go_wp2
      all_goals go_ret
      all_goals exact ⟨rfl, hw8.trans hE12.out⟩
end Go.Proofs.Ytdcdnnbijjcfmaa
