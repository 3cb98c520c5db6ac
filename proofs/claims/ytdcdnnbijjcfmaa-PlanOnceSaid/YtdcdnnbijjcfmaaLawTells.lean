/- The law PlanTells: it returns true. -/
import Derived.Test.YtdcdnnbijjcfmaaSmu
namespace Go.Proofs.Ytdcdnnbijjcfmaa
open Go.RowKit

theorem planF_len (F : List Sp) (c : Cf) : ∀ (k : Nat) (L : List Sp), (planF F c k L).length ≤ k := by
  intro k
  induction k with
  | zero => intro L; simp [planF]
  | succ k ih =>
    intro L
    cases L with
    | nil => simp [planF]
    | cons s l => show (_ :: planF F c k _).length ≤ _; rw [List.length_cons]; have := ih (cutL (s :: l) (endC (s :: l) (freeT F s.f) c)); omega
theorem planP_len (n : Int) (c : Cf) (U F : List Sp) : (planP n c U F).length ≤ 101 := by
  unfold planP planL
  split
  · exact planF_len _ _ _ _
  · simp
set_option maxHeartbeats 8000000 in
set_option maxRecDepth 100000 in
theorem lawTells_calls (j : Jb) (w : World) (hg : SAt w j.g.A j.g.l) (hf : SAt w j.f.A j.f.l) (hlg : j.g.l.length ≤ 9223372036854775807) (hlf : j.f.l.length ≤ 9223372036854775807) :
    Calls Try.prog 3 #[.agg j.cells.toArray] w fun e w' => e = .returned (.bool true) ∧ Ext w w' := by
  have HFI := Lib.hid (fun W (hW : Ext w W) => fine_calls j 100 W (hg.ext hW) (hf.ext hW) hlg hlf (by omega) (by omega))
  have HSE := Lib.hid (fun W (hW : Ext w W) (h1 : j.g.l.length ≤ 1000) (h2 : j.f.l.length ≤ 1000) => sets_calls j W (hg.ext hW) (hf.ext hW) h1 h2)
  have HFJ : Hid (FineJ j 100 → SmallL j.g.l j.c.u 100 ∧ SmallL j.f.l j.c.u (4 * 100) ∧ (j.n ≤ j.c.u * 100 ∨ 1099511627776 < j.n) ∧ j.c.mo ≤ j.c.u * 300 ∧ j.c.wa ≤ 1099511627776) := Lib.hid id
  obtain ⟨⟨Ag, cg, lg⟩, ⟨Af, cf, lf⟩, n, ⟨u, wa, mo, r3, r4, r5, r6, r7, r8, r9⟩⟩ := j
  simp only at hg hf hlg hlf HFJ HSE
  change Hid (∀ W, Ext w W → Calls Try.prog 11 #[.agg #[.slice Ag lg.length cg, .slice Af lf.length cf, .int .i64 n, .int .i64 u, .int .i64 wa, .int .i64 mo, .int .i64 r3, .int .i64 r4, .int .i64 r5, .int .i64 r6, .int .i64 r7, .int .i64 r8, .int .i64 r9], .int .i64 100] W (SmallPost (FineJ ⟨⟨Ag, cg, lg⟩, ⟨Af, cf, lf⟩, n, ⟨u, wa, mo, r3, r4, r5, r6, r7, r8, r9⟩⟩ 100) W)) at HFI
  change Hid (∀ W, Ext w W → lg.length ≤ 1000 → lf.length ≤ 1000 → Calls Try.prog 12 #[.agg #[.slice Ag lg.length cg, .slice Af lf.length cf, .int .i64 n, .int .i64 u, .int .i64 wa, .int .i64 mo, .int .i64 r3, .int .i64 r4, .int .i64 r5, .int .i64 r6, .int .i64 r7, .int .i64 r8, .int .i64 r9]] W (SetsPost W (ofS lg) (ofS lf))) at HSE
  show Calls Try.prog 3 #[.agg #[.slice Ag lg.length cg, .slice Af lf.length cf, .int .i64 n, .int .i64 u, .int .i64 wa, .int .i64 mo, .int .i64 r3, .int .i64 r4, .int .i64 r5, .int .i64 r6, .int .i64 r7, .int .i64 r8, .int .i64 r9]] w fun e w' => e = .returned (.bool true) ∧ Ext w w'
  generalize FineJ ⟨⟨Ag, cg, lg⟩, ⟨Af, cf, lf⟩, n, ⟨u, wa, mo, r3, r4, r5, r6, r7, r8, r9⟩⟩ 100 = Q at *
  have hx0 : Ext w (w.alloc (.cells #[.slice Ag lg.length cg, .slice Af lf.length cf, .int .i64 n, .int .i64 u, .int .i64 wa, .int .i64 mo, .int .i64 r3, .int .i64 r4, .int .i64 r5, .int .i64 r6, .int .i64 r7, .int .i64 r8, .int .i64 r9] 26)) := (Ext.refl w).alloc _
  have bJ := heap_alloc_new w (.cells #[.slice Ag lg.length cg, .slice Af lf.length cf, .int .i64 n, .int .i64 u, .int .i64 wa, .int .i64 mo, .int .i64 r3, .int .i64 r4, .int .i64 r5, .int .i64 r6, .int .i64 r7, .int .i64 r8, .int .i64 r9] 26)
  go_enter Try.func3, Try.ntmps3
  go_wp2_with fail
  generalize (w.alloc (.cells #[.slice Ag lg.length cg, .slice Af lf.length cf, .int .i64 n, .int .i64 u, .int .i64 wa, .int .i64 mo, .int .i64 r3, .int .i64 r4, .int .i64 r5, .int .i64 r6, .int .i64 r7, .int .i64 r8, .int .i64 r9] 26)) = w0 at *
  refine (alive_calls _).mono ?_
  rintro e w1 ⟨rfl, hx1⟩
  have hw1 := hx0.trans hx1
  have bJ1 := hx1.block bJ
  have i0 : w1.cell? ⟨w.heap.size, 0, none⟩ = some (.slice Ag lg.length cg) := by rw [cell_of_block bJ1]; rfl
  have i1 : w1.cell? ⟨w.heap.size, 1, none⟩ = some (.slice Af lf.length cf) := by rw [cell_of_block bJ1]; rfl
  have i2 : w1.cell? ⟨w.heap.size, 2, none⟩ = some (.int .i64 n) := by rw [cell_of_block bJ1]; rfl
  have i3 : w1.cell? ⟨w.heap.size, 3, none⟩ = some (.int .i64 u) := by rw [cell_of_block bJ1]; rfl
  have i4 : w1.cell? ⟨w.heap.size, 4, none⟩ = some (.int .i64 wa) := by rw [cell_of_block bJ1]; rfl
  have i5 : w1.cell? ⟨w.heap.size, 5, none⟩ = some (.int .i64 mo) := by rw [cell_of_block bJ1]; rfl
  have i6 : w1.cell? ⟨w.heap.size, 6, none⟩ = some (.int .i64 r3) := by rw [cell_of_block bJ1]; rfl
  have i7 : w1.cell? ⟨w.heap.size, 7, none⟩ = some (.int .i64 r4) := by rw [cell_of_block bJ1]; rfl
  have i8 : w1.cell? ⟨w.heap.size, 8, none⟩ = some (.int .i64 r5) := by rw [cell_of_block bJ1]; rfl
  have i9 : w1.cell? ⟨w.heap.size, 9, none⟩ = some (.int .i64 r6) := by rw [cell_of_block bJ1]; rfl
  have i10 : w1.cell? ⟨w.heap.size, 10, none⟩ = some (.int .i64 r7) := by rw [cell_of_block bJ1]; rfl
  have i11 : w1.cell? ⟨w.heap.size, 11, none⟩ = some (.int .i64 r8) := by rw [cell_of_block bJ1]; rfl
  have i12 : w1.cell? ⟨w.heap.size, 12, none⟩ = some (.int .i64 r9) := by rw [cell_of_block bJ1]; rfl
  have HF1 := Lib.hid (HFI.out w1 hw1)
  clear hx0 hx1 bJ HFI
  go_wp2_with fail
  refine HF1.out.mono ?_
  rintro e w2 ⟨fb, rfl, hfb, hx2⟩
  have HFB := Lib.hid hfb
  have hw2 := hw1.trans hx2
  have bJ2 := hx2.block bJ1
  replace i0 := hx2.cell i0
  replace i1 := hx2.cell i1
  replace i2 := hx2.cell i2
  replace i3 := hx2.cell i3
  replace i4 := hx2.cell i4
  replace i5 := hx2.cell i5
  replace i6 := hx2.cell i6
  replace i7 := hx2.cell i7
  replace i8 := hx2.cell i8
  replace i9 := hx2.cell i9
  replace i10 := hx2.cell i10
  replace i11 := hx2.cell i11
  replace i12 := hx2.cell i12
  clear HF1 hfb bJ1 hx2 hw1
  cases fb
  · go_wp2
    go_ret
    exact ⟨rfl, hw2⟩
  · obtain ⟨s1, s2, s3, _, _⟩ := HFJ.out (HFB.out (by simp))
    · have hg12 := s1.2.1
      have hf12 := s2.2.1
      have hg2 := hg.ext hw2
      have hf2 := hf.ext hw2
      have HS2 := Lib.hid (HSE.out w2 hw2 (by omega) (by omega))
      have HSM := Lib.hid (fun F (h : chkE n ⟨u, wa, mo, r3, r4, r5, r6, r7, r8, r9⟩ (unitsS (ofS lg) n u) F = 0) => (small_units (c := ⟨u, wa, mo, r3, r4, r5, r6, r7, r8, r9⟩) s1 (by omega) s3 h))
      clear HSE hg hf HFJ HFB s1 s2 s3
      go_wp2_with fail
      refine HS2.out.mono ?_
      rintro e w3 ⟨A1, k1, A2, k2, rfl, HT, hx3⟩
      have hgl := of_length lg
      have hfl := of_length lf
      have HNG : Hid (Norm (ofS lg)) := Lib.hid (norm_of lg)
      have HNF : Hid (Norm (ofS lf)) := Lib.hid (norm_of lf)
      have HRG := Lib.hid (fun W (hW : SAt W Ag lg) => refOf_calls Ag cg lg W hW (by omega))
      have HRF := Lib.hid (fun W (hW : SAt W Af lf) => refOf_calls Af cf lf W hW (by omega))
      generalize ofS lg = G at *
      generalize ofS lf = F at *
      have hx4 : Ext w3 ((w3.alloc (.cells #[.slice A1 G.length k1] 30)).alloc (.cells #[.slice A2 F.length k2] 30)) := ((Ext.refl w3).alloc _).alloc _
      have g0 : ((w3.alloc (.cells #[.slice A1 G.length k1] 30)).alloc (.cells #[.slice A2 F.length k2] 30)).cell? ⟨w3.heap.size, 0, none⟩ = some (.slice A1 G.length k1) := by simp [go_sem]
      have f0 : ((w3.alloc (.cells #[.slice A1 G.length k1] 30)).alloc (.cells #[.slice A2 F.length k2] 30)).cell? ⟨w3.heap.size + 1, 0, none⟩ = some (.slice A2 F.length k2) := by simp [go_sem]
      have hx24 := hx3.trans hx4
      replace i0 := hx24.cell i0
      replace i1 := hx24.cell i1
      replace i2 := hx24.cell i2
      replace i3 := hx24.cell i3
      replace i4 := hx24.cell i4
      replace i5 := hx24.cell i5
      replace i6 := hx24.cell i6
      replace i7 := hx24.cell i7
      replace i8 := hx24.cell i8
      replace i9 := hx24.cell i9
      replace i10 := hx24.cell i10
      replace i11 := hx24.cell i11
      replace i12 := hx24.cell i12
      have hSG := HT.out.1.ext hx4
      have hSF := HT.out.2.ext hx4
      have hg4 := hg2.ext hx24
      have hf4 := hf2.ext hx24
      have hw4 := hw2.trans hx24
      have hpc := plan_calls A1 k1 G A2 k2 F n ⟨u, wa, mo, r3, r4, r5, r6, r7, r8, r9⟩ ((w3.alloc (.cells #[.slice A1 G.length k1] 30)).alloc (.cells #[.slice A2 F.length k2] 30)) hSG hSF HNG.out HNF.out (by omega) (by omega) (HSM.out F)
      have hpr := fun W A' a' B' b' (h1 : SAt W A' G) (h2 : SAt W B' F) => planR_calls A' a' G B' b' F n ⟨u, wa, mo, r3, r4, r5, r6, r7, r8, r9⟩ W h1 h2 HNG.out HNF.out (by omega) (by omega) (HSM.out F)
      simp only at hpc hpr
      have hPL : (planP n ⟨u, wa, mo, r3, r4, r5, r6, r7, r8, r9⟩ (unitsS G n u) F).length ≤ 101 := planP_len _ _ _ _
      generalize planP n ⟨u, wa, mo, r3, r4, r5, r6, r7, r8, r9⟩ (unitsS G n u) F = P at *
      generalize chkE n ⟨u, wa, mo, r3, r4, r5, r6, r7, r8, r9⟩ (unitsS G n u) F = E at *
      change Calls Try.prog 13 #[.agg #[.slice A1 G.length k1], .agg #[.slice A2 F.length k2], .int .i64 n, .agg #[.int .i64 u, .int .i64 wa, .int .i64 mo, .int .i64 r3, .int .i64 r4, .int .i64 r5, .int .i64 r6, .int .i64 r7, .int .i64 r8, .int .i64 r9]] ((w3.alloc (.cells #[.slice A1 G.length k1] 30)).alloc (.cells #[.slice A2 F.length k2] 30)) (PlanPost ((w3.alloc (.cells #[.slice A1 G.length k1] 30)).alloc (.cells #[.slice A2 F.length k2] 30)) P E) at hpc
      change ∀ W A' a' B' b', SAt W A' G → SAt W B' F → Calls Try.prog 14 #[.slice A' G.length a', .slice B' F.length b', .int .i64 n, .agg #[.int .i64 u, .int .i64 wa, .int .i64 mo, .int .i64 r3, .int .i64 r4, .int .i64 r5, .int .i64 r6, .int .i64 r7, .int .i64 r8, .int .i64 r9]] W (PlanPost W P E) at hpr
      have HPC := Lib.hid hpc
      have HPR := Lib.hid hpr
      clear hpc hpr HSM hSG hSF HT hx3 hx4 hx24 hw2 hg2 hf2 HS2 bJ2
      go_wp2_with fail
      generalize ((w3.alloc (.cells #[.slice A1 G.length k1] 30)).alloc (.cells #[.slice A2 F.length k2] 30)) = w4 at *
      refine HPC.out.mono ?_
      rintro e w5 ⟨A5, k5, rfl, HS5, hx5⟩
      replace i0 := hx5.cell i0
      replace i1 := hx5.cell i1
      replace i2 := hx5.cell i2
      replace i3 := hx5.cell i3
      replace i4 := hx5.cell i4
      replace i5 := hx5.cell i5
      replace i6 := hx5.cell i6
      replace i7 := hx5.cell i7
      replace i8 := hx5.cell i8
      replace i9 := hx5.cell i9
      replace i10 := hx5.cell i10
      replace i11 := hx5.cell i11
      replace i12 := hx5.cell i12
      have hg5 := hg4.ext hx5
      have hf5 := hf4.ext hx5
      have hw5 := hw4.trans hx5
      clear HPC hx5 hw4 hg4 hf4 g0 f0
      go_wp2
      have HE := Lib.hid (Ext.refl w5).drew
      go_region_held3 (fun w' => w'.cell? ⟨w.heap.size, 0, none⟩ = some (.slice Ag lg.length cg) ∧ w'.cell? ⟨w.heap.size, 1, none⟩ = some (.slice Af lf.length cf) ∧ w'.cell? ⟨w.heap.size, 2, none⟩ = some (.int .i64 n) ∧ w'.cell? ⟨w.heap.size, 3, none⟩ = some (.int .i64 u) ∧ w'.cell? ⟨w.heap.size, 4, none⟩ = some (.int .i64 wa) ∧ w'.cell? ⟨w.heap.size, 5, none⟩ = some (.int .i64 mo) ∧ w'.cell? ⟨w.heap.size, 6, none⟩ = some (.int .i64 r3) ∧ w'.cell? ⟨w.heap.size, 7, none⟩ = some (.int .i64 r4) ∧ w'.cell? ⟨w.heap.size, 8, none⟩ = some (.int .i64 r5) ∧ w'.cell? ⟨w.heap.size, 9, none⟩ = some (.int .i64 r6) ∧ w'.cell? ⟨w.heap.size, 10, none⟩ = some (.int .i64 r7) ∧ w'.cell? ⟨w.heap.size, 11, none⟩ = some (.int .i64 r8) ∧ w'.cell? ⟨w.heap.size, 12, none⟩ = some (.int .i64 r9))
        ((refine (fun hE => ⟨Ext.cell hE i0, Ext.cell hE i1, Ext.cell hE i2, Ext.cell hE i3, Ext.cell hE i4, Ext.cell hE i5, Ext.cell hE i6, Ext.cell hE i7, Ext.cell hE i8, Ext.cell hE i9, Ext.cell hE i10, Ext.cell hE i11, Ext.cell hE i12⟩ : Ext w5 _ → _) ?_
          (repeat' with_reducible first | exact hE8.out | exact hE7.out | exact hE6.out | exact HE.out | exact Ext.refl _ | refine Ext.drew ?_ | refine Ext.alloc ?_ _)))
        (first
          | (go_at_call 15
             (with_reducible refine (HRG.out _ (hg5.ext HE.out)).mono ?_)
             rintro e w6 ⟨A6, k6, rfl, HS6, hx6⟩
             have hE6 : Hid (Ext w5 w6) := Lib.hid (HE.out.trans hx6))
          | (go_at_call 15
             (with_reducible refine (HRF.out _ (hf5.ext hE6.out)).mono ?_)
             rintro e w7 ⟨A7, k7, rfl, HS7, hx7⟩
             have hE7 : Hid (Ext w5 w7) := Lib.hid (hE6.out.trans hx7)
             have HS67 : Hid (SAt w7 A6 G) := Lib.hid (HS6.out.ext hx7))
          | (go_at_call 14
             (with_reducible refine (HPR.out _ _ _ _ _ HS67.out HS7.out).mono ?_)
             rintro e w8 ⟨A8, k8, rfl, HS8, hx8⟩
             have hE8 : Hid (Ext w5 w8) := Lib.hid (hE7.out.trans hx8)))
      have HLC := Lib.hid (list_calls A5 A8 k5 k8 P P w8 (HS5.out.ext hE8.out) HS8.out (by omega) (by omega))
      go_wp2_with fail
      refine HLC.out.mono ?_
      rintro e w9 ⟨rfl, hx9⟩
      go_wp2
      go_ret
      exact ⟨by simp, (hw5.trans hE8.out).trans hx9⟩
end Go.Proofs.Ytdcdnnbijjcfmaa
