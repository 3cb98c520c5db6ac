/- The law PlanFewest: it returns true. -/
import Derived.Test.YtdcdnnbijjcfmaaFwc
import Derived.Test.YtdcdnnbijjcfmaaLawTells
namespace Go.Proofs.Ytdcdnnbijjcfmaa
open Go.RowKit

set_option maxHeartbeats 8000000 in
set_option maxRecDepth 100000 in
theorem lawFewest_calls (j : Jb) (w : World) (hg : SAt w j.g.A j.g.l) (hf : SAt w j.f.A j.f.l) (hlg : j.g.l.length ≤ 9223372036854775807) (hlf : j.f.l.length ≤ 9223372036854775807) :
    Calls Try.prog 4 #[.agg j.cells.toArray] w fun e w' => e = .returned (.bool true) ∧ Ext w w' := by
  have HFI := Lib.hid (fun W (hW : Ext w W) => fine_calls j 10 W (hg.ext hW) (hf.ext hW) hlg hlf (by omega) (by omega))
  have HSE := Lib.hid (fun W (hW : Ext w W) (h1 : j.g.l.length ≤ 1000) (h2 : j.f.l.length ≤ 1000) => sets_calls j W (hg.ext hW) (hf.ext hW) h1 h2)
  have HFJ : Hid (FineJ j 10 → SmallL j.g.l j.c.u 10 ∧ SmallL j.f.l j.c.u (4 * 10) ∧ (j.n ≤ j.c.u * 10 ∨ 1099511627776 < j.n) ∧ j.c.mo ≤ j.c.u * 300 ∧ j.c.wa ≤ 1099511627776) := Lib.hid id
  obtain ⟨⟨Ag, cg, lg⟩, ⟨Af, cf, lf⟩, n, ⟨u, wa, mo, r3, r4, r5, r6, r7, r8, r9⟩⟩ := j
  simp only at hg hf hlg hlf HFJ HSE
  change Hid (∀ W, Ext w W → Calls Try.prog 11 #[.agg #[.slice Ag lg.length cg, .slice Af lf.length cf, .int .i64 n, .int .i64 u, .int .i64 wa, .int .i64 mo, .int .i64 r3, .int .i64 r4, .int .i64 r5, .int .i64 r6, .int .i64 r7, .int .i64 r8, .int .i64 r9], .int .i64 10] W (SmallPost (FineJ ⟨⟨Ag, cg, lg⟩, ⟨Af, cf, lf⟩, n, ⟨u, wa, mo, r3, r4, r5, r6, r7, r8, r9⟩⟩ 10) W)) at HFI
  change Hid (∀ W, Ext w W → lg.length ≤ 1000 → lf.length ≤ 1000 → Calls Try.prog 12 #[.agg #[.slice Ag lg.length cg, .slice Af lf.length cf, .int .i64 n, .int .i64 u, .int .i64 wa, .int .i64 mo, .int .i64 r3, .int .i64 r4, .int .i64 r5, .int .i64 r6, .int .i64 r7, .int .i64 r8, .int .i64 r9]] W (SetsPost W (ofS lg) (ofS lf))) at HSE
  show Calls Try.prog 4 #[.agg #[.slice Ag lg.length cg, .slice Af lf.length cf, .int .i64 n, .int .i64 u, .int .i64 wa, .int .i64 mo, .int .i64 r3, .int .i64 r4, .int .i64 r5, .int .i64 r6, .int .i64 r7, .int .i64 r8, .int .i64 r9]] w fun e w' => e = .returned (.bool true) ∧ Ext w w'
  generalize FineJ ⟨⟨Ag, cg, lg⟩, ⟨Af, cf, lf⟩, n, ⟨u, wa, mo, r3, r4, r5, r6, r7, r8, r9⟩⟩ 10 = Q at *
  have hx0 : Ext w (w.alloc (.cells #[.slice Ag lg.length cg, .slice Af lf.length cf, .int .i64 n, .int .i64 u, .int .i64 wa, .int .i64 mo, .int .i64 r3, .int .i64 r4, .int .i64 r5, .int .i64 r6, .int .i64 r7, .int .i64 r8, .int .i64 r9] 26)) := (Ext.refl w).alloc _
  have bJ := heap_alloc_new w (.cells #[.slice Ag lg.length cg, .slice Af lf.length cf, .int .i64 n, .int .i64 u, .int .i64 wa, .int .i64 mo, .int .i64 r3, .int .i64 r4, .int .i64 r5, .int .i64 r6, .int .i64 r7, .int .i64 r8, .int .i64 r9] 26)
  go_enter Try.func4, Try.ntmps4
  go_wp2_with fail
  generalize (w.alloc (.cells #[.slice Ag lg.length cg, .slice Af lf.length cf, .int .i64 n, .int .i64 u, .int .i64 wa, .int .i64 mo, .int .i64 r3, .int .i64 r4, .int .i64 r5, .int .i64 r6, .int .i64 r7, .int .i64 r8, .int .i64 r9] 26)) = w0 at *
  refine (alive_calls _).mono ?_
  rintro e w1 ⟨rfl, hx1⟩
  have hw1 := hx0.trans hx1
  have bJ1 := hx1.block bJ
  have i0 : w1.cell? ⟨w.heap.size, 0, none⟩ = some (.slice Ag lg.length cg) := by rw [cell_of_block bJ1]; rfl
  have i1 : w1.cell? ⟨w.heap.size, 1, none⟩ = some (.slice Af lf.length cf) := by rw [cell_of_block bJ1]; rfl
  have i2 : w1.cell? ⟨w.heap.size, 2, none⟩ = some (.int .i64 n) := by rw [cell_of_block bJ1]; rfl
  have i3 : w1.cell? ⟨w.heap.size, 3, none⟩ = some (.int .i64 u) := by rw [cell_of_block bJ1]; rfl
  have i4 : w1.cell? ⟨w.heap.size, 4, none⟩ = some (.int .i64 wa) := by rw [cell_of_block bJ1]; rfl
  have i5 : w1.cell? ⟨w.heap.size, 5, none⟩ = some (.int .i64 mo) := by rw [cell_of_block bJ1]; rfl
  have i6 : w1.cell? ⟨w.heap.size, 6, none⟩ = some (.int .i64 r3) := by rw [cell_of_block bJ1]; rfl
  have i7 : w1.cell? ⟨w.heap.size, 7, none⟩ = some (.int .i64 r4) := by rw [cell_of_block bJ1]; rfl
  have i8 : w1.cell? ⟨w.heap.size, 8, none⟩ = some (.int .i64 r5) := by rw [cell_of_block bJ1]; rfl
  have i9 : w1.cell? ⟨w.heap.size, 9, none⟩ = some (.int .i64 r6) := by rw [cell_of_block bJ1]; rfl
  have i10 : w1.cell? ⟨w.heap.size, 10, none⟩ = some (.int .i64 r7) := by rw [cell_of_block bJ1]; rfl
  have i11 : w1.cell? ⟨w.heap.size, 11, none⟩ = some (.int .i64 r8) := by rw [cell_of_block bJ1]; rfl
  have i12 : w1.cell? ⟨w.heap.size, 12, none⟩ = some (.int .i64 r9) := by rw [cell_of_block bJ1]; rfl
  have HF1 := Lib.hid (HFI.out w1 hw1)
  clear hx0 hx1 bJ HFI
  go_wp2_with fail
  refine HF1.out.mono ?_
  rintro e w2 ⟨fb, rfl, hfb, hx2⟩
  have HFB := Lib.hid hfb
  have hw2 := hw1.trans hx2
  have bJ2 := hx2.block bJ1
  replace i0 := hx2.cell i0
  replace i1 := hx2.cell i1
  replace i2 := hx2.cell i2
  replace i3 := hx2.cell i3
  replace i4 := hx2.cell i4
  replace i5 := hx2.cell i5
  replace i6 := hx2.cell i6
  replace i7 := hx2.cell i7
  replace i8 := hx2.cell i8
  replace i9 := hx2.cell i9
  replace i10 := hx2.cell i10
  replace i11 := hx2.cell i11
  replace i12 := hx2.cell i12
  clear HF1 hfb bJ1 hx2 hw1
  cases fb
  · go_wp2
    go_ret
    exact ⟨rfl, hw2⟩
  · obtain ⟨s1, s2, s3, _, _⟩ := HFJ.out (HFB.out (by simp))
    · have hg12 := s1.2.1
      have hf12 := s2.2.1
      have hg2 := hg.ext hw2
      have hf2 := hf.ext hw2
      have HS2 := Lib.hid (HSE.out w2 hw2 (by omega) (by omega))
      have HSM := Lib.hid (fun F (h : chkE n ⟨u, wa, mo, r3, r4, r5, r6, r7, r8, r9⟩ (unitsS (ofS lg) n u) F = 0) => (small_units (c := ⟨u, wa, mo, r3, r4, r5, r6, r7, r8, r9⟩) s1 (by omega) s3 h))
      clear HSE hg hf HFJ HFB s1 s2 s3
      by_cases hn0 : n < 0
      · have hnb : decide (n < 0) = true := decide_eq_true hn0
        go_wp2
        go_ret
        exact ⟨rfl, hw2⟩
      have hnb : decide (n < 0) = false := decide_eq_false hn0
      have HNN : Hid (0 ≤ n) := Lib.hid (by omega)
      go_wp2_with fail
      refine HS2.out.mono ?_
      rintro e w3 ⟨A1, k1, A2, k2, rfl, HT, hx3⟩
      have hgl := of_length lg
      have hfl := of_length lf
      have HNG : Hid (Norm (ofS lg)) := Lib.hid (norm_of lg)
      have HNF : Hid (Norm (ofS lf)) := Lib.hid (norm_of lf)
      have HRG := Lib.hid (fun W (hW : SAt W Ag lg) => refOf_calls Ag cg lg W hW (by omega))
      have HRF := Lib.hid (fun W (hW : SAt W Af lf) => refOf_calls Af cf lf W hW (by omega))
      generalize ofS lg = G at *
      generalize ofS lf = F at *
      have hx4 : Ext w3 ((w3.alloc (.cells #[.slice A1 G.length k1] 30)).alloc (.cells #[.slice A2 F.length k2] 30)) := ((Ext.refl w3).alloc _).alloc _
      have g0 : ((w3.alloc (.cells #[.slice A1 G.length k1] 30)).alloc (.cells #[.slice A2 F.length k2] 30)).cell? ⟨w3.heap.size, 0, none⟩ = some (.slice A1 G.length k1) := by simp [go_sem]
      have f0 : ((w3.alloc (.cells #[.slice A1 G.length k1] 30)).alloc (.cells #[.slice A2 F.length k2] 30)).cell? ⟨w3.heap.size + 1, 0, none⟩ = some (.slice A2 F.length k2) := by simp [go_sem]
      have hx24 := hx3.trans hx4
      replace i0 := hx24.cell i0
      replace i1 := hx24.cell i1
      replace i2 := hx24.cell i2
      replace i3 := hx24.cell i3
      replace i4 := hx24.cell i4
      replace i5 := hx24.cell i5
      replace i6 := hx24.cell i6
      replace i7 := hx24.cell i7
      replace i8 := hx24.cell i8
      replace i9 := hx24.cell i9
      replace i10 := hx24.cell i10
      replace i11 := hx24.cell i11
      replace i12 := hx24.cell i12
      have hSG := HT.out.1.ext hx4
      have hSF := HT.out.2.ext hx4
      have hg4 := hg2.ext hx24
      have hf4 := hf2.ext hx24
      have hw4 := hw2.trans hx24
      have hpc := plan_calls A1 k1 G A2 k2 F n ⟨u, wa, mo, r3, r4, r5, r6, r7, r8, r9⟩ ((w3.alloc (.cells #[.slice A1 G.length k1] 30)).alloc (.cells #[.slice A2 F.length k2] 30)) hSG hSF HNG.out HNF.out (by omega) (by omega) (HSM.out F)
      have hpf := fun hE => plan_fewest (n := n) (c := ⟨u, wa, mo, r3, r4, r5, r6, r7, r8, r9⟩) HNG.out HNF.out (by omega) (by omega) hE (HSM.out F hE) HNN.out
      have hpr := fun hE => (plan_right (n := n) (c := ⟨u, wa, mo, r3, r4, r5, r6, r7, r8, r9⟩) HNG.out HNF.out hE (HSM.out F hE)).2.2
      have hrr := fun W L cl (l : List Sp) A ca B d (hl : l.length ≤ 1000) (h1 : SAt W L l) (h2 : SAt W A G) (h3 : SAt W B F) => refRight_calls L cl l A ca G B d F n ⟨u, wa, mo, r3, r4, r5, r6, r7, r8, r9⟩ W h1 h2 h3 HNG.out HNF.out hl (by omega) (by omega)
      have hur := fun W A c (h : SAt W A G) => unitsR_calls A c G n u W h HNG.out (by omega)
      have hul := units_len HNG.out n u
      simp only at hpc hpr hpf hrr
      have hPL : (planP n ⟨u, wa, mo, r3, r4, r5, r6, r7, r8, r9⟩ (unitsS G n u) F).length ≤ 101 := planP_len _ _ _ _
      have hrq : ∀ l, ∃ rq, rightR l (unitsS G n u) F n ⟨u, wa, mo, r3, r4, r5, r6, r7, r8, r9⟩ = rq := fun l => ⟨_, rfl⟩
      obtain ⟨rq, hrq⟩ := hrq (planP n ⟨u, wa, mo, r3, r4, r5, r6, r7, r8, r9⟩ (unitsS G n u) F)
      generalize planP n ⟨u, wa, mo, r3, r4, r5, r6, r7, r8, r9⟩ (unitsS G n u) F = P at *
      rw [hrq] at hpr
      replace hrr := fun W L cl A ca B d (h1 : SAt W L P) (h2 : SAt W A G) (h3 : SAt W B F) => hrr W L cl P A ca B d (by omega) h1 h2 h3
      rw [hrq] at hrr
      clear hrq
      generalize chkE n ⟨u, wa, mo, r3, r4, r5, r6, r7, r8, r9⟩ (unitsS G n u) F = E at *
      generalize unitsS G n u = U at *
      change Calls Try.prog 13 #[.agg #[.slice A1 G.length k1], .agg #[.slice A2 F.length k2], .int .i64 n, .agg #[.int .i64 u, .int .i64 wa, .int .i64 mo, .int .i64 r3, .int .i64 r4, .int .i64 r5, .int .i64 r6, .int .i64 r7, .int .i64 r8, .int .i64 r9]] ((w3.alloc (.cells #[.slice A1 G.length k1] 30)).alloc (.cells #[.slice A2 F.length k2] 30)) (PlanPost ((w3.alloc (.cells #[.slice A1 G.length k1] 30)).alloc (.cells #[.slice A2 F.length k2] 30)) P E) at hpc
      change E = 0 → ∀ (AU : Option Addr) (cu : Nat) (B : Option Addr) (d : Nat) (w : World), SAt w AU U → SAt w B F → Calls Try.prog 19 #[.slice AU U.length cu, .slice AU U.length cu, .slice B F.length d, .int .i64 n, .agg #[.int .i64 u, .int .i64 wa, .int .i64 mo, .int .i64 r3, .int .i64 r4, .int .i64 r5, .int .i64 r6, .int .i64 r7, .int .i64 r8, .int .i64 r9]] w fun e w' => e = .returned (.int .i64 P.length) ∧ Ext w w' at hpf
      change ∀ W L cl A ca B d, SAt W L P → SAt W A G → SAt W B F → Calls Try.prog 18 #[.slice L P.length cl, .slice A G.length ca, .slice B F.length d, .int .i64 n, .agg #[.int .i64 u, .int .i64 wa, .int .i64 mo, .int .i64 r3, .int .i64 r4, .int .i64 r5, .int .i64 r6, .int .i64 r7, .int .i64 r8, .int .i64 r9]] W fun e w' => e = .returned (.bool rq) ∧ Ext W w' at hrr
      have HPF := Lib.hid hpf
      have HRR := Lib.hid hrr
      have HUR := Lib.hid hur
      have HRQ := Lib.hid hpr
      have HPC := Lib.hid hpc
      clear hpc hpr hpf hrr hur HSM hn0 hSG hSF HT hx3 hx4 hx24 hw2 hg2 hf2 HS2 bJ2
      go_wp2_with fail
      generalize ((w3.alloc (.cells #[.slice A1 G.length k1] 30)).alloc (.cells #[.slice A2 F.length k2] 30)) = w4 at *
      refine HPC.out.mono ?_
      rintro e w5 ⟨A5, k5, rfl, HS5, hx5⟩
      replace i0 := hx5.cell i0
      replace i1 := hx5.cell i1
      replace i2 := hx5.cell i2
      replace i3 := hx5.cell i3
      replace i4 := hx5.cell i4
      replace i5 := hx5.cell i5
      replace i6 := hx5.cell i6
      replace i7 := hx5.cell i7
      replace i8 := hx5.cell i8
      replace i9 := hx5.cell i9
      replace i10 := hx5.cell i10
      replace i11 := hx5.cell i11
      replace i12 := hx5.cell i12
      have hg5 := hg4.ext hx5
      have hf5 := hf4.ext hx5
      have hw5 := hw4.trans hx5
      clear HPC hx5 hw4 hg4 hf4 g0 f0
      by_cases hE0 : E = 0
      rotate_left
      · have hEb : decide (E = 0) = false := decide_eq_false hE0
        have hEb2 : (E == 0) = false := beq_eq_false_iff_ne.2 hE0
        go_wp2
        go_ret
        exact ⟨rfl, hw5⟩
      have HF9 := Lib.hid (HPF.out hE0)
      have hrt := HRQ.out hE0
      subst hE0
      subst hrt
      clear HPF HRQ
      go_wp2
      have HE := Lib.hid (Ext.refl w5).drew
      go_region_held3 (fun w' => w'.cell? ⟨w.heap.size, 0, none⟩ = some (.slice Ag lg.length cg) ∧ w'.cell? ⟨w.heap.size, 1, none⟩ = some (.slice Af lf.length cf) ∧ w'.cell? ⟨w.heap.size, 2, none⟩ = some (.int .i64 n) ∧ w'.cell? ⟨w.heap.size, 3, none⟩ = some (.int .i64 u) ∧ w'.cell? ⟨w.heap.size, 4, none⟩ = some (.int .i64 wa) ∧ w'.cell? ⟨w.heap.size, 5, none⟩ = some (.int .i64 mo) ∧ w'.cell? ⟨w.heap.size, 6, none⟩ = some (.int .i64 r3) ∧ w'.cell? ⟨w.heap.size, 7, none⟩ = some (.int .i64 r4) ∧ w'.cell? ⟨w.heap.size, 8, none⟩ = some (.int .i64 r5) ∧ w'.cell? ⟨w.heap.size, 9, none⟩ = some (.int .i64 r6) ∧ w'.cell? ⟨w.heap.size, 10, none⟩ = some (.int .i64 r7) ∧ w'.cell? ⟨w.heap.size, 11, none⟩ = some (.int .i64 r8) ∧ w'.cell? ⟨w.heap.size, 12, none⟩ = some (.int .i64 r9))
        ((refine (fun hE => ⟨Ext.cell hE i0, Ext.cell hE i1, Ext.cell hE i2, Ext.cell hE i3, Ext.cell hE i4, Ext.cell hE i5, Ext.cell hE i6, Ext.cell hE i7, Ext.cell hE i8, Ext.cell hE i9, Ext.cell hE i10, Ext.cell hE i11, Ext.cell hE i12⟩ : Ext w5 _ → _) ?_
          (repeat' with_reducible first | exact hE7.out | exact hE6.out | exact HE.out | exact Ext.refl _ | refine Ext.drew ?_ | refine Ext.alloc ?_ _)))
        (first
          | (go_at_call 15
             (with_reducible refine (HRG.out _ (hg5.ext HE.out)).mono ?_)
             rintro e w6 ⟨A6, k6, rfl, HS6, hx6⟩
             have hE6 : Hid (Ext w5 w6) := Lib.hid (HE.out.trans hx6))
          | (go_at_call 15
             (with_reducible refine (HRF.out _ (hf5.ext hE6.out)).mono ?_)
             rintro e w7 ⟨A7, k7, rfl, HS7, hx7⟩
             have hE7 : Hid (Ext w5 w7) := Lib.hid (hE6.out.trans hx7)
             have HS67 : Hid (SAt w7 A6 G) := Lib.hid (HS6.out.ext hx7)))
      have i2' := hE7.out.cell i2
      have i3' := hE7.out.cell i3
      have i4' := hE7.out.cell i4
      have i5' := hE7.out.cell i5
      have i6' := hE7.out.cell i6
      have i7' := hE7.out.cell i7
      have i8' := hE7.out.cell i8
      have i9' := hE7.out.cell i9
      have i10' := hE7.out.cell i10
      have i11' := hE7.out.cell i11
      have i12' := hE7.out.cell i12
      have HU7 := Lib.hid (HUR.out w7 A6 k6 HS67.out)
      clear HUR
      go_wp2_with fail
      refine HU7.out.mono ?_
      rintro e w8 ⟨A8, k8, rfl, HS8, _, hx8⟩
      have hE8 := hE7.out.trans hx8
      have HR8 := Lib.hid (HRR.out w8 A5 k5 A6 k6 A7 k7 (HS5.out.ext hE8) (HS67.out.ext hx8) (HS7.out.ext hx8))
      replace i2' := hx8.cell i2'
      replace i3' := hx8.cell i3'
      replace i4' := hx8.cell i4'
      replace i5' := hx8.cell i5'
      replace i6' := hx8.cell i6'
      replace i7' := hx8.cell i7'
      replace i8' := hx8.cell i8'
      replace i9' := hx8.cell i9'
      replace i10' := hx8.cell i10'
      replace i11' := hx8.cell i11'
      replace i12' := hx8.cell i12'
      clear HRR HU7
      go_wp2_with fail
      refine HR8.out.mono ?_
      rintro e w9 ⟨rfl, hx9⟩
      have hE9 := hE8.trans hx9
      have HF8 := Lib.hid (HF9.out A8 k8 A7 k7 w9 (HS8.out.ext hx9) (HS7.out.ext (hx8.trans hx9)))
      replace i2' := hx9.cell i2'
      replace i3' := hx9.cell i3'
      replace i4' := hx9.cell i4'
      replace i5' := hx9.cell i5'
      replace i6' := hx9.cell i6'
      replace i7' := hx9.cell i7'
      replace i8' := hx9.cell i8'
      replace i9' := hx9.cell i9'
      replace i10' := hx9.cell i10'
      replace i11' := hx9.cell i11'
      replace i12' := hx9.cell i12'
      clear HF9 HR8
      go_wp2_with fail
      refine HF8.out.mono ?_
      rintro e w10 ⟨rfl, hx10⟩
      go_wp2
      go_ret
      exact ⟨by simp, hw5.trans (hE9.trans hx10)⟩
end Go.Proofs.Ytdcdnnbijjcfmaa
