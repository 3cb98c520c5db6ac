/- The law PlanLimits: it returns true. -/
import Derived.Test.YtdcdnnbijjcfmaaLmt
namespace Go.Proofs.Ytdcdnnbijjcfmaa
open Go.RowKit

def TriBox (w : World) (cs : Array Value) (v1 v2 v3 : Value) (wx : World) : Prop := ∃ a b c, v1 = .pointer (some ⟨a, 0, none⟩) ∧ v2 = .pointer (some ⟨b, 0, none⟩) ∧ v3 = .pointer (some ⟨c, 0, none⟩) ∧ (w.heap.size ≤ a ∧ w.heap.size ≤ b ∧ w.heap.size ≤ c ∧ a ≠ b ∧ a ≠ c ∧ b ≠ c) ∧ wx.heap[a]? = some (.cells cs 24 (0, 0)) ∧ wx.heap[b]? = some (.cells cs 24 (0, 0)) ∧ wx.heap[c]? = some (.cells cs 24 (0, 0)) ∧ Ext w wx
theorem tri_set {w : World} {ba bb bc : Nat} {u wa mo r3 r4 r5 r6 r7 r8 r9 x1 x2 : Int} (ha : w.heap[ba]? = some (.cells #[.int .i64 u, .int .i64 wa, .int .i64 mo, .int .i64 r3, .int .i64 r4, .int .i64 r5, .int .i64 r6, .int .i64 r7, .int .i64 r8, .int .i64 r9] 24 (0, 0))) (hb : w.heap[bb]? = some (.cells #[.int .i64 u, .int .i64 wa, .int .i64 mo, .int .i64 r3, .int .i64 r4, .int .i64 r5, .int .i64 r6, .int .i64 r7, .int .i64 r8, .int .i64 r9] 24 (0, 0))) (hc : w.heap[bc]? = some (.cells #[.int .i64 u, .int .i64 wa, .int .i64 mo, .int .i64 r3, .int .i64 r4, .int .i64 r5, .int .i64 r6, .int .i64 r7, .int .i64 r8, .int .i64 r9] 24 (0, 0))) (d1 : ba ≠ bb) (d2 : ba ≠ bc) (d3 : bb ≠ bc) :
    ((((w.setCell ⟨ba, 1, none⟩ (.int .i64 x1)).setCell ⟨bb, 2, none⟩ (.int .i64 x2)).setCell ⟨bc, 1, none⟩ (.int .i64 0)).setCell ⟨bc, 2, none⟩ (.int .i64 1152921504606846976)).heap[ba]? = some (.cells #[.int .i64 u, .int .i64 x1, .int .i64 mo, .int .i64 r3, .int .i64 r4, .int .i64 r5, .int .i64 r6, .int .i64 r7, .int .i64 r8, .int .i64 r9] 24 (0, 0)) ∧
    ((((w.setCell ⟨ba, 1, none⟩ (.int .i64 x1)).setCell ⟨bb, 2, none⟩ (.int .i64 x2)).setCell ⟨bc, 1, none⟩ (.int .i64 0)).setCell ⟨bc, 2, none⟩ (.int .i64 1152921504606846976)).heap[bb]? = some (.cells #[.int .i64 u, .int .i64 wa, .int .i64 x2, .int .i64 r3, .int .i64 r4, .int .i64 r5, .int .i64 r6, .int .i64 r7, .int .i64 r8, .int .i64 r9] 24 (0, 0)) ∧
    ((((w.setCell ⟨ba, 1, none⟩ (.int .i64 x1)).setCell ⟨bb, 2, none⟩ (.int .i64 x2)).setCell ⟨bc, 1, none⟩ (.int .i64 0)).setCell ⟨bc, 2, none⟩ (.int .i64 1152921504606846976)).heap[bc]? = some (.cells #[.int .i64 u, .int .i64 0, .int .i64 1152921504606846976, .int .i64 r3, .int .i64 r4, .int .i64 r5, .int .i64 r6, .int .i64 r7, .int .i64 r8, .int .i64 r9] 24 (0, 0)) := by
  refine ⟨?_, ?_, ?_⟩
  · rw [Below.heap_setCell _ ⟨bc, 2, none⟩ _ _ d2, Below.heap_setCell _ ⟨bc, 1, none⟩ _ _ d2, Below.heap_setCell _ ⟨bb, 2, none⟩ _ _ d1, heap_setCell_same _ _ _ _ _ _ ha]; rfl
  · rw [Below.heap_setCell _ ⟨bc, 2, none⟩ _ _ d3, Below.heap_setCell _ ⟨bc, 1, none⟩ _ _ d3, heap_setCell_same _ _ _ _ _ _ ((Below.heap_setCell w ⟨ba, 1, none⟩ _ _ d1.symm).trans hb)]; rfl
  · have h2 := (Below.heap_setCell (w.setCell ⟨ba, 1, none⟩ (.int .i64 x1)) ⟨bb, 2, none⟩ (.int .i64 x2) bc d3.symm).trans ((Below.heap_setCell w ⟨ba, 1, none⟩ (.int .i64 x1) bc d2.symm).trans hc)
    rw [heap_setCell_same _ _ _ _ _ _ (heap_setCell_same _ _ _ _ _ _ h2)]; rfl
set_option maxHeartbeats 8000000 in
set_option maxRecDepth 100000 in
theorem lawLimits_calls (j : Jb) (x y : Int) (hx8 : 0 ≤ x ∧ x ≤ 255) (hy8 : 0 ≤ y ∧ y ≤ 255) (w : World) (hg : SAt w j.g.A j.g.l) (hf : SAt w j.f.A j.f.l) (hlg : j.g.l.length ≤ 9223372036854775807) (hlf : j.f.l.length ≤ 9223372036854775807) :
    Calls Try.prog 5 #[.agg j.cells.toArray, .int .u8 x, .int .u8 y] w fun e w' => e = .returned (.bool true) ∧ Ext w w' := by
  have HFI := Lib.hid (fun W (hW : Ext w W) => fine_calls j 100 W (hg.ext hW) (hf.ext hW) hlg hlf (by omega) (by omega))
  have HSE := Lib.hid (fun W (hW : Ext w W) (h1 : j.g.l.length ≤ 1000) (h2 : j.f.l.length ≤ 1000) => sets_calls j W (hg.ext hW) (hf.ext hW) h1 h2)
  have HFJ : Hid (FineJ j 100 → SmallL j.g.l j.c.u 100 ∧ SmallL j.f.l j.c.u (4 * 100) ∧ (j.n ≤ j.c.u * 100 ∨ 1099511627776 < j.n) ∧ j.c.mo ≤ j.c.u * 300 ∧ j.c.wa ≤ 1099511627776) := Lib.hid id
  obtain ⟨⟨Ag, cg, lg⟩, ⟨Af, cf, lf⟩, n, ⟨u, wa, mo, r3, r4, r5, r6, r7, r8, r9⟩⟩ := j
  simp only at hg hf hlg hlf HFJ HSE
  change Hid (∀ W, Ext w W → Calls Try.prog 11 #[.agg #[.slice Ag lg.length cg, .slice Af lf.length cf, .int .i64 n, .int .i64 u, .int .i64 wa, .int .i64 mo, .int .i64 r3, .int .i64 r4, .int .i64 r5, .int .i64 r6, .int .i64 r7, .int .i64 r8, .int .i64 r9], .int .i64 100] W (SmallPost (FineJ ⟨⟨Ag, cg, lg⟩, ⟨Af, cf, lf⟩, n, ⟨u, wa, mo, r3, r4, r5, r6, r7, r8, r9⟩⟩ 100) W)) at HFI
  change Hid (∀ W, Ext w W → lg.length ≤ 1000 → lf.length ≤ 1000 → Calls Try.prog 12 #[.agg #[.slice Ag lg.length cg, .slice Af lf.length cf, .int .i64 n, .int .i64 u, .int .i64 wa, .int .i64 mo, .int .i64 r3, .int .i64 r4, .int .i64 r5, .int .i64 r6, .int .i64 r7, .int .i64 r8, .int .i64 r9]] W (SetsPost W (ofS lg) (ofS lf))) at HSE
  show Calls Try.prog 5 #[.agg #[.slice Ag lg.length cg, .slice Af lf.length cf, .int .i64 n, .int .i64 u, .int .i64 wa, .int .i64 mo, .int .i64 r3, .int .i64 r4, .int .i64 r5, .int .i64 r6, .int .i64 r7, .int .i64 r8, .int .i64 r9], .int .u8 x, .int .u8 y] w fun e w' => e = .returned (.bool true) ∧ Ext w w'
  generalize FineJ ⟨⟨Ag, cg, lg⟩, ⟨Af, cf, lf⟩, n, ⟨u, wa, mo, r3, r4, r5, r6, r7, r8, r9⟩⟩ 100 = Q at *
  have hx0 : Ext w (w.alloc (.cells #[.slice Ag lg.length cg, .slice Af lf.length cf, .int .i64 n, .int .i64 u, .int .i64 wa, .int .i64 mo, .int .i64 r3, .int .i64 r4, .int .i64 r5, .int .i64 r6, .int .i64 r7, .int .i64 r8, .int .i64 r9] 26)) := (Ext.refl w).alloc _
  have bJ := heap_alloc_new w (.cells #[.slice Ag lg.length cg, .slice Af lf.length cf, .int .i64 n, .int .i64 u, .int .i64 wa, .int .i64 mo, .int .i64 r3, .int .i64 r4, .int .i64 r5, .int .i64 r6, .int .i64 r7, .int .i64 r8, .int .i64 r9] 26)
  go_enter Try.func5, Try.ntmps5
  go_wp2_with fail
  generalize (w.alloc (.cells #[.slice Ag lg.length cg, .slice Af lf.length cf, .int .i64 n, .int .i64 u, .int .i64 wa, .int .i64 mo, .int .i64 r3, .int .i64 r4, .int .i64 r5, .int .i64 r6, .int .i64 r7, .int .i64 r8, .int .i64 r9] 26)) = w0 at *
  refine (alive_calls _).mono ?_
  rintro e w1 ⟨rfl, hx1⟩
  have hw1 := hx0.trans hx1
  have bJ1 := hx1.block bJ
  have i0 : w1.cell? ⟨w.heap.size, 0, none⟩ = some (.slice Ag lg.length cg) := by rw [cell_of_block bJ1]; rfl
  have i1 : w1.cell? ⟨w.heap.size, 1, none⟩ = some (.slice Af lf.length cf) := by rw [cell_of_block bJ1]; rfl
  have i2 : w1.cell? ⟨w.heap.size, 2, none⟩ = some (.int .i64 n) := by rw [cell_of_block bJ1]; rfl
  have i3 : w1.cell? ⟨w.heap.size, 3, none⟩ = some (.int .i64 u) := by rw [cell_of_block bJ1]; rfl
  have i4 : w1.cell? ⟨w.heap.size, 4, none⟩ = some (.int .i64 wa) := by rw [cell_of_block bJ1]; rfl
  have i5 : w1.cell? ⟨w.heap.size, 5, none⟩ = some (.int .i64 mo) := by rw [cell_of_block bJ1]; rfl
  have i6 : w1.cell? ⟨w.heap.size, 6, none⟩ = some (.int .i64 r3) := by rw [cell_of_block bJ1]; rfl
  have i7 : w1.cell? ⟨w.heap.size, 7, none⟩ = some (.int .i64 r4) := by rw [cell_of_block bJ1]; rfl
  have i8 : w1.cell? ⟨w.heap.size, 8, none⟩ = some (.int .i64 r5) := by rw [cell_of_block bJ1]; rfl
  have i9 : w1.cell? ⟨w.heap.size, 9, none⟩ = some (.int .i64 r6) := by rw [cell_of_block bJ1]; rfl
  have i10 : w1.cell? ⟨w.heap.size, 10, none⟩ = some (.int .i64 r7) := by rw [cell_of_block bJ1]; rfl
  have i11 : w1.cell? ⟨w.heap.size, 11, none⟩ = some (.int .i64 r8) := by rw [cell_of_block bJ1]; rfl
  have i12 : w1.cell? ⟨w.heap.size, 12, none⟩ = some (.int .i64 r9) := by rw [cell_of_block bJ1]; rfl
  have HF1 := Lib.hid (HFI.out w1 hw1)
  clear hx0 hx1 bJ HFI
  go_wp2_with fail
  refine HF1.out.mono ?_
  rintro e w2 ⟨fb, rfl, hfb, hx2⟩
  have HFB := Lib.hid hfb
  have hw2 := hw1.trans hx2
  have bJ2 := hx2.block bJ1
  replace i0 := hx2.cell i0
  replace i1 := hx2.cell i1
  replace i2 := hx2.cell i2
  replace i3 := hx2.cell i3
  replace i4 := hx2.cell i4
  replace i5 := hx2.cell i5
  replace i6 := hx2.cell i6
  replace i7 := hx2.cell i7
  replace i8 := hx2.cell i8
  replace i9 := hx2.cell i9
  replace i10 := hx2.cell i10
  replace i11 := hx2.cell i11
  replace i12 := hx2.cell i12
  clear HF1 hfb bJ1 hx2 hw1
  cases fb
  · go_wp2
    go_ret
    exact ⟨rfl, hw2⟩
  · obtain ⟨s1, s2, s3, s4, s5⟩ := HFJ.out (HFB.out (by simp))
    · have hg12 := s1.2.1
      have hf12 := s2.2.1
      have hg2 := hg.ext hw2
      have hf2 := hf.ext hw2
      have HS2 := Lib.hid (HSE.out w2 hw2 (by omega) (by omega))
      have HSM := Lib.hid (fun F (h : chkE n ⟨u, wa, mo, r3, r4, r5, r6, r7, r8, r9⟩ (unitsS (ofS lg) n u) F = 0) => (small_units (c := ⟨u, wa, mo, r3, r4, r5, r6, r7, r8, r9⟩) s1 (by omega) s3 h))
      clear HSE hg hf HFJ HFB s1 s2 s3
      go_wp2_with fail
      refine HS2.out.mono ?_
      rintro e w3 ⟨A1, k1, A2, k2, rfl, HT, hx3⟩
      have hgl := of_length lg
      have hfl := of_length lf
      have HNG : Hid (Norm (ofS lg)) := Lib.hid (norm_of lg)
      have HNF : Hid (Norm (ofS lf)) := Lib.hid (norm_of lf)
      have HRG := Lib.hid (fun W (hW : SAt W Ag lg) => refOf_calls Ag cg lg W hW (by omega))
      have HRF := Lib.hid (fun W (hW : SAt W Af lf) => refOf_calls Af cf lf W hW (by omega))
      generalize ofS lg = G at *
      generalize ofS lf = F at *
      have hx4 : Ext w3 ((w3.alloc (.cells #[.slice A1 G.length k1] 30)).alloc (.cells #[.slice A2 F.length k2] 30)) := ((Ext.refl w3).alloc _).alloc _
      have g0 : ((w3.alloc (.cells #[.slice A1 G.length k1] 30)).alloc (.cells #[.slice A2 F.length k2] 30)).cell? ⟨w3.heap.size, 0, none⟩ = some (.slice A1 G.length k1) := by simp [go_sem]
      have f0 : ((w3.alloc (.cells #[.slice A1 G.length k1] 30)).alloc (.cells #[.slice A2 F.length k2] 30)).cell? ⟨w3.heap.size + 1, 0, none⟩ = some (.slice A2 F.length k2) := by simp [go_sem]
      have hx24 := hx3.trans hx4
      replace i0 := hx24.cell i0
      replace i1 := hx24.cell i1
      replace i2 := hx24.cell i2
      replace i3 := hx24.cell i3
      replace i4 := hx24.cell i4
      replace i5 := hx24.cell i5
      replace i6 := hx24.cell i6
      replace i7 := hx24.cell i7
      replace i8 := hx24.cell i8
      replace i9 := hx24.cell i9
      replace i10 := hx24.cell i10
      replace i11 := hx24.cell i11
      replace i12 := hx24.cell i12
      have hSG := HT.out.1.ext hx4
      have hSF := HT.out.2.ext hx4
      have hg4 := hg2.ext hx24
      have hf4 := hf2.ext hx24
      have hw4 := hw2.trans hx24
      have HPX := Lib.hid (fun W (c : Cf) (hu : c.u = u) (h1 : SAt W A1 G) (h2 : SAt W A2 F) (hs : SmallU (unitsS G n u) u) => (by
        have := plan_calls A1 k1 G A2 k2 F n c W h1 h2 HNG.out HNF.out (by omega) (by omega) (fun _ => by rw [hu]; exact hs)
        rwa [hu] at this : Calls Try.prog 13 #[.agg #[.slice A1 G.length k1], .agg #[.slice A2 F.length k2], .int .i64 n, .agg c.cells.toArray] W (PlanPost W (planP n c (unitsS G n u) F) (chkE n c (unitsS G n u) F))))
      have hpc := plan_calls A1 k1 G A2 k2 F n ⟨u, wa, mo, r3, r4, r5, r6, r7, r8, r9⟩ ((w3.alloc (.cells #[.slice A1 G.length k1] 30)).alloc (.cells #[.slice A2 F.length k2] 30)) hSG hSF HNG.out HNF.out (by omega) (by omega) (HSM.out F)
      simp only at hpc
      have hno := planP_no (n := n) (c := ⟨u, wa, mo, r3, r4, r5, r6, r7, r8, r9⟩) (U := unitsS G n u) (F := F)
      have hL1 := fun (wa' mo' : Int) (h1 : wa ≤ wa') (h2 : mo ≤ mo') (hE : chkE n ⟨u, wa, mo, r3, r4, r5, r6, r7, r8, r9⟩ (unitsS G n u) F = 0) => limits (c := ⟨u, wa, mo, r3, r4, r5, r6, r7, r8, r9⟩) (c' := ⟨u, wa', mo', r3, r4, r5, r6, r7, r8, r9⟩) HNG.out HNF.out hE (HSM.out F hE) rfl h1 h2
      have hL2 := fun (hE : chkE n ⟨u, wa, mo, r3, r4, r5, r6, r7, r8, r9⟩ (unitsS G n u) F = 0) => limits_none (c := ⟨u, wa, mo, r3, r4, r5, r6, r7, r8, r9⟩) (c' := ⟨u, 0, 1152921504606846976, r3, r4, r5, r6, r7, r8, r9⟩) HNG.out HNF.out hE (HSM.out F hE) rfl rfl rfl
      have hOK := ok_parts (n := n) (c := ⟨u, wa, mo, r3, r4, r5, r6, r7, r8, r9⟩) (U := unitsS G n u) (F := F)
      have hSm := HSM.out F
      simp only at hL1 hL2 hOK hSm
      generalize hPd : planP n ⟨u, wa, mo, r3, r4, r5, r6, r7, r8, r9⟩ (unitsS G n u) F = P at *
      generalize hEd : chkE n ⟨u, wa, mo, r3, r4, r5, r6, r7, r8, r9⟩ (unitsS G n u) F = E at *
      change Calls Try.prog 13 #[.agg #[.slice A1 G.length k1], .agg #[.slice A2 F.length k2], .int .i64 n, .agg #[.int .i64 u, .int .i64 wa, .int .i64 mo, .int .i64 r3, .int .i64 r4, .int .i64 r5, .int .i64 r6, .int .i64 r7, .int .i64 r8, .int .i64 r9]] ((w3.alloc (.cells #[.slice A1 G.length k1] 30)).alloc (.cells #[.slice A2 F.length k2] 30)) (PlanPost ((w3.alloc (.cells #[.slice A1 G.length k1] 30)).alloc (.cells #[.slice A2 F.length k2] 30)) P E) at hpc
      have HPC := Lib.hid hpc
      have HL1 := Lib.hid hL1
      have HL2 := Lib.hid hL2
      have HOK := Lib.hid hOK
      have HSm := Lib.hid hSm
      have HNO := Lib.hid hno
      clear hpc hno hL1 hL2 hOK hSm hPd hEd HSM HT hx3 hx4 hx24 hw2 hg2 hf2 HS2 bJ2
      go_wp2_with fail
      generalize ((w3.alloc (.cells #[.slice A1 G.length k1] 30)).alloc (.cells #[.slice A2 F.length k2] 30)) = w4 at *
      refine HPC.out.mono ?_
      rintro e w5 ⟨A5, k5, rfl, HS5, hx5⟩
      replace i0 := hx5.cell i0
      replace i1 := hx5.cell i1
      replace i2 := hx5.cell i2
      replace i3 := hx5.cell i3
      replace i4 := hx5.cell i4
      replace i5 := hx5.cell i5
      replace i6 := hx5.cell i6
      replace i7 := hx5.cell i7
      replace i8 := hx5.cell i8
      replace i9 := hx5.cell i9
      replace i10 := hx5.cell i10
      replace i11 := hx5.cell i11
      replace i12 := hx5.cell i12
      replace g0 := hx5.cell g0
      replace f0 := hx5.cell f0
      have hSG5 := hSG.ext hx5
      have hSF5 := hSF.ext hx5
      have hw5 := hw4.trans hx5
      clear HPC hx5 hw4 hg4 hf4 hSG hSF
      by_cases hE0 : E = 0
      · subst hE0
        have HL1' := Lib.hid (fun wa' mo' h1 h2 => HL1.out wa' mo' h1 h2 rfl)
        have HL2' := HL2.out rfl
        have HOK' := HOK.out rfl
        have HSm' := HSm.out rfl
        clear HL1 HL2 HOK HSm HNO
        go_wp2
        have keep : Hid (∀ w', Ext w5 w' → w'.cell? ⟨w.heap.size, 3, none⟩ = some (.int .i64 u) ∧ w'.cell? ⟨w.heap.size, 4, none⟩ = some (.int .i64 wa) ∧ w'.cell? ⟨w.heap.size, 5, none⟩ = some (.int .i64 mo) ∧ w'.cell? ⟨w.heap.size, 6, none⟩ = some (.int .i64 r3) ∧ w'.cell? ⟨w.heap.size, 7, none⟩ = some (.int .i64 r4) ∧ w'.cell? ⟨w.heap.size, 8, none⟩ = some (.int .i64 r5) ∧ w'.cell? ⟨w.heap.size, 9, none⟩ = some (.int .i64 r6) ∧ w'.cell? ⟨w.heap.size, 10, none⟩ = some (.int .i64 r7) ∧ w'.cell? ⟨w.heap.size, 11, none⟩ = some (.int .i64 r8) ∧ w'.cell? ⟨w.heap.size, 12, none⟩ = some (.int .i64 r9)) := Lib.hid fun w' hE => ⟨Ext.cell hE i3, Ext.cell hE i4, Ext.cell hE i5, Ext.cell hE i6, Ext.cell hE i7, Ext.cell hE i8, Ext.cell hE i9, Ext.cell hE i10, Ext.cell hE i11, Ext.cell hE i12⟩
        have T0 : Hid ((((w5.alloc (.cells #[.int .i64 u, .int .i64 wa, .int .i64 mo, .int .i64 r3, .int .i64 r4, .int .i64 r5, .int .i64 r6, .int .i64 r7, .int .i64 r8, .int .i64 r9] 24)).alloc (.cells #[.int .i64 u, .int .i64 wa, .int .i64 mo, .int .i64 r3, .int .i64 r4, .int .i64 r5, .int .i64 r6, .int .i64 r7, .int .i64 r8, .int .i64 r9] 24)).alloc (.cells #[.int .i64 u, .int .i64 wa, .int .i64 mo, .int .i64 r3, .int .i64 r4, .int .i64 r5, .int .i64 r6, .int .i64 r7, .int .i64 r8, .int .i64 r9] 24)).heap[w5.heap.size]? = some (.cells #[.int .i64 u, .int .i64 wa, .int .i64 mo, .int .i64 r3, .int .i64 r4, .int .i64 r5, .int .i64 r6, .int .i64 r7, .int .i64 r8, .int .i64 r9] 24 (0, 0))) := Lib.hid ((((Ext.refl _).alloc _).alloc _).block (heap_alloc_new w5 (.cells #[.int .i64 u, .int .i64 wa, .int .i64 mo, .int .i64 r3, .int .i64 r4, .int .i64 r5, .int .i64 r6, .int .i64 r7, .int .i64 r8, .int .i64 r9] 24)))
        have T1 : Hid ((((w5.alloc (.cells #[.int .i64 u, .int .i64 wa, .int .i64 mo, .int .i64 r3, .int .i64 r4, .int .i64 r5, .int .i64 r6, .int .i64 r7, .int .i64 r8, .int .i64 r9] 24)).alloc (.cells #[.int .i64 u, .int .i64 wa, .int .i64 mo, .int .i64 r3, .int .i64 r4, .int .i64 r5, .int .i64 r6, .int .i64 r7, .int .i64 r8, .int .i64 r9] 24)).alloc (.cells #[.int .i64 u, .int .i64 wa, .int .i64 mo, .int .i64 r3, .int .i64 r4, .int .i64 r5, .int .i64 r6, .int .i64 r7, .int .i64 r8, .int .i64 r9] 24)).heap[w5.heap.size + 1]? = some (.cells #[.int .i64 u, .int .i64 wa, .int .i64 mo, .int .i64 r3, .int .i64 r4, .int .i64 r5, .int .i64 r6, .int .i64 r7, .int .i64 r8, .int .i64 r9] 24 (0, 0))) := Lib.hid (by
          have h1 := ((Ext.refl _).alloc (.cells #[.int .i64 u, .int .i64 wa, .int .i64 mo, .int .i64 r3, .int .i64 r4, .int .i64 r5, .int .i64 r6, .int .i64 r7, .int .i64 r8, .int .i64 r9] 24)).block (heap_alloc_new (w5.alloc (.cells #[.int .i64 u, .int .i64 wa, .int .i64 mo, .int .i64 r3, .int .i64 r4, .int .i64 r5, .int .i64 r6, .int .i64 r7, .int .i64 r8, .int .i64 r9] 24)) (.cells #[.int .i64 u, .int .i64 wa, .int .i64 mo, .int .i64 r3, .int .i64 r4, .int .i64 r5, .int .i64 r6, .int .i64 r7, .int .i64 r8, .int .i64 r9] 24))
          have e : (w5.alloc (.cells #[.int .i64 u, .int .i64 wa, .int .i64 mo, .int .i64 r3, .int .i64 r4, .int .i64 r5, .int .i64 r6, .int .i64 r7, .int .i64 r8, .int .i64 r9] 24)).heap.size = w5.heap.size + 1 := by simp [go_sem]
          rw [e] at h1; exact h1)
        have T2 : Hid ((((w5.alloc (.cells #[.int .i64 u, .int .i64 wa, .int .i64 mo, .int .i64 r3, .int .i64 r4, .int .i64 r5, .int .i64 r6, .int .i64 r7, .int .i64 r8, .int .i64 r9] 24)).alloc (.cells #[.int .i64 u, .int .i64 wa, .int .i64 mo, .int .i64 r3, .int .i64 r4, .int .i64 r5, .int .i64 r6, .int .i64 r7, .int .i64 r8, .int .i64 r9] 24)).alloc (.cells #[.int .i64 u, .int .i64 wa, .int .i64 mo, .int .i64 r3, .int .i64 r4, .int .i64 r5, .int .i64 r6, .int .i64 r7, .int .i64 r8, .int .i64 r9] 24)).heap[w5.heap.size + 1 + 1]? = some (.cells #[.int .i64 u, .int .i64 wa, .int .i64 mo, .int .i64 r3, .int .i64 r4, .int .i64 r5, .int .i64 r6, .int .i64 r7, .int .i64 r8, .int .i64 r9] 24 (0, 0))) := Lib.hid (by
          have h1 := heap_alloc_new ((w5.alloc (.cells #[.int .i64 u, .int .i64 wa, .int .i64 mo, .int .i64 r3, .int .i64 r4, .int .i64 r5, .int .i64 r6, .int .i64 r7, .int .i64 r8, .int .i64 r9] 24)).alloc (.cells #[.int .i64 u, .int .i64 wa, .int .i64 mo, .int .i64 r3, .int .i64 r4, .int .i64 r5, .int .i64 r6, .int .i64 r7, .int .i64 r8, .int .i64 r9] 24)) (.cells #[.int .i64 u, .int .i64 wa, .int .i64 mo, .int .i64 r3, .int .i64 r4, .int .i64 r5, .int .i64 r6, .int .i64 r7, .int .i64 r8, .int .i64 r9] 24)
          have e : ((w5.alloc (.cells #[.int .i64 u, .int .i64 wa, .int .i64 mo, .int .i64 r3, .int .i64 r4, .int .i64 r5, .int .i64 r6, .int .i64 r7, .int .i64 r8, .int .i64 r9] 24)).alloc (.cells #[.int .i64 u, .int .i64 wa, .int .i64 mo, .int .i64 r3, .int .i64 r4, .int .i64 r5, .int .i64 r6, .int .i64 r7, .int .i64 r8, .int .i64 r9] 24)).heap.size = w5.heap.size + 1 + 1 := by simp [go_sem]
          rw [e] at h1; exact h1)
        have TE : Hid (Ext w5 (((w5.alloc (.cells #[.int .i64 u, .int .i64 wa, .int .i64 mo, .int .i64 r3, .int .i64 r4, .int .i64 r5, .int .i64 r6, .int .i64 r7, .int .i64 r8, .int .i64 r9] 24)).alloc (.cells #[.int .i64 u, .int .i64 wa, .int .i64 mo, .int .i64 r3, .int .i64 r4, .int .i64 r5, .int .i64 r6, .int .i64 r7, .int .i64 r8, .int .i64 r9] 24)).alloc (.cells #[.int .i64 u, .int .i64 wa, .int .i64 mo, .int .i64 r3, .int .i64 r4, .int .i64 r5, .int .i64 r6, .int .i64 r7, .int .i64 r8, .int .i64 r9] 24))) := Lib.hid ((((Ext.refl _).alloc _).alloc _).alloc _)
        go_upto_region 9 with (fail)
        go_cut [11, 12, 13] from 45 to 50 (fun v1 v2 v3 wx => TriBox w5 #[.int .i64 u, .int .i64 wa, .int .i64 mo, .int .i64 r3, .int .i64 r4, .int .i64 r5, .int .i64 r6, .int .i64 r7, .int .i64 r8, .int .i64 r9] v1 v2 v3 wx)
        case first =>
          refine wp_region_noPanic ?_
          go_region_held3 (fun w' => w'.cell? ⟨w.heap.size, 3, none⟩ = some (.int .i64 u) ∧ w'.cell? ⟨w.heap.size, 4, none⟩ = some (.int .i64 wa) ∧ w'.cell? ⟨w.heap.size, 5, none⟩ = some (.int .i64 mo) ∧ w'.cell? ⟨w.heap.size, 6, none⟩ = some (.int .i64 r3) ∧ w'.cell? ⟨w.heap.size, 7, none⟩ = some (.int .i64 r4) ∧ w'.cell? ⟨w.heap.size, 8, none⟩ = some (.int .i64 r5) ∧ w'.cell? ⟨w.heap.size, 9, none⟩ = some (.int .i64 r6) ∧ w'.cell? ⟨w.heap.size, 10, none⟩ = some (.int .i64 r7) ∧ w'.cell? ⟨w.heap.size, 11, none⟩ = some (.int .i64 r8) ∧ w'.cell? ⟨w.heap.size, 12, none⟩ = some (.int .i64 r9))
            ((refine keep.out _ ?_; (repeat' with_reducible first | exact Ext.refl _ | refine Ext.drew ?_ | refine Ext.alloc ?_ _ | refine Ext.setCell ?_ (by first | exact Nat.le_refl _ | exact Nat.le_add_right _ _ | omega) _)))
            (first | (go_at_call 9999; skip))
          all_goals refine noPanic_intro ?_
          all_goals go_wp2_with fail
          all_goals go_meet
          all_goals exact ⟨_, _, _, rfl, rfl, rfl, ⟨by omega, by omega, by omega, by omega, by omega, by omega⟩, by first | exact T0.out | exact T1.out | exact T2.out, by first | exact T0.out | exact T1.out | exact T2.out, by first | exact T0.out | exact T1.out | exact T2.out, by first | exact TE.out | exact TE.out.drew⟩
        case rest =>
          obtain ⟨ba, bb, bc, rfl, rfl, rfl, ⟨l1, l2, l3, d1, d2, d3⟩, ha, hb, hc, hEx⟩ := hcut
          clear T0 T1 T2 TE keep
          have hw6 := hw5.trans hEx
          have j2 := i2
          have j3 := i3
          have jg := g0
          have jf := f0
          replace i2 := hEx.cell i2
          replace i3 := hEx.cell i3
          replace g0 := hEx.cell g0
          replace f0 := hEx.cell f0
          have a0 : wc.cell? ⟨ba, 0, none⟩ = some (.int .i64 u) := by rw [cell_of_block ha]; rfl
          have a1 : wc.cell? ⟨ba, 1, none⟩ = some (.int .i64 wa) := by rw [cell_of_block ha]; rfl
          have a2 : wc.cell? ⟨ba, 2, none⟩ = some (.int .i64 mo) := by rw [cell_of_block ha]; rfl
          have a3 : wc.cell? ⟨ba, 3, none⟩ = some (.int .i64 r3) := by rw [cell_of_block ha]; rfl
          have a4 : wc.cell? ⟨ba, 4, none⟩ = some (.int .i64 r4) := by rw [cell_of_block ha]; rfl
          have a5 : wc.cell? ⟨ba, 5, none⟩ = some (.int .i64 r5) := by rw [cell_of_block ha]; rfl
          have a6 : wc.cell? ⟨ba, 6, none⟩ = some (.int .i64 r6) := by rw [cell_of_block ha]; rfl
          have a7 : wc.cell? ⟨ba, 7, none⟩ = some (.int .i64 r7) := by rw [cell_of_block ha]; rfl
          have a8 : wc.cell? ⟨ba, 8, none⟩ = some (.int .i64 r8) := by rw [cell_of_block ha]; rfl
          have a9 : wc.cell? ⟨ba, 9, none⟩ = some (.int .i64 r9) := by rw [cell_of_block ha]; rfl
          have b0 : wc.cell? ⟨bb, 0, none⟩ = some (.int .i64 u) := by rw [cell_of_block hb]; rfl
          have b1 : wc.cell? ⟨bb, 1, none⟩ = some (.int .i64 wa) := by rw [cell_of_block hb]; rfl
          have b2 : wc.cell? ⟨bb, 2, none⟩ = some (.int .i64 mo) := by rw [cell_of_block hb]; rfl
          have b3 : wc.cell? ⟨bb, 3, none⟩ = some (.int .i64 r3) := by rw [cell_of_block hb]; rfl
          have b4 : wc.cell? ⟨bb, 4, none⟩ = some (.int .i64 r4) := by rw [cell_of_block hb]; rfl
          have b5 : wc.cell? ⟨bb, 5, none⟩ = some (.int .i64 r5) := by rw [cell_of_block hb]; rfl
          have b6 : wc.cell? ⟨bb, 6, none⟩ = some (.int .i64 r6) := by rw [cell_of_block hb]; rfl
          have b7 : wc.cell? ⟨bb, 7, none⟩ = some (.int .i64 r7) := by rw [cell_of_block hb]; rfl
          have b8 : wc.cell? ⟨bb, 8, none⟩ = some (.int .i64 r8) := by rw [cell_of_block hb]; rfl
          have b9 : wc.cell? ⟨bb, 9, none⟩ = some (.int .i64 r9) := by rw [cell_of_block hb]; rfl
          have c0 : wc.cell? ⟨bc, 0, none⟩ = some (.int .i64 u) := by rw [cell_of_block hc]; rfl
          have c1 : wc.cell? ⟨bc, 1, none⟩ = some (.int .i64 wa) := by rw [cell_of_block hc]; rfl
          have c2 : wc.cell? ⟨bc, 2, none⟩ = some (.int .i64 mo) := by rw [cell_of_block hc]; rfl
          have c3 : wc.cell? ⟨bc, 3, none⟩ = some (.int .i64 r3) := by rw [cell_of_block hc]; rfl
          have c4 : wc.cell? ⟨bc, 4, none⟩ = some (.int .i64 r4) := by rw [cell_of_block hc]; rfl
          have c5 : wc.cell? ⟨bc, 5, none⟩ = some (.int .i64 r5) := by rw [cell_of_block hc]; rfl
          have c6 : wc.cell? ⟨bc, 6, none⟩ = some (.int .i64 r6) := by rw [cell_of_block hc]; rfl
          have c7 : wc.cell? ⟨bc, 7, none⟩ = some (.int .i64 r7) := by rw [cell_of_block hc]; rfl
          have c8 : wc.cell? ⟨bc, 8, none⟩ = some (.int .i64 r8) := by rw [cell_of_block hc]; rfl
          have c9 : wc.cell? ⟨bc, 9, none⟩ = some (.int .i64 r9) := by rw [cell_of_block hc]; rfl
          have z1 := frozen_of_block ha 1
          have z2 := frozen_of_block hb 2
          have z3 := frozen_of_block hc 1
          have z4 := frozen_of_block hc 2
          have s4' : mo ≤ u * 300 := s4
          have s5' : wa ≤ 1099511627776 := s5
          obtain ⟨k1, k2, k3⟩ := HOK'
          have k4 : unitB u = true := by simp [measB] at k1; exact k1.1
          obtain ⟨k5, k6⟩ := unit_bound k4
          have k7 : 0 ≤ wa := k2
          have k8 : u ≤ mo := k3
          have k9 : mo ≤ 314572800 := by omega
          have k10 : wrap64 (mo + y) = mo + y := by simp only [wrap64] <;> omega
          have hxW : Ext w5 ((((wc.setCell ⟨ba, 1, none⟩ (.int .i64 (wa + x))).setCell ⟨bb, 2, none⟩ (.int .i64 (mo + y))).setCell ⟨bc, 1, none⟩ (.int .i64 0)).setCell ⟨bc, 2, none⟩ (.int .i64 1152921504606846976)) := (((hEx.setCell (p := ⟨ba, 1, none⟩) l1 _).setCell (p := ⟨bb, 2, none⟩) l2 _).setCell (p := ⟨bc, 1, none⟩) l3 _).setCell (p := ⟨bc, 2, none⟩) l3 _
          obtain ⟨Ha, Hb, Hc⟩ := tri_set (x1 := wa + x) (x2 := mo + y) ha hb hc d1 d2 d3
          clear s4 s5 k1 k2 k3
          go_upto_region 13 with (fail)
          try rw [k10]
          have hxwd := hxW
          clear a0 a1 a2 a3 a4 a5 a6 a7 a8 a9 b0 b1 b2 b3 b4 b5 b6 b7 b8 b9 c0 c1 c2 c3 c4 c5 c6 c7 c8 c9 z1 z2 z3 z4
          clear i2 i3 g0 f0
          have i2 := hxW.cell j2
          have i3 := hxW.cell j3
          have g0 := hxW.cell jg
          have f0 := hxW.cell jf
          obtain ⟨e1, n1⟩ := HL1'.out (wa + x) mo (by omega) (Int.le_refl _)
          obtain ⟨e2, n2⟩ := HL1'.out wa (mo + y) (Int.le_refl _) (by omega)
          obtain ⟨e3, n3⟩ := HL2'
          have hUL := units_len HNG.out n u
          have HUN : Hid (Norm (unitsS G n u)) := Lib.hid (units_norm _ _ _)
          have HUC := Lib.hid (fun W (hW : Ext w5 W) => unitsC_calls A1 k1 G n u W (hSG5.ext hW) HNG.out (by omega))
          have C1 : Hid (∀ W, Ext w5 W → Calls Try.prog 13 #[.agg #[.slice A1 G.length k1], .agg #[.slice A2 F.length k2], .int .i64 n, .agg #[.int .i64 u, .int .i64 (wa + x), .int .i64 mo, .int .i64 r3, .int .i64 r4, .int .i64 r5, .int .i64 r6, .int .i64 r7, .int .i64 r8, .int .i64 r9]] W (PlanPost W (planP n ⟨u, (wa + x), mo, r3, r4, r5, r6, r7, r8, r9⟩ (unitsS G n u) F) 0)) := Lib.hid fun W hW => (by
            have h := HPX.out W ⟨u, (wa + x), mo, r3, r4, r5, r6, r7, r8, r9⟩ rfl (hSG5.ext hW) (hSF5.ext hW) HSm'
            rw [e1] at h; exact h)
          have C2 : Hid (∀ W, Ext w5 W → Calls Try.prog 13 #[.agg #[.slice A1 G.length k1], .agg #[.slice A2 F.length k2], .int .i64 n, .agg #[.int .i64 u, .int .i64 wa, .int .i64 (mo + y), .int .i64 r3, .int .i64 r4, .int .i64 r5, .int .i64 r6, .int .i64 r7, .int .i64 r8, .int .i64 r9]] W (PlanPost W (planP n ⟨u, wa, (mo + y), r3, r4, r5, r6, r7, r8, r9⟩ (unitsS G n u) F) 0)) := Lib.hid fun W hW => (by
            have h := HPX.out W ⟨u, wa, (mo + y), r3, r4, r5, r6, r7, r8, r9⟩ rfl (hSG5.ext hW) (hSF5.ext hW) HSm'
            rw [e2] at h; exact h)
          have C3 : Hid (∀ W, Ext w5 W → Calls Try.prog 13 #[.agg #[.slice A1 G.length k1], .agg #[.slice A2 F.length k2], .int .i64 n, .agg #[.int .i64 u, .int .i64 0, .int .i64 1152921504606846976, .int .i64 r3, .int .i64 r4, .int .i64 r5, .int .i64 r6, .int .i64 r7, .int .i64 r8, .int .i64 r9]] W (PlanPost W (unitsS G n u) 0)) := Lib.hid fun W hW => (by
            have h := HPX.out W ⟨u, 0, 1152921504606846976, r3, r4, r5, r6, r7, r8, r9⟩ rfl (hSG5.ext hW) (hSF5.ext hW) HSm'
            rw [e3, n3] at h; exact h)
          have hl1 : (planP n ⟨u, (wa + x), mo, r3, r4, r5, r6, r7, r8, r9⟩ (unitsS G n u) F).length ≤ 101 := planP_len _ _ _ _
          have hl2 : (planP n ⟨u, wa, (mo + y), r3, r4, r5, r6, r7, r8, r9⟩ (unitsS G n u) F).length ≤ 101 := planP_len _ _ _ _
          clear e1 e2 e3 n3 HPX HL1' HSm' hl1 hl2
          generalize planP n ⟨u, (wa + x), mo, r3, r4, r5, r6, r7, r8, r9⟩ (unitsS G n u) F = P1 at *
          generalize planP n ⟨u, wa, (mo + y), r3, r4, r5, r6, r7, r8, r9⟩ (unitsS G n u) F = P2 at *
          generalize unitsS G n u = U at *
          generalize ((((wc.setCell ⟨ba, 1, none⟩ (.int .i64 (wa + x))).setCell ⟨bb, 2, none⟩ (.int .i64 (mo + y))).setCell ⟨bc, 1, none⟩ (.int .i64 0)).setCell ⟨bc, 2, none⟩ (.int .i64 1152921504606846976)) = wd at *
          have hwd := hw5.trans hxW
          have p0 : wd.cell? ⟨ba, 0, none⟩ = some (.int .i64 u) := by rw [cell_of_block Ha]; rfl
          have p1 : wd.cell? ⟨ba, 1, none⟩ = some (.int .i64 (wa + x)) := by rw [cell_of_block Ha]; rfl
          have p2 : wd.cell? ⟨ba, 2, none⟩ = some (.int .i64 mo) := by rw [cell_of_block Ha]; rfl
          have p3 : wd.cell? ⟨ba, 3, none⟩ = some (.int .i64 r3) := by rw [cell_of_block Ha]; rfl
          have p4 : wd.cell? ⟨ba, 4, none⟩ = some (.int .i64 r4) := by rw [cell_of_block Ha]; rfl
          have p5 : wd.cell? ⟨ba, 5, none⟩ = some (.int .i64 r5) := by rw [cell_of_block Ha]; rfl
          have p6 : wd.cell? ⟨ba, 6, none⟩ = some (.int .i64 r6) := by rw [cell_of_block Ha]; rfl
          have p7 : wd.cell? ⟨ba, 7, none⟩ = some (.int .i64 r7) := by rw [cell_of_block Ha]; rfl
          have p8 : wd.cell? ⟨ba, 8, none⟩ = some (.int .i64 r8) := by rw [cell_of_block Ha]; rfl
          have p9 : wd.cell? ⟨ba, 9, none⟩ = some (.int .i64 r9) := by rw [cell_of_block Ha]; rfl
          have q0 : wd.cell? ⟨bb, 0, none⟩ = some (.int .i64 u) := by rw [cell_of_block Hb]; rfl
          have q1 : wd.cell? ⟨bb, 1, none⟩ = some (.int .i64 wa) := by rw [cell_of_block Hb]; rfl
          have q2 : wd.cell? ⟨bb, 2, none⟩ = some (.int .i64 (mo + y)) := by rw [cell_of_block Hb]; rfl
          have q3 : wd.cell? ⟨bb, 3, none⟩ = some (.int .i64 r3) := by rw [cell_of_block Hb]; rfl
          have q4 : wd.cell? ⟨bb, 4, none⟩ = some (.int .i64 r4) := by rw [cell_of_block Hb]; rfl
          have q5 : wd.cell? ⟨bb, 5, none⟩ = some (.int .i64 r5) := by rw [cell_of_block Hb]; rfl
          have q6 : wd.cell? ⟨bb, 6, none⟩ = some (.int .i64 r6) := by rw [cell_of_block Hb]; rfl
          have q7 : wd.cell? ⟨bb, 7, none⟩ = some (.int .i64 r7) := by rw [cell_of_block Hb]; rfl
          have q8 : wd.cell? ⟨bb, 8, none⟩ = some (.int .i64 r8) := by rw [cell_of_block Hb]; rfl
          have q9 : wd.cell? ⟨bb, 9, none⟩ = some (.int .i64 r9) := by rw [cell_of_block Hb]; rfl
          have r0 : wd.cell? ⟨bc, 0, none⟩ = some (.int .i64 u) := by rw [cell_of_block Hc]; rfl
          have r1 : wd.cell? ⟨bc, 1, none⟩ = some (.int .i64 0) := by rw [cell_of_block Hc]; rfl
          have r2 : wd.cell? ⟨bc, 2, none⟩ = some (.int .i64 1152921504606846976) := by rw [cell_of_block Hc]; rfl
          have r3 : wd.cell? ⟨bc, 3, none⟩ = some (.int .i64 r3) := by rw [cell_of_block Hc]; rfl
          have r4 : wd.cell? ⟨bc, 4, none⟩ = some (.int .i64 r4) := by rw [cell_of_block Hc]; rfl
          have r5 : wd.cell? ⟨bc, 5, none⟩ = some (.int .i64 r5) := by rw [cell_of_block Hc]; rfl
          have r6 : wd.cell? ⟨bc, 6, none⟩ = some (.int .i64 r6) := by rw [cell_of_block Hc]; rfl
          have r7 : wd.cell? ⟨bc, 7, none⟩ = some (.int .i64 r7) := by rw [cell_of_block Hc]; rfl
          have r8 : wd.cell? ⟨bc, 8, none⟩ = some (.int .i64 r8) := by rw [cell_of_block Hc]; rfl
          have r9 : wd.cell? ⟨bc, 9, none⟩ = some (.int .i64 r9) := by rw [cell_of_block Hc]; rfl
          go_wp2_with fail
          refine (C1.out _ hxW).mono ?_
          rintro e w6 ⟨A6, k6, rfl, HS6, hx6⟩
          have hd6 := hxW.trans hx6
          replace i2 := hx6.cell i2
          replace i3 := hx6.cell i3
          replace g0 := hx6.cell g0
          replace f0 := hx6.cell f0
          replace q0 := hx6.cell q0
          replace q1 := hx6.cell q1
          replace q2 := hx6.cell q2
          replace q3 := hx6.cell q3
          replace q4 := hx6.cell q4
          replace q5 := hx6.cell q5
          replace q6 := hx6.cell q6
          replace q7 := hx6.cell q7
          replace q8 := hx6.cell q8
          replace q9 := hx6.cell q9
          replace r0 := hx6.cell r0
          replace r1 := hx6.cell r1
          replace r2 := hx6.cell r2
          replace r3 := hx6.cell r3
          replace r4 := hx6.cell r4
          replace r5 := hx6.cell r5
          replace r6 := hx6.cell r6
          replace r7 := hx6.cell r7
          replace r8 := hx6.cell r8
          replace r9 := hx6.cell r9
          go_wp2_with fail
          refine (C2.out _ hd6).mono ?_
          rintro e w7 ⟨A7, k7, rfl, HS7, hx7⟩
          have hd7 := hd6.trans hx7
          replace i2 := hx7.cell i2
          replace i3 := hx7.cell i3
          replace g0 := hx7.cell g0
          replace f0 := hx7.cell f0
          replace r0 := hx7.cell r0
          replace r1 := hx7.cell r1
          replace r2 := hx7.cell r2
          replace r3 := hx7.cell r3
          replace r4 := hx7.cell r4
          replace r5 := hx7.cell r5
          replace r6 := hx7.cell r6
          replace r7 := hx7.cell r7
          replace r8 := hx7.cell r8
          replace r9 := hx7.cell r9
          go_wp2_with fail
          refine (C3.out _ hd7).mono ?_
          rintro e w8 ⟨A8, k8, rfl, HS8, hx8⟩
          have hd8 := hd7.trans hx8
          replace i2 := hx8.cell i2
          replace i3 := hx8.cell i3
          replace g0 := hx8.cell g0
          replace f0 := hx8.cell f0
          have hn1 : (P1.length : Int) ≤ P.length := by omega
          have hn2 : (P2.length : Int) ≤ P.length := by omega
          have hz1 : decide ((P1.length : Int) ≤ P.length) = true := decide_eq_true hn1
          have hz2 : decide ((P2.length : Int) ≤ P.length) = true := decide_eq_true hn2
          clear C1 C2 C3
          go_wp2_with fail
          refine (HUC.out w8 hd8).mono ?_
          rintro e w9 ⟨⟨A9, k9', rfl, HS9, _, hx9⟩, hl9⟩
          go_wp2_with fail
          refine (spans_calls A9 k9' U w9 HS9.out (by omega)).mono ?_
          rintro e w10 ⟨v10, rfl, hown10, hx10⟩
          obtain ⟨A10, k10', rfl, _⟩ := own_shape hown10
          have HS10 : Hid (SAt w10 A10 U) := Lib.hid (sat_of_own hown10)
          have HS8' : Hid (SAt w10 A8 U) := Lib.hid (HS8.out.ext (hx9.trans hx10))
          clear hown10
          go_wp2_with fail
          refine (list_calls A8 A10 k8 k10' U U w10 HS8'.out HS10.out (by omega) (by omega)).mono ?_
          rintro e w11 ⟨rfl, hx11⟩
          rw [show decide (U = U) = true from decide_eq_true rfl]
          go_wp2
          go_ret
          exact ⟨rfl, (hw5.trans hd8).trans (hx9.trans (hx10.trans hx11))⟩
      · have hP : P = [] := HNO.out hE0
        subst hP
        clear HL1 HL2 HOK HSm HNO
        go_wp2
        go_ret
        exact ⟨by simp, hw5⟩
end Go.Proofs.Ytdcdnnbijjcfmaa
