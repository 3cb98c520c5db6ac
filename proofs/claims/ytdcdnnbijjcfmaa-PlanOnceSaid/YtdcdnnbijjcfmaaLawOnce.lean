/- The law PlanOnce: it returns true. -/
import Derived.Test.YtdcdnnbijjcfmaaOnc
import Derived.Test.YtdcdnnbijjcfmaaLawTells
namespace Go.Proofs.Ytdcdnnbijjcfmaa
open Go.RowKit

set_option maxHeartbeats 8000000 in
set_option maxRecDepth 100000 in
theorem lawOnce_calls (j : Jb) (w : World) (hg : SAt w j.g.A j.g.l) (hf : SAt w j.f.A j.f.l) (hlg : j.g.l.length ≤ 9223372036854775807) (hlf : j.f.l.length ≤ 9223372036854775807) :
    Calls Try.prog 7 #[.agg j.cells.toArray] w fun e w' => e = .returned (.bool true) ∧ Ext w w' := by
  have HFI := Lib.hid (fun W (hW : Ext w W) => fine_calls j 100 W (hg.ext hW) (hf.ext hW) hlg hlf (by omega) (by omega))
  have HSE := Lib.hid (fun W (hW : Ext w W) (h1 : j.g.l.length ≤ 1000) (h2 : j.f.l.length ≤ 1000) => sets_calls j W (hg.ext hW) (hf.ext hW) h1 h2)
  have HFJ : Hid (FineJ j 100 → SmallL j.g.l j.c.u 100 ∧ SmallL j.f.l j.c.u (4 * 100) ∧ (j.n ≤ j.c.u * 100 ∨ 1099511627776 < j.n) ∧ j.c.mo ≤ j.c.u * 300 ∧ j.c.wa ≤ 1099511627776) := Lib.hid id
  obtain ⟨⟨Ag, cg, lg⟩, ⟨Af, cf, lf⟩, n, ⟨u, wa, mo, r3, r4, r5, r6, r7, r8, r9⟩⟩ := j
  simp only at hg hf hlg hlf HFJ HSE
  change Hid (∀ W, Ext w W → Calls Try.prog 11 #[.agg #[.slice Ag lg.length cg, .slice Af lf.length cf, .int .i64 n, .int .i64 u, .int .i64 wa, .int .i64 mo, .int .i64 r3, .int .i64 r4, .int .i64 r5, .int .i64 r6, .int .i64 r7, .int .i64 r8, .int .i64 r9], .int .i64 100] W (SmallPost (FineJ ⟨⟨Ag, cg, lg⟩, ⟨Af, cf, lf⟩, n, ⟨u, wa, mo, r3, r4, r5, r6, r7, r8, r9⟩⟩ 100) W)) at HFI
  change Hid (∀ W, Ext w W → lg.length ≤ 1000 → lf.length ≤ 1000 → Calls Try.prog 12 #[.agg #[.slice Ag lg.length cg, .slice Af lf.length cf, .int .i64 n, .int .i64 u, .int .i64 wa, .int .i64 mo, .int .i64 r3, .int .i64 r4, .int .i64 r5, .int .i64 r6, .int .i64 r7, .int .i64 r8, .int .i64 r9]] W (SetsPost W (ofS lg) (ofS lf))) at HSE
  show Calls Try.prog 7 #[.agg #[.slice Ag lg.length cg, .slice Af lf.length cf, .int .i64 n, .int .i64 u, .int .i64 wa, .int .i64 mo, .int .i64 r3, .int .i64 r4, .int .i64 r5, .int .i64 r6, .int .i64 r7, .int .i64 r8, .int .i64 r9]] w fun e w' => e = .returned (.bool true) ∧ Ext w w'
  generalize FineJ ⟨⟨Ag, cg, lg⟩, ⟨Af, cf, lf⟩, n, ⟨u, wa, mo, r3, r4, r5, r6, r7, r8, r9⟩⟩ 100 = Q at *
  have hx0 : Ext w (w.alloc (.cells #[.slice Ag lg.length cg, .slice Af lf.length cf, .int .i64 n, .int .i64 u, .int .i64 wa, .int .i64 mo, .int .i64 r3, .int .i64 r4, .int .i64 r5, .int .i64 r6, .int .i64 r7, .int .i64 r8, .int .i64 r9] 26)) := (Ext.refl w).alloc _
  have bJ := heap_alloc_new w (.cells #[.slice Ag lg.length cg, .slice Af lf.length cf, .int .i64 n, .int .i64 u, .int .i64 wa, .int .i64 mo, .int .i64 r3, .int .i64 r4, .int .i64 r5, .int .i64 r6, .int .i64 r7, .int .i64 r8, .int .i64 r9] 26)
  go_enter Try.func7, Try.ntmps7
  go_wp2_with fail
  generalize (w.alloc (.cells #[.slice Ag lg.length cg, .slice Af lf.length cf, .int .i64 n, .int .i64 u, .int .i64 wa, .int .i64 mo, .int .i64 r3, .int .i64 r4, .int .i64 r5, .int .i64 r6, .int .i64 r7, .int .i64 r8, .int .i64 r9] 26)) = w0 at *
  refine (alive_calls _).mono ?_
  rintro e w1 ⟨rfl, hx1⟩
  have hw1 := hx0.trans hx1
  have bJ1 := hx1.block bJ
  have i0 : w1.cell? ⟨w.heap.size, 0, none⟩ = some (.slice Ag lg.length cg) := by rw [cell_of_block bJ1]; rfl
  have i1 : w1.cell? ⟨w.heap.size, 1, none⟩ = some (.slice Af lf.length cf) := by rw [cell_of_block bJ1]; rfl
  have i2 : w1.cell? ⟨w.heap.size, 2, none⟩ = some (.int .i64 n) := by rw [cell_of_block bJ1]; rfl
  have i3 : w1.cell? ⟨w.heap.size, 3, none⟩ = some (.int .i64 u) := by rw [cell_of_block bJ1]; rfl
  have i4 : w1.cell? ⟨w.heap.size, 4, none⟩ = some (.int .i64 wa) := by rw [cell_of_block bJ1]; rfl
  have i5 : w1.cell? ⟨w.heap.size, 5, none⟩ = some (.int .i64 mo) := by rw [cell_of_block bJ1]; rfl
  have i6 : w1.cell? ⟨w.heap.size, 6, none⟩ = some (.int .i64 r3) := by rw [cell_of_block bJ1]; rfl
  have i7 : w1.cell? ⟨w.heap.size, 7, none⟩ = some (.int .i64 r4) := by rw [cell_of_block bJ1]; rfl
  have i8 : w1.cell? ⟨w.heap.size, 8, none⟩ = some (.int .i64 r5) := by rw [cell_of_block bJ1]; rfl
  have i9 : w1.cell? ⟨w.heap.size, 9, none⟩ = some (.int .i64 r6) := by rw [cell_of_block bJ1]; rfl
  have i10 : w1.cell? ⟨w.heap.size, 10, none⟩ = some (.int .i64 r7) := by rw [cell_of_block bJ1]; rfl
  have i11 : w1.cell? ⟨w.heap.size, 11, none⟩ = some (.int .i64 r8) := by rw [cell_of_block bJ1]; rfl
  have i12 : w1.cell? ⟨w.heap.size, 12, none⟩ = some (.int .i64 r9) := by rw [cell_of_block bJ1]; rfl
  have HF1 := Lib.hid (HFI.out w1 hw1)
  clear hx0 hx1 bJ HFI
  go_wp2_with fail
  refine HF1.out.mono ?_
  rintro e w2 ⟨fb, rfl, hfb, hx2⟩
  have HFB := Lib.hid hfb
  have hw2 := hw1.trans hx2
  have bJ2 := hx2.block bJ1
  replace i0 := hx2.cell i0
  replace i1 := hx2.cell i1
  replace i2 := hx2.cell i2
  replace i3 := hx2.cell i3
  replace i4 := hx2.cell i4
  replace i5 := hx2.cell i5
  replace i6 := hx2.cell i6
  replace i7 := hx2.cell i7
  replace i8 := hx2.cell i8
  replace i9 := hx2.cell i9
  replace i10 := hx2.cell i10
  replace i11 := hx2.cell i11
  replace i12 := hx2.cell i12
  clear HF1 hfb bJ1 hx2 hw1
  cases fb
  · go_wp2
    go_ret
    exact ⟨rfl, hw2⟩
  · obtain ⟨s1, s2, s3, _, _⟩ := HFJ.out (HFB.out (by simp))
    · have hg12 := s1.2.1
      have hf12 := s2.2.1
      have hg2 := hg.ext hw2
      have hf2 := hf.ext hw2
      have HS2 := Lib.hid (HSE.out w2 hw2 (by omega) (by omega))
      have HSM := Lib.hid (fun F (h : chkE n ⟨u, wa, mo, r3, r4, r5, r6, r7, r8, r9⟩ (unitsS (ofS lg) n u) F = 0) => (small_units (c := ⟨u, wa, mo, r3, r4, r5, r6, r7, r8, r9⟩) s1 (by omega) s3 h))
      clear HSE hg hf HFJ HFB s1 s2 s3
      go_wp2_with fail
      refine HS2.out.mono ?_
      rintro e w3 ⟨A1, k1, A2, k2, rfl, HT, hx3⟩
      have hgl := of_length lg
      have hfl := of_length lf
      have HNG : Hid (Norm (ofS lg)) := Lib.hid (norm_of lg)
      have HNF : Hid (Norm (ofS lf)) := Lib.hid (norm_of lf)
      have HRG := Lib.hid (fun W (hW : SAt W Ag lg) => refOf_calls Ag cg lg W hW (by omega))
      have HRF := Lib.hid (fun W (hW : SAt W Af lf) => refOf_calls Af cf lf W hW (by omega))
      generalize ofS lg = G at *
      generalize ofS lf = F at *
      have hx4 : Ext w3 ((w3.alloc (.cells #[.slice A1 G.length k1] 30)).alloc (.cells #[.slice A2 F.length k2] 30)) := ((Ext.refl w3).alloc _).alloc _
      have g0 : ((w3.alloc (.cells #[.slice A1 G.length k1] 30)).alloc (.cells #[.slice A2 F.length k2] 30)).cell? ⟨w3.heap.size, 0, none⟩ = some (.slice A1 G.length k1) := by simp [go_sem]
      have f0 : ((w3.alloc (.cells #[.slice A1 G.length k1] 30)).alloc (.cells #[.slice A2 F.length k2] 30)).cell? ⟨w3.heap.size + 1, 0, none⟩ = some (.slice A2 F.length k2) := by simp [go_sem]
      have hx24 := hx3.trans hx4
      replace i0 := hx24.cell i0
      replace i1 := hx24.cell i1
      replace i2 := hx24.cell i2
      replace i3 := hx24.cell i3
      replace i4 := hx24.cell i4
      replace i5 := hx24.cell i5
      replace i6 := hx24.cell i6
      replace i7 := hx24.cell i7
      replace i8 := hx24.cell i8
      replace i9 := hx24.cell i9
      replace i10 := hx24.cell i10
      replace i11 := hx24.cell i11
      replace i12 := hx24.cell i12
      have hSG := HT.out.1.ext hx4
      have hSF := HT.out.2.ext hx4
      have hg4 := hg2.ext hx24
      have hf4 := hf2.ext hx24
      have hw4 := hw2.trans hx24
      have hpc := plan_calls A1 k1 G A2 k2 F n ⟨u, wa, mo, r3, r4, r5, r6, r7, r8, r9⟩ ((w3.alloc (.cells #[.slice A1 G.length k1] 30)).alloc (.cells #[.slice A2 F.length k2] 30)) hSG hSF HNG.out HNF.out (by omega) (by omega) (HSM.out F)
      have hon := fun hE => once_all (n := n) (c := ⟨u, wa, mo, r3, r4, r5, r6, r7, r8, r9⟩) HNG.out HNF.out hE (HSM.out F hE) rfl
      have hul := units_len HNG.out n u
      have hun := units_norm G n u
      have huc := fun W A c (h : SAt W A G) => unitsC_calls A c G n u W h HNG.out (by omega)
      simp only at hpc hon
      have HSG := Lib.hid hSG
      have HSF := Lib.hid hSF
      generalize planP n ⟨u, wa, mo, r3, r4, r5, r6, r7, r8, r9⟩ (unitsS G n u) F = P at *
      generalize chkE n ⟨u, wa, mo, r3, r4, r5, r6, r7, r8, r9⟩ (unitsS G n u) F = E at *
      generalize unitsS G n u = U at *
      change Calls Try.prog 13 #[.agg #[.slice A1 G.length k1], .agg #[.slice A2 F.length k2], .int .i64 n, .agg #[.int .i64 u, .int .i64 wa, .int .i64 mo, .int .i64 r3, .int .i64 r4, .int .i64 r5, .int .i64 r6, .int .i64 r7, .int .i64 r8, .int .i64 r9]] ((w3.alloc (.cells #[.slice A1 G.length k1] 30)).alloc (.cells #[.slice A2 F.length k2] 30)) (PlanPost ((w3.alloc (.cells #[.slice A1 G.length k1] 30)).alloc (.cells #[.slice A2 F.length k2] 30)) P E) at hpc
      have HON := Lib.hid hon
      have HUC := Lib.hid huc
      have HUN := Lib.hid hun
      have HPC := Lib.hid hpc
      clear hpc hon huc hun HSM HRG HRF hSG hSF HT hx3 hx4 hx24 hw2 hg2 hf2 HS2 bJ2
      go_wp2_with fail
      generalize ((w3.alloc (.cells #[.slice A1 G.length k1] 30)).alloc (.cells #[.slice A2 F.length k2] 30)) = w4 at *
      refine HPC.out.mono ?_
      rintro e w5 ⟨A5, k5, rfl, HS5, hx5⟩
      replace i2 := hx5.cell i2
      replace i3 := hx5.cell i3
      replace i4 := hx5.cell i4
      replace g0 := hx5.cell g0
      replace f0 := hx5.cell f0
      replace HSG := Lib.hid (HSG.out.ext hx5)
      replace HSF := Lib.hid (HSF.out.ext hx5)
      have hw5 := hw4.trans hx5
      clear HPC hx5 hw4 hg4 hf4 i0 i1 i5 i6 i7 i8 i9 i10 i11 i12
      by_cases hE0 : E = 0
      rotate_left
      · have hEb : decide (E = 0) = false := decide_eq_false hE0
        have hEb2 : (E == 0) = false := beq_eq_false_iff_ne.2 hE0
        go_wp2
        go_ret
        exact ⟨rfl, hw5⟩
      obtain ⟨hap, hPL, hpw, hl1, hl2⟩ := HON.out hE0
      obtain ⟨V, hV⟩ : ∃ V : Nat → List Sp, ∀ q, uniS (P.take q) = V q := ⟨_, fun _ => rfl⟩
      obtain ⟨B, hB⟩ : ∃ B : Nat → Int, ∀ q, bytS (P.take q) = B q := ⟨_, fun _ => rfl⟩
      have HV0 : Hid (V 0 = []) := Lib.hid (by rw [← hV]; rfl)
      have HB0 : Hid (B 0 = 0) := Lib.hid (by rw [← hB]; rfl)
      have HVN : Hid (∀ q, Norm (V q) ∧ (V q).length ≤ 101) := Lib.hid fun q => by
        rw [← hV]
        have h1 := uni_len (P.take q)
        have h2 : (P.take q).length ≤ P.length := by rw [List.length_take]; omega
        exact ⟨uni_norm _, by omega⟩
      have HBB : Hid (∀ q, 0 ≤ B q ∧ B q ≤ 4611686018427387904) := Lib.hid fun q => by rw [← hB]; exact byt_bound _ (apart_take hap q)
      have HST : Hid (∀ q (hq : q < P.length), V (q + 1) = orS (V q) (ofS [P[q]]) ∧ B (q + 1) = (if P[q].t < 4611686018427387904 then B q + (P[q].t - P[q].f) else B q) ∧ lenS (andS (V q) (ofS [P[q]])) = 0 ∧ wasteS P[q] U ≤ wa ∧ P[q].ok) := Lib.hid fun q hq => by
        rw [← hV, ← hV, ← hB, ← hB, List.take_succ_eq_append_getElem hq, uni_snoc, byt_snoc]
        exact ⟨rfl, rfl, once_step hap hq, hpw _ (List.getElem_mem hq), hap.1 _ (List.getElem_mem hq)⟩
      have hve : V P.length = uniS P := by rw [← hV, List.take_length]
      have hbe : B P.length = bytS P := by rw [← hB, List.take_length]
      have hol := once_len hap
      rw [← hve] at hl1 hl2 hol
      rw [← hbe] at hol
      have HEN : Hid (lenS (lessS (V P.length) F) = 0 ∧ lenS (lessS (andS G (boxS n)) (V P.length)) = 0 ∧ (lenS (V P.length) = 4611686018427387904 ∨ lenS (V P.length) = B P.length)) := Lib.hid ⟨hl1, hl2, hol⟩
      subst hE0
      clear hap hpw hl1 hl2 hol hve hbe hV hB HON
      go_wp2
      have hxa : Ext w5 (w5.alloc (.cells #[.slice none 0 0] 30)) := (Ext.refl w5).alloc _
      have bA : (w5.alloc (.cells #[.slice none 0 0] 30)).heap[w5.heap.size]? = some (.cells #[.slice none 0 0] 30 (0, 0)) := heap_alloc_new w5 _
      have hzA : (w5.alloc (.cells #[.slice none 0 0] 30)).heap.size = w5.heap.size + 1 := World.size_alloc _ _
      generalize (w5.alloc (.cells #[.slice none 0 0] 30)) = wa5 at *
      obtain ⟨ab, hab⟩ : ∃ ab, w5.heap.size = ab := ⟨_, rfl⟩
      rw [hab] at bA hzA ⊢
      have HAB := Lib.hid hab
      clear hab
      go_loopw [8, 37] (fun v i wr => ∃ (q : Nat) (AV : Option Addr) (cv : Nat), q ≤ P.length ∧ i = .int .i64 q ∧ v = .int .i64 (B q) ∧ wr.heap[ab]? = some (.cells #[.slice AV (V q).length cv] 30 (0, 0)) ∧ Hid (SAt wr AV (V q)) ∧ Hid (∀ b o, AV = some ⟨b, o, none⟩ → ab < b) ∧ Ext w5 wr ∧ ab < wr.heap.size) (fun _ i _ => P.length - (intOf i).toNat)
      case atStart => exact ⟨0, none, 0, Nat.zero_le _, rfl, by rw [HB0.out], by rw [HV0.out]; exact bA, Lib.hid (by rw [HV0.out]; exact SAt.nil _ _), Lib.hid (fun b o h => by cases h), hxa, by omega⟩
      case round =>
        obtain ⟨q, AV, cv, hq, rfl, rfl, bV, HSV, HNV, hx, hza⟩ := hrel
        have v0 : wr.cell? ⟨ab, 0, none⟩ = some (.slice AV (V q).length cv) := by rw [cell_of_block bV]; rfl
        have vf : wr.frozen? ⟨ab, 0, none⟩ = false := frozen_of_block bV 0
        obtain ⟨hvn, hvl⟩ := HVN.out q
        by_cases hlt : q < P.length
        · obtain ⟨b, o, rfl, p0, p1⟩ := HS5.out.ext hx q hlt
          obtain ⟨t1, t2, t3, t4, t5⟩ := HST.out q hlt
          have hbq := HBB.out q
          have hbq1 := HBB.out (q + 1)
          generalize P[q] = s at *
          obtain ⟨vq, hvq⟩ : ∃ vq, V q = vq := ⟨_, rfl⟩
          obtain ⟨bq, hbqd⟩ : ∃ bq, B q = bq := ⟨_, rfl⟩
          rw [hvq] at t1 t3 hvn hvl v0 HSV bV
          rw [hbqd] at t2 hbq ⊢
          obtain ⟨wv, hwv⟩ : ∃ wv, wasteS s U = wv := ⟨_, rfl⟩
          rw [hwv] at t4
          have HT := Lib.hid (And.intro t1 (And.intro t2 t3))
          have HOK := Lib.hid t5
          have HWV := Lib.hid hwv
          have hs1 := t5.1
          have hs2 := t5.2.1
          have hs3 := t5.2.2
          clear t1 t2 t3 t5 hvq hbqd hwv
          have hlo := of_length [s]
          have hno := norm_of [s]
          have HAN : Hid (∀ W B d, SAt W AV vq → SAt W B (ofS [s]) → Calls Try.prog 25 #[.agg #[.slice AV vq.length cv], .agg #[.slice B (ofS [s]).length d]] W fun e w' => SetPost W (andS vq (ofS [s])) e w' ∧ (andS vq (ofS [s])).length ≤ vq.length + (ofS [s]).length) := Lib.hid fun W B d h1 h2 => and_calls AV cv vq B d (ofS [s]) W h1 h2 hvn hno (by omega) (by simp at hlo; omega)
          have HLN : Hid (∀ W A c, SAt W A (andS vq (ofS [s])) → (andS vq (ofS [s])).length ≤ 1000 → Calls Try.prog 26 #[.agg #[.slice A (andS vq (ofS [s])).length c]] W fun e w' => e = .returned (.int .i64 0) ∧ Ext W w') := Lib.hid fun W A c h1 h2 => by
            have := len_calls A c (andS vq (ofS [s])) W h1 (norm_and _ _) (by omega)
            rw [HT.out.2.2] at this
            exact this
          have HWC : Hid (∀ W A c, SAt W A U → Calls Try.prog 23 #[.agg #[.int .i64 s.f, .int .i64 s.t], .agg #[.slice A U.length c]] W fun e w' => e = .returned (.int .i64 wv) ∧ Ext W w') := Lib.hid fun W A c h1 => by
            have := waste_calls A c U s.f s.t W h1 HUN.out (by omega)
            rw [show (⟨s.f, s.t⟩ : Sp) = s from rfl, HWV.out] at this
            exact this
          have HOR : Hid (∀ W B d, SAt W AV vq → SAt W B (ofS [s]) → Calls Try.prog 27 #[.agg #[.slice AV vq.length cv], .agg #[.slice B (ofS [s]).length d]] W (SetPost W (V (q + 1)))) := Lib.hid fun W B d h1 h2 => by
            rw [HT.out.1]
            exact or_calls AV cv vq B d (ofS [s]) W h1 h2 hvn hno (by omega) (by simp at hlo; omega)
          have HOF : Hid (∀ W : World, Calls Try.prog 22 #[.slice (some ⟨W.heap.size, 0, none⟩) 1 1] (W.alloc (.cells #[.int .i64 s.f, .int .i64 s.t] 48)) (SetPost (W.alloc (.cells #[.int .i64 s.f, .int .i64 s.t] 48)) (ofS [s]))) := Lib.hid fun W => of_calls _ 1 [s] _ (sat_one W s.f s.t) (by simp)
          simp at hlo
          generalize hon : ofS [s] = on at *
          clear hno hvn hon
          have hxs : Ext wr (wr.alloc (.cells #[.int .i64 s.f, .int .i64 s.t] 48)) := (Ext.refl wr).alloc _
          have hxs2 : Ext wr ((wr.alloc (.cells #[.int .i64 s.f, .int .i64 s.t] 48)).alloc (.cells #[.int .i64 s.f, .int .i64 s.t] 48)) := hxs.alloc _
          have d0 : ((wr.alloc (.cells #[.int .i64 s.f, .int .i64 s.t] 48)).alloc (.cells #[.int .i64 s.f, .int .i64 s.t] 48)).cell? ⟨wr.heap.size, 0, none⟩ = some (.int .i64 s.f) := by simp [go_sem]
          have d1 : ((wr.alloc (.cells #[.int .i64 s.f, .int .i64 s.t] 48)).alloc (.cells #[.int .i64 s.f, .int .i64 s.t] 48)).cell? ⟨wr.heap.size, 1, none⟩ = some (.int .i64 s.t) := by simp [go_sem]
          have HOF1 := Lib.hid (HOF.out (wr.alloc (.cells #[.int .i64 s.f, .int .i64 s.t] 48)))
          have hsz1 : (wr.alloc (.cells #[.int .i64 s.f, .int .i64 s.t] 48)).heap.size = wr.heap.size + 1 := World.size_alloc _ _
          rw [hsz1] at HOF1
          clear HOF hsz1
          go_wp2_with fail
          refine HOF1.out.mono ?_
          rintro e w7 ⟨B1, c1, rfl, HS1, HN1, hx7⟩
          have hr7 : Ext wr w7 := hxs2.trans hx7
          have hx8 : Ext w7 (w7.alloc (.cells #[.slice B1 on.length c1] 30)) := (Ext.refl w7).alloc _
          have o0 : (w7.alloc (.cells #[.slice B1 on.length c1] 30)).cell? ⟨w7.heap.size, 0, none⟩ = some (.slice B1 on.length c1) := by simp
          have hr8 := hr7.trans hx8
          replace d0 := hx8.cell (hx7.cell d0)
          replace d1 := hx8.cell (hx7.cell d1)
          have v8 := hr8.cell v0
          have h58 := hx.trans hr8
          have j2 := h58.cell i2
          have j3 := h58.cell i3
          have j4 := h58.cell i4
          have gg := h58.cell g0
          have HSV8 := Lib.hid (HSV.out.ext hr8)
          have HS18 := Lib.hid (HS1.out.ext hx8)
          have HSG8 := Lib.hid (HSG.out.ext h58)
          have HR8 := Lib.hid hr8
          clear HOF1 hx7 hr7 hx8 hxs hxs2 hr8 h58 HS1 HN1 p0 p1 v0
          go_wp2
          generalize w7.alloc (.cells #[.slice B1 on.length c1] 30) = w8 at *
          generalize w7.heap.size = nb1 at *
          obtain ⟨nb0, hnb0⟩ : ∃ nb0, wr.heap.size = nb0 := ⟨_, rfl⟩
          rw [hnb0] at d0 d1 ⊢
          have HNB := Lib.hid hnb0
          clear hnb0
          go_region_held3 (fun w' => w'.cell? ⟨ab, 0, none⟩ = some (.slice AV vq.length cv) ∧ w'.cell? ⟨nb1, 0, none⟩ = some (.slice B1 on.length c1) ∧ w'.cell? ⟨nb0, 0, none⟩ = some (.int .i64 s.f) ∧ w'.cell? ⟨nb0, 1, none⟩ = some (.int .i64 s.t) ∧ w'.cell? ⟨w3.heap.size, 0, none⟩ = some (.slice A1 G.length k1) ∧ w'.cell? ⟨w.heap.size, 2, none⟩ = some (.int .i64 n) ∧ w'.cell? ⟨w.heap.size, 3, none⟩ = some (.int .i64 u) ∧ w'.cell? ⟨w.heap.size, 4, none⟩ = some (.int .i64 wa))
            ((refine (fun hE => ⟨Ext.cell hE v8, Ext.cell hE o0, Ext.cell hE d0, Ext.cell hE d1, Ext.cell hE gg, Ext.cell hE j2, Ext.cell hE j3, Ext.cell hE j4⟩ : Ext w8 _ → _) ?_
              (repeat' with_reducible first | exact hE12.out | exact hE11.out | exact hE10.out | exact hE9.out | exact Ext.refl _ | refine Ext.drew ?_ | refine Ext.alloc ?_ _)))
            (first
              | (go_at_call 25
                 (refine (HAN.out _ B1 c1 (HSV8.out.ext (by (repeat' first | with_reducible exact Ext.refl _ | with_reducible refine Ext.drew ?_ | with_reducible refine Ext.alloc ?_ _))) (HS18.out.ext (by (repeat' first | with_reducible exact Ext.refl _ | with_reducible refine Ext.drew ?_ | with_reducible refine Ext.alloc ?_ _)))).mono ?_)
                 rintro e w9 ⟨⟨A9, k9, rfl, HS9, _, hx9⟩, hl9⟩
                 have hE9 : Hid (Ext w8 w9) := Lib.hid (Ext.trans (by (repeat' first | with_reducible exact Ext.refl _ | with_reducible refine Ext.drew ?_ | with_reducible refine Ext.alloc ?_ _)) hx9))
              | (go_at_call 26
                 (refine (HLN.out _ A9 k9 HS9.out (by omega)).mono ?_)
                 rintro e w10 ⟨rfl, hx10⟩
                 have hE10 : Hid (Ext w8 w10) := Lib.hid (hE9.out.trans hx10))
              | (go_at_call 20
                 (refine (HUC.out _ A1 k1 (HSG8.out.ext hE10.out)).mono ?_)
                 rintro e w11 ⟨⟨A11, k11, rfl, HS11, _, hx11⟩, _⟩
                 have hE11 : Hid (Ext w8 w11) := Lib.hid (hE10.out.trans hx11))
              | (go_at_call 23
                 (refine (HWC.out _ A11 k11 HS11.out).mono ?_)
                 rintro e w12 ⟨rfl, hx12⟩
                 have hE12 : Hid (Ext w8 w12) := Lib.hid (hE11.out.trans hx12)))
          have hwb : decide (wa < wv) = false := decide_eq_false (by omega)
          have v12 := hE12.out.cell v8
          have o12 := hE12.out.cell o0
          have HO := Lib.hid (HOR.out w12 B1 c1 (HSV8.out.ext hE12.out) (HS18.out.ext hE12.out))
          have hne : nb0 ≠ ab := by have := HNB.out; omega
          have hne2 : ab ≠ nb0 := hne.symm
          have ht2 := HT.out.2.1
          clear HAN HLN HWC HOR v8 o0
          go_wp2_with fail
          refine HO.out.mono ?_
          rintro e w13 ⟨A13, k13, rfl, HS13, HN13, hx13⟩
          have hE13 := hE12.out.trans hx13
          have hr13 := HR8.out.trans hE13
          have b13 := hr13.block bV
          have f13 : w13.frozen? ⟨ab, 0, none⟩ = false := frozen_of_block b13 0
          have v13 := hx13.cell v12
          have e0 := hE13.cell d0
          have e1 := hE13.cell d1
          have h513 := hx.trans hr13
          have hz13 := hr13.size
          have hz12 := (HR8.out.trans hE12.out).size
          have hb13 : (w13.setCell ⟨ab, 0, none⟩ (.slice A13 (V (q + 1)).length k13)).heap[ab]? = some (.cells #[.slice A13 (V (q + 1)).length k13] 30 (0, 0)) := by rw [heap_setCell_same _ _ _ _ _ _ b13]; rfl
          have hS13 : SAt (w13.setCell ⟨ab, 0, none⟩ (.slice A13 (V (q + 1)).length k13)) A13 (V (q + 1)) := HS13.out.blocks fun b o e _ => Below.heap_setCell w13 ⟨ab, 0, none⟩ _ b (by have := HN13.out b o e; show b ≠ ab; omega)
          have hx14 : Ext w5 (w13.setCell ⟨ab, 0, none⟩ (.slice A13 (V (q + 1)).length k13)) := h513.setCell (by have := HAB.out; show w5.heap.size ≤ ab; omega) _
          have hz14 : (w13.setCell ⟨ab, 0, none⟩ (.slice A13 (V (q + 1)).length k13)).heap.size = w13.heap.size := by simp [World.setCell]
          have e2 : (w13.setCell ⟨ab, 0, none⟩ (.slice A13 (V (q + 1)).length k13)).cell? ⟨nb0, 0, none⟩ = some (.int .i64 s.f) := (World.cell?_of_block (Below.heap_setCell w13 ⟨ab, 0, none⟩ _ nb0 hne)).trans e0
          have e3 : (w13.setCell ⟨ab, 0, none⟩ (.slice A13 (V (q + 1)).length k13)).cell? ⟨nb0, 1, none⟩ = some (.int .i64 s.t) := (World.cell?_of_block (Below.heap_setCell w13 ⟨ab, 0, none⟩ _ nb0 hne)).trans e1
          have HN14 : Hid (∀ b o, A13 = some ⟨b, o, none⟩ → ab < b) := Lib.hid fun b o e => by have := HN13.out b o e; omega
          have HB13 := Lib.hid hb13
          have HS14 := Lib.hid hS13
          have hz15 : ab < (w13.setCell ⟨ab, 0, none⟩ (.slice A13 (V (q + 1)).length k13)).heap.size := by omega
          clear hb13 hS13 HS13 HN13 b13 e0 e1 hz14 HO o12 v12 h513 bV vf
          by_cases hO : s.t < 4611686018427387904
          · have hOb : decide (s.t < 4611686018427387904) = true := decide_eq_true hO
            rw [if_pos hO] at ht2
            have HT2 := Lib.hid ht2
            have hbq2 : 0 ≤ bq + (s.t - s.f) ∧ bq + (s.t - s.f) ≤ 4611686018427387904 := by rw [← ht2]; exact hbq1
            clear ht2 hbq1
            go_wp2
            go_roundw
            case rel => exact ⟨q + 1, A13, k13, by omega, by go_num, by rw [HT2.out], HB13.out, HS14, HN14, hx14, hz15⟩
            case measure => simp [intOf]; omega
          · have hOb : decide (s.t < 4611686018427387904) = false := decide_eq_false hO
            rw [if_neg hO] at ht2
            have HT2 := Lib.hid ht2
            clear ht2 hbq1
            go_wp2
            go_roundw
            case rel => exact ⟨q + 1, A13, k13, by omega, by go_num, by rw [HT2.out], HB13.out, HS14, HN14, hx14, hz15⟩
            case measure => simp [intOf]; omega
        · obtain rfl : q = P.length := by omega
          obtain ⟨he1, he2, he3⟩ := HEN.out
          obtain ⟨VP, hVP⟩ : ∃ VP, V P.length = VP := ⟨_, rfl⟩
          obtain ⟨bp, hbp⟩ : ∃ bp, B P.length = bp := ⟨_, rfl⟩
          rw [hVP] at he1 he2 he3 hvn hvl HSV v0
          rw [hbp] at he3 ⊢
          have hnb : Norm (boxS n) := norm_box n
          have hlb : (boxS n).length ≤ 1 := of_length [_]
          have hl1 := less_len hvn HNF.out
          have hl2 := less_len (norm_and G (boxS n)) hvn
          have hl3 := and_len HNG.out hnb
          have HLF : Hid (∀ W, SAt W AV VP → SAt W A2 F → Calls Try.prog 28 #[.agg #[.slice AV VP.length cv], .agg #[.slice A2 F.length k2]] W fun e w' => SetPost W (lessS VP F) e w' ∧ (lessS VP F).length ≤ VP.length + F.length) := Lib.hid fun W h1 h2 => less_calls AV cv VP A2 k2 F W h1 h2 hvn HNF.out (by omega) (by omega)
          have HL1 : Hid (∀ W A c, SAt W A (lessS VP F) → Calls Try.prog 26 #[.agg #[.slice A (lessS VP F).length c]] W fun e w' => e = .returned (.int .i64 0) ∧ Ext W w') := Lib.hid fun W A c h1 => by
            have := len_calls A c (lessS VP F) W h1 (norm_less _ _) (by omega)
            rw [he1] at this
            exact this
          have HGH : Hid (∀ W A c, SAt W A1 G → SAt W A (boxS n) → Calls Try.prog 25 #[.agg #[.slice A1 G.length k1], .agg #[.slice A (boxS n).length c]] W fun e w' => SetPost W (andS G (boxS n)) e w' ∧ (andS G (boxS n)).length ≤ G.length + (boxS n).length) := Lib.hid fun W A c h1 h2 => and_calls A1 k1 G A c (boxS n) W h1 h2 HNG.out hnb (by omega) (by omega)
          have HL2 : Hid (∀ W A c, SAt W A (andS G (boxS n)) → SAt W AV VP → Calls Try.prog 28 #[.agg #[.slice A (andS G (boxS n)).length c], .agg #[.slice AV VP.length cv]] W fun e w' => SetPost W (lessS (andS G (boxS n)) VP) e w' ∧ (lessS (andS G (boxS n)) VP).length ≤ (andS G (boxS n)).length + VP.length) := Lib.hid fun W A c h1 h2 => less_calls A c _ AV cv VP W h1 h2 (norm_and _ _) hvn (by omega) (by omega)
          have HL3 : Hid (∀ W A c, SAt W A (lessS (andS G (boxS n)) VP) → Calls Try.prog 26 #[.agg #[.slice A (lessS (andS G (boxS n)) VP).length c]] W fun e w' => e = .returned (.int .i64 0) ∧ Ext W w') := Lib.hid fun W A c h1 => by
            have := len_calls A c (lessS (andS G (boxS n)) VP) W h1 (norm_less _ _) (by omega)
            rw [he2] at this
            exact this
          have hla := fun W (h1 : SAt W AV VP) => len_calls AV cv VP W h1 hvn (by omega)
          have hw0 := hw5.trans hx
          have HOA : Hid (Calls Try.prog 22 #[.slice (some ⟨wr.heap.size, 0, none⟩) 1 1] (wr.alloc (.cells #[.int .i64 0, .int .i64 4611686018427387904] 48)) (SetPost (wr.alloc (.cells #[.int .i64 0, .int .i64 4611686018427387904] 48)) (ofS [⟨0, 4611686018427387904⟩]))) := Lib.hid (of_calls _ 1 [⟨0, 4611686018427387904⟩] _ (sat_one wr 0 4611686018427387904) (by simp))
          have hba : ¬ 0 ≤ n → ofS [⟨0, 4611686018427387904⟩] = boxS n := fun h => by unfold boxS endI; rw [if_pos (by omega)]
          have hbb : 0 ≤ n → ofS [⟨0, n⟩] = boxS n := fun h => by unfold boxS endI; rw [if_neg (by omega)]
          have HBA := Lib.hid hba
          have HBB2 := Lib.hid hbb
          have HE12 := Lib.hid (And.intro he1 he2)
          clear he1 he2 hl1 hl2 hl3 hnb hba hbb hvn hVP hbp
          generalize ofS [⟨0, 4611686018427387904⟩] = oL at *
          have hxa : Ext wr (wr.alloc (.cells #[.int .i64 0, .int .i64 4611686018427387904] 48)) := (Ext.refl wr).alloc _
          go_wp2_with fail
          refine HOA.out.mono ?_
          rintro e w6 ⟨A6, k6, rfl, HS6, HN6, hx6⟩
          have hr6 := hxa.trans hx6
          have bH : (w6.alloc (.cells #[.slice A6 oL.length k6] 30)).heap[w6.heap.size]? = some (.cells #[.slice A6 oL.length k6] 30 (0, 0)) := heap_alloc_new w6 _
          have hx67 : Ext w6 (w6.alloc (.cells #[.slice A6 oL.length k6] 30)) := (Ext.refl w6).alloc _
          have hz7 : (w6.alloc (.cells #[.slice A6 oL.length k6] 30)).heap.size = w6.heap.size + 1 := World.size_alloc _ _
          have hr7 := hr6.trans hx67
          have i27 := hr7.cell (hx.cell i2)
          replace HS6 := Lib.hid (HS6.out.ext hx67)
          have hz6 := hr6.size
          clear hxa hx6 hr6 hx67 HOA HN6
          by_cases hn : 0 ≤ n
          · have hnb : decide (0 ≤ n) = true := decide_eq_true hn
            have HOB := Lib.hid (fun W => of_calls _ 1 [⟨0, n⟩] _ (sat_one W 0 n) (by simp))
            rw [HBB2.out hn] at HOB
            have HOB1 := Lib.hid (HOB.out (w6.alloc (.cells #[.slice A6 oL.length k6] 30)))
            go_wp2_with fail
            generalize (w6.alloc (.cells #[.slice A6 oL.length k6] 30)) = w7 at *
            obtain ⟨hb, hhb⟩ : ∃ hb, w6.heap.size = hb := ⟨_, rfl⟩
            rw [hhb] at bH hz7 hz6 ⊢
            rw [hz7] at HOB1
            refine HOB1.out.mono ?_
            rintro e w8 ⟨AH, kh, rfl, HSH, HNH, hx8⟩
            have hx78 : Ext w7 w8 := ((Ext.refl w7).alloc _).trans hx8
            have b8 := hx78.block bH
            have f8 : w8.frozen? ⟨hb, 0, none⟩ = false := frozen_of_block b8 0
            have c8 : w8.cell? ⟨hb, 0, none⟩ = some (.slice A6 oL.length k6) := by rw [cell_of_block b8]; rfl
            have hz8 := hx78.size
            have bz : (w8.setCell ⟨hb, 0, none⟩ (.slice AH (boxS n).length kh)).heap[hb]? = some (.cells #[.slice AH (boxS n).length kh] 30 (0, 0)) := by rw [heap_setCell_same _ _ _ _ _ _ b8]; rfl
            have hrz : Ext wr (w8.setCell ⟨hb, 0, none⟩ (.slice AH (boxS n).length kh)) := (hr7.trans hx78).setCell (by show wr.heap.size ≤ hb; omega) _
            have hnh : ∀ b o, AH = some ⟨b, o, none⟩ → b ≠ hb := fun b o e => by
              have h1 := HNH.out b o e
              rw [World.size_alloc] at h1
              omega
            have HSHz : Hid (SAt (w8.setCell ⟨hb, 0, none⟩ (.slice AH (boxS n).length kh)) AH (boxS n)) := Lib.hid (HSH.out.blocks fun b o e _ => Below.heap_setCell w8 ⟨hb, 0, none⟩ _ b (hnh b o e))
            have zh : (w8.setCell ⟨hb, 0, none⟩ (.slice AH (boxS n).length kh)).cell? ⟨hb, 0, none⟩ = some (.slice AH (boxS n).length kh) := by rw [cell_of_block bz]; rfl
            have zv := hrz.cell v0
            have zf := hrz.cell (hx.cell f0)
            have zg := hrz.cell (hx.cell g0)
            have HSVz := Lib.hid (HSV.out.ext hrz)
            have HSFz := Lib.hid (HSF.out.ext (hx.trans hrz))
            have HSGz := Lib.hid (HSG.out.ext (hx.trans hrz))
            have HWZ := Lib.hid (hw0.trans hrz)
            clear HSV HSF HSG HSH HNH hrz bz hx8 hx78 b8 HOB HOB1 hr7 hw0 hx v0 f0 g0 bH bV vf i27 HS6
            go_wp2_with fail
            generalize (w8.setCell ⟨hb, 0, none⟩ (.slice AH (boxS n).length kh)) = wz at *
            by_cases hO : lenS VP = 4611686018427387904
            · rw [hO] at hla
              have HLA := Lib.hid hla
              clear hla he3
              go_wp2
              refine wp_region_held_drew (S := fun w' => w'.cell? ⟨ab, 0, none⟩ = some (.slice AV VP.length cv) ∧ w'.cell? ⟨w3.heap.size + 1, 0, none⟩ = some (.slice A2 F.length k2) ∧ w'.cell? ⟨w3.heap.size, 0, none⟩ = some (.slice A1 G.length k1) ∧ w'.cell? ⟨hb, 0, none⟩ = some (.slice AH (boxS n).length kh)) (by kernel_rfl) ?_ (fun hHeld => ?_)
              · exact ⟨Ext.cell (Ext.refl wz).drew zv, Ext.cell (Ext.refl wz).drew zf, Ext.cell (Ext.refl wz).drew zg, Ext.cell (Ext.refl wz).drew zh⟩
              refine wpAnyH_take (i := 0) (oi := ({ dst := some 89, op := Go.Op.load 30 (Go.Operand.tmp 7), type := 30, pos := "law.go:160", after := #[], guard := none } : Go.Oper)) (v := ?_) rfl (by kernel_rfl) (by kernel_rfl) (by kernel_rfl) (fun _ _ _ h => h) (Or.inl ⟨by rfl, ?_⟩) (by assumption) ?_
              rotate_left
              · intro w hSw
                try dsimp only at hSw
                go_simp
                try with_reducible rfl
              try simp only [Act.put]
              try simp only [List.setIfInBounds_toArray]
              try simp only [List.set_cons_succ]
              try simp only [List.set_cons_zero]
              refine wpAnyH_take (i := 1) (oi := ({ dst := some 90, op := Go.Op.load 30 (Go.Operand.tmp 4), type := 30, pos := "law.go:160", after := #[], guard := none } : Go.Oper)) (v := ?_) rfl (by kernel_rfl) (by kernel_rfl) (by kernel_rfl) (fun _ _ _ h => h) (Or.inl ⟨by rfl, ?_⟩) (by assumption) ?_
              rotate_left
              · intro w hSw
                try dsimp only at hSw
                go_simp
                try with_reducible rfl
              try simp only [Act.put]
              try simp only [List.setIfInBounds_toArray]
              try simp only [List.set_cons_succ]
              try simp only [List.set_cons_zero]
              refine wpAnyH_ready (rs := [2]) (by kernel_rfl) (by simp) ?_
              refine AllReadyH.cons (o := ({ dst := some 91, op := Go.Op.call { callee := Go.Callee.value (Go.Operand.func 28), args := #[Go.Operand.tmp 89, Go.Operand.tmp 90], argTypes := #[30, 30] }, type := 30, pos := "law.go:160", after := #[{ on := 0, ground := Go.Ground.data }, { on := 1, ground := Go.Ground.data }], guard := none } : Go.Oper)) rfl (fun K hK => ?_) AllReadyH.nil
              go_simp
              refine (HLF.out _ (HSVz.out.ext (Ext.refl wz).drew) (HSFz.out.ext (Ext.refl wz).drew)).mono ?_
              rintro e w10 ⟨⟨A10, k10, rfl, HS10, _, hx10⟩, _⟩
              have hE10 : Hid (Ext wz w10) := Lib.hid ((Ext.refl wz).drew.trans hx10)
              refine hK.out _ _ ?_ (fun hHeld2 => ?_)
              · exact ⟨Ext.cell hE10.out zv, Ext.cell hE10.out zf, Ext.cell hE10.out zg, Ext.cell hE10.out zh⟩
              clear hHeld
              have hHeld := hHeld2
              clear hHeld2 hK K
              try simp only [Act.put]
              try simp only [List.setIfInBounds_toArray]
              try simp only [List.set_cons_succ]
              try simp only [List.set_cons_zero]
              refine wpAnyH_ready (rs := [3]) (by kernel_rfl) (by simp) ?_
              refine AllReadyH.cons (o := ({ dst := some 92, op := Go.Op.call { callee := Go.Callee.value (Go.Operand.func 26), args := #[Go.Operand.tmp 91], argTypes := #[30] }, type := 2, pos := "law.go:160", after := #[{ on := 2, ground := Go.Ground.data }, { on := 2, ground := Go.Ground.chain }], guard := none } : Go.Oper)) rfl (fun K hK => ?_) AllReadyH.nil
              go_simp
              refine (HL1.out _ A10 k10 HS10.out).mono ?_
              rintro e w11 ⟨rfl, hx11⟩
              have hE11 : Hid (Ext wz w11) := Lib.hid (hE10.out.trans hx11)
              refine hK.out _ _ ?_ (fun hHeld2 => ?_)
              · exact ⟨Ext.cell hE11.out zv, Ext.cell hE11.out zf, Ext.cell hE11.out zg, Ext.cell hE11.out zh⟩
              clear hHeld
              have hHeld := hHeld2
              clear hHeld2 hK K
              try simp only [Act.put]
              try simp only [List.setIfInBounds_toArray]
              try simp only [List.set_cons_succ]
              try simp only [List.set_cons_zero]
              refine wpAnyH_take (i := 4) (oi := ({ dst := some 93, op := Go.Op.binOp Go.BinOp.eql 2 (Go.Operand.tmp 92) (Go.Operand.const (Go.Value.int Go.IntKind.i64 0)) 2, type := 4, pos := "law.go:160", after := #[{ on := 3, ground := Go.Ground.data }], guard := none } : Go.Oper)) (v := ?_) rfl (by kernel_rfl) (by kernel_rfl) (by kernel_rfl) (fun _ _ _ h => h) (Or.inl ⟨by rfl, ?_⟩) (by assumption) ?_
              rotate_left
              · intro w hSw
                try dsimp only at hSw
                go_simp
                try with_reducible rfl
              try simp only [Act.put]
              try simp only [List.setIfInBounds_toArray]
              try simp only [List.set_cons_succ]
              try simp only [List.set_cons_zero]
              refine wpAnyH_take (i := 5) (oi := ({ dst := some 94, op := Go.Op.move (Go.Operand.tmp 93), type := 4, pos := "law.go:160", after := #[{ on := 4, ground := Go.Ground.data }, { on := 3, ground := Go.Ground.chain }], guard := none } : Go.Oper)) (v := ?_) rfl (by kernel_rfl) (by kernel_rfl) (by kernel_rfl) (fun _ _ _ h => h) (Or.inl ⟨by rfl, ?_⟩) (by assumption) ?_
              rotate_left
              · intro w hSw
                try dsimp only at hSw
                go_simp
                try with_reducible rfl
              try simp only [Act.put]
              try simp only [List.setIfInBounds_toArray]
              try simp only [List.set_cons_succ]
              try simp only [List.set_cons_zero]
              refine wpAnyH_take (i := 6) (oi := ({ dst := some 95, op := Go.Op.load 30 (Go.Operand.tmp 3), type := 30, pos := "law.go:160", after := #[{ on := 5, ground := Go.Ground.guard }], guard := some (5, true) } : Go.Oper)) (v := ?_) rfl (by kernel_rfl) (by kernel_rfl) (by kernel_rfl) (fun _ _ _ h => h) (Or.inl ⟨by rfl, ?_⟩) (by assumption) ?_
              rotate_left
              · intro w hSw
                try dsimp only at hSw
                go_simp
                try with_reducible rfl
              try simp only [Act.put]
              try simp only [List.setIfInBounds_toArray]
              try simp only [List.set_cons_succ]
              try simp only [List.set_cons_zero]
              refine wpAnyH_take (i := 7) (oi := ({ dst := some 96, op := Go.Op.load 30 (Go.Operand.tmp 12), type := 30, pos := "law.go:160", after := #[{ on := 5, ground := Go.Ground.guard }], guard := some (5, true) } : Go.Oper)) (v := ?_) rfl (by kernel_rfl) (by kernel_rfl) (by kernel_rfl) (fun _ _ _ h => h) (Or.inl ⟨by rfl, ?_⟩) (by assumption) ?_
              rotate_left
              · intro w hSw
                try dsimp only at hSw
                go_simp
                try with_reducible rfl
              try simp only [Act.put]
              try simp only [List.setIfInBounds_toArray]
              try simp only [List.set_cons_succ]
              try simp only [List.set_cons_zero]
              refine wpAnyH_take (i := 9) (oi := ({ dst := some 98, op := Go.Op.load 30 (Go.Operand.tmp 7), type := 30, pos := "law.go:160", after := #[{ on := 5, ground := Go.Ground.guard }], guard := some (5, true) } : Go.Oper)) (v := ?_) rfl (by kernel_rfl) (by kernel_rfl) (by kernel_rfl) (fun _ _ _ h => h) (Or.inl ⟨by rfl, ?_⟩) (by assumption) ?_
              rotate_left
              · intro w hSw
                try dsimp only at hSw
                go_simp
                try with_reducible rfl
              try simp only [Act.put]
              try simp only [List.setIfInBounds_toArray]
              try simp only [List.set_cons_succ]
              try simp only [List.set_cons_zero]
              refine wpAnyH_ready (rs := [8]) (by kernel_rfl) (by simp) ?_
              refine AllReadyH.cons (o := ({ dst := some 97, op := Go.Op.call { callee := Go.Callee.value (Go.Operand.func 25), args := #[Go.Operand.tmp 95, Go.Operand.tmp 96], argTypes := #[30, 30] }, type := 30, pos := "law.go:160", after := #[{ on := 6, ground := Go.Ground.data }, { on := 7, ground := Go.Ground.data }, { on := 5, ground := Go.Ground.chain }, { on := 5, ground := Go.Ground.guard }], guard := some (5, true) } : Go.Oper)) rfl (fun K hK => ?_) AllReadyH.nil
              go_simp
              refine (HGH.out _ AH kh (HSGz.out.ext hE11.out) (HSHz.out.ext hE11.out)).mono ?_
              rintro e w12 ⟨⟨A12, k12, rfl, HS12, _, hx12⟩, _⟩
              have hE12 : Hid (Ext wz w12) := Lib.hid (hE11.out.trans hx12)
              refine hK.out _ _ ?_ (fun hHeld2 => ?_)
              · exact ⟨Ext.cell hE12.out zv, Ext.cell hE12.out zf, Ext.cell hE12.out zg, Ext.cell hE12.out zh⟩
              clear hHeld
              have hHeld := hHeld2
              clear hHeld2 hK K
              try simp only [Act.put]
              try simp only [List.setIfInBounds_toArray]
              try simp only [List.set_cons_succ]
              try simp only [List.set_cons_zero]
              refine wpAnyH_ready (rs := [10]) (by kernel_rfl) (by simp) ?_
              refine AllReadyH.cons (o := ({ dst := some 99, op := Go.Op.call { callee := Go.Callee.value (Go.Operand.func 28), args := #[Go.Operand.tmp 97, Go.Operand.tmp 98], argTypes := #[30, 30] }, type := 30, pos := "law.go:160", after := #[{ on := 8, ground := Go.Ground.data }, { on := 9, ground := Go.Ground.data }, { on := 8, ground := Go.Ground.chain }, { on := 5, ground := Go.Ground.guard }], guard := some (5, true) } : Go.Oper)) rfl (fun K hK => ?_) AllReadyH.nil
              go_simp
              refine (HL2.out _ A12 k12 HS12.out (HSVz.out.ext hE12.out)).mono ?_
              rintro e w13 ⟨⟨A13, k13, rfl, HS13, _, hx13⟩, _⟩
              have hE13 : Hid (Ext wz w13) := Lib.hid (hE12.out.trans hx13)
              refine hK.out _ _ ?_ (fun hHeld2 => ?_)
              · exact ⟨Ext.cell hE13.out zv, Ext.cell hE13.out zf, Ext.cell hE13.out zg, Ext.cell hE13.out zh⟩
              clear hHeld
              have hHeld := hHeld2
              clear hHeld2 hK K
              try simp only [Act.put]
              try simp only [List.setIfInBounds_toArray]
              try simp only [List.set_cons_succ]
              try simp only [List.set_cons_zero]
              refine wpAnyH_ready (rs := [11]) (by kernel_rfl) (by simp) ?_
              refine AllReadyH.cons (o := ({ dst := some 100, op := Go.Op.call { callee := Go.Callee.value (Go.Operand.func 26), args := #[Go.Operand.tmp 99], argTypes := #[30] }, type := 2, pos := "law.go:160", after := #[{ on := 10, ground := Go.Ground.data }, { on := 10, ground := Go.Ground.chain }, { on := 5, ground := Go.Ground.guard }], guard := some (5, true) } : Go.Oper)) rfl (fun K hK => ?_) AllReadyH.nil
              go_simp
              refine (HL3.out _ A13 k13 HS13.out).mono ?_
              rintro e w14 ⟨rfl, hx14⟩
              have hE14 : Hid (Ext wz w14) := Lib.hid (hE13.out.trans hx14)
              refine hK.out _ _ ?_ (fun hHeld2 => ?_)
              · exact ⟨Ext.cell hE14.out zv, Ext.cell hE14.out zf, Ext.cell hE14.out zg, Ext.cell hE14.out zh⟩
              clear hHeld
              have hHeld := hHeld2
              clear hHeld2 hK K
              try simp only [Act.put]
              try simp only [List.setIfInBounds_toArray]
              try simp only [List.set_cons_succ]
              try simp only [List.set_cons_zero]
              refine wpAnyH_take (i := 12) (oi := ({ dst := some 101, op := Go.Op.binOp Go.BinOp.eql 2 (Go.Operand.tmp 100) (Go.Operand.const (Go.Value.int Go.IntKind.i64 0)) 2, type := 4, pos := "law.go:160", after := #[{ on := 11, ground := Go.Ground.data }, { on := 5, ground := Go.Ground.guard }], guard := some (5, true) } : Go.Oper)) (v := ?_) rfl (by kernel_rfl) (by kernel_rfl) (by kernel_rfl) (fun _ _ _ h => h) (Or.inl ⟨by rfl, ?_⟩) (by assumption) ?_
              rotate_left
              · intro w hSw
                try dsimp only at hSw
                go_simp
                try with_reducible rfl
              try simp only [Act.put]
              try simp only [List.setIfInBounds_toArray]
              try simp only [List.set_cons_succ]
              try simp only [List.set_cons_zero]
              refine wpAnyH_take (i := 13) (oi := ({ dst := some 102, op := Go.Op.pick (Go.Operand.tmp 94) (Go.Operand.tmp 101) (Go.Operand.const (Go.Value.bool false)), type := 4, pos := "law.go:160", after := #[{ on := 5, ground := Go.Ground.data }, { on := 12, ground := Go.Ground.data }], guard := none } : Go.Oper)) (v := ?_) rfl (by kernel_rfl) (by kernel_rfl) (by kernel_rfl) (fun _ _ _ h => h) (Or.inl ⟨by rfl, ?_⟩) (by assumption) ?_
              rotate_left
              · intro w hSw
                try dsimp only at hSw
                go_simp
                try with_reducible rfl
              try simp only [Act.put]
              try simp only [List.setIfInBounds_toArray]
              try simp only [List.set_cons_succ]
              try simp only [List.set_cons_zero]
              refine wpAnyH_take (i := 14) (oi := ({ dst := some 103, op := Go.Op.move (Go.Operand.tmp 102), type := 4, pos := "law.go:160", after := #[{ on := 13, ground := Go.Ground.data }, { on := 11, ground := Go.Ground.chain }], guard := none } : Go.Oper)) (v := ?_) rfl (by kernel_rfl) (by kernel_rfl) (by kernel_rfl) (fun _ _ _ h => h) (Or.inl ⟨by rfl, ?_⟩) (by assumption) ?_
              rotate_left
              · intro w hSw
                try dsimp only at hSw
                go_simp
                try with_reducible rfl
              try simp only [Act.put]
              try simp only [List.setIfInBounds_toArray]
              try simp only [List.set_cons_succ]
              try simp only [List.set_cons_zero]
              refine wpAnyH_take (i := 15) (oi := ({ dst := some 104, op := Go.Op.load 30 (Go.Operand.tmp 7), type := 30, pos := "law.go:160", after := #[{ on := 14, ground := Go.Ground.guard }], guard := some (14, true) } : Go.Oper)) (v := ?_) rfl (by kernel_rfl) (by kernel_rfl) (by kernel_rfl) (fun _ _ _ h => h) (Or.inl ⟨by rfl, ?_⟩) (by assumption) ?_
              rotate_left
              · intro w hSw
                try dsimp only at hSw
                go_simp
                try with_reducible rfl
              try simp only [Act.put]
              try simp only [List.setIfInBounds_toArray]
              try simp only [List.set_cons_succ]
              try simp only [List.set_cons_zero]
              refine wpAnyH_ready (rs := [16]) (by kernel_rfl) (by simp) ?_
              refine AllReadyH.cons (o := ({ dst := some 105, op := Go.Op.call { callee := Go.Callee.value (Go.Operand.func 26), args := #[Go.Operand.tmp 104], argTypes := #[30] }, type := 2, pos := "law.go:160", after := #[{ on := 15, ground := Go.Ground.data }, { on := 14, ground := Go.Ground.chain }, { on := 14, ground := Go.Ground.guard }], guard := some (14, true) } : Go.Oper)) rfl (fun K hK => ?_) AllReadyH.nil
              go_simp
              refine (HLA.out _ (HSVz.out.ext hE14.out)).mono ?_
              rintro e w15 ⟨rfl, hx15⟩
              have hE15 : Hid (Ext wz w15) := Lib.hid (hE14.out.trans hx15)
              refine hK.out _ _ ?_ (fun hHeld2 => ?_)
              · exact ⟨Ext.cell hE15.out zv, Ext.cell hE15.out zf, Ext.cell hE15.out zg, Ext.cell hE15.out zh⟩
              clear hHeld
              have hHeld := hHeld2
              clear hHeld2 hK K
              try simp only [Act.put]
              try simp only [List.setIfInBounds_toArray]
              try simp only [List.set_cons_succ]
              try simp only [List.set_cons_zero]
              refine wpAnyH_take (i := 17) (oi := ({ dst := some 106, op := Go.Op.binOp Go.BinOp.eql 2 (Go.Operand.tmp 105) (Go.Operand.const (Go.Value.int Go.IntKind.i64 4611686018427387904)) 2, type := 4, pos := "law.go:160", after := #[{ on := 16, ground := Go.Ground.data }, { on := 14, ground := Go.Ground.guard }], guard := some (14, true) } : Go.Oper)) (v := ?_) rfl (by kernel_rfl) (by kernel_rfl) (by kernel_rfl) (fun _ _ _ h => h) (Or.inl ⟨by rfl, ?_⟩) (by assumption) ?_
              rotate_left
              · intro w hSw
                try dsimp only at hSw
                go_simp
                try with_reducible rfl
              try simp only [Act.put]
              try simp only [List.setIfInBounds_toArray]
              try simp only [List.set_cons_succ]
              try simp only [List.set_cons_zero]
              refine wpAnyH_take (i := 18) (oi := ({ dst := some 107, op := Go.Op.move (Go.Operand.tmp 106), type := 4, pos := "law.go:160", after := #[{ on := 17, ground := Go.Ground.data }, { on := 16, ground := Go.Ground.chain }, { on := 14, ground := Go.Ground.guard }], guard := some (14, true) } : Go.Oper)) (v := ?_) rfl (by kernel_rfl) (by kernel_rfl) (by kernel_rfl) (fun _ _ _ h => h) (Or.inl ⟨by rfl, ?_⟩) (by assumption) ?_
              rotate_left
              · intro w hSw
                try dsimp only at hSw
                go_simp
                try with_reducible rfl
              try simp only [Act.put]
              try simp only [List.setIfInBounds_toArray]
              try simp only [List.set_cons_succ]
              try simp only [List.set_cons_zero]
              refine wpAnyH_take (i := 19) (oi := ({ dst := some 108, op := Go.Op.load 30 (Go.Operand.tmp 7), type := 30, pos := "law.go:160", after := #[{ on := 18, ground := Go.Ground.guard }], guard := some (18, false) } : Go.Oper)) (v := undef) rfl (by kernel_rfl) (by kernel_rfl) (by kernel_rfl) (fun _ _ _ h => h) (Or.inr ⟨by rfl, rfl⟩) (by assumption) ?_
              try simp only [Act.put]
              try simp only [List.setIfInBounds_toArray]
              try simp only [List.set_cons_succ]
              try simp only [List.set_cons_zero]
              refine wpAnyH_take (i := 20) (oi := ({ dst := some 109, op := Go.Op.call { callee := Go.Callee.value (Go.Operand.func 26), args := #[Go.Operand.tmp 108], argTypes := #[30] }, type := 2, pos := "law.go:160", after := #[{ on := 19, ground := Go.Ground.data }, { on := 18, ground := Go.Ground.chain }, { on := 18, ground := Go.Ground.guard }], guard := some (18, false) } : Go.Oper)) (v := undef) rfl (by kernel_rfl) (by kernel_rfl) (by kernel_rfl) (fun _ _ _ h => h) (Or.inr ⟨by rfl, rfl⟩) (by assumption) ?_
              try simp only [Act.put]
              try simp only [List.setIfInBounds_toArray]
              try simp only [List.set_cons_succ]
              try simp only [List.set_cons_zero]
              refine wpAnyH_take (i := 21) (oi := ({ dst := some 110, op := Go.Op.move (Go.Operand.tmp 8), type := 2, pos := "law.go:160", after := #[{ on := 18, ground := Go.Ground.guard }], guard := some (18, false) } : Go.Oper)) (v := undef) rfl (by kernel_rfl) (by kernel_rfl) (by kernel_rfl) (fun _ _ _ h => h) (Or.inr ⟨by rfl, rfl⟩) (by assumption) ?_
              try simp only [Act.put]
              try simp only [List.setIfInBounds_toArray]
              try simp only [List.set_cons_succ]
              try simp only [List.set_cons_zero]
              refine wpAnyH_take (i := 22) (oi := ({ dst := some 111, op := Go.Op.binOp Go.BinOp.eql 2 (Go.Operand.tmp 109) (Go.Operand.tmp 110) 2, type := 4, pos := "law.go:160", after := #[{ on := 20, ground := Go.Ground.data }, { on := 21, ground := Go.Ground.data }, { on := 18, ground := Go.Ground.guard }], guard := some (18, false) } : Go.Oper)) (v := undef) rfl (by kernel_rfl) (by kernel_rfl) (by kernel_rfl) (fun _ _ _ h => h) (Or.inr ⟨by rfl, rfl⟩) (by assumption) ?_
              try simp only [Act.put]
              try simp only [List.setIfInBounds_toArray]
              try simp only [List.set_cons_succ]
              try simp only [List.set_cons_zero]
              refine wpAnyH_take (i := 23) (oi := ({ dst := some 112, op := Go.Op.pick (Go.Operand.tmp 107) (Go.Operand.const (Go.Value.bool true)) (Go.Operand.tmp 111), type := 4, pos := "law.go:160", after := #[{ on := 18, ground := Go.Ground.data }, { on := 22, ground := Go.Ground.data }, { on := 14, ground := Go.Ground.guard }], guard := some (14, true) } : Go.Oper)) (v := ?_) rfl (by kernel_rfl) (by kernel_rfl) (by kernel_rfl) (fun _ _ _ h => h) (Or.inl ⟨by rfl, ?_⟩) (by assumption) ?_
              rotate_left
              · intro w hSw
                try dsimp only at hSw
                go_simp
                try with_reducible rfl
              try simp only [Act.put]
              try simp only [List.setIfInBounds_toArray]
              try simp only [List.set_cons_succ]
              try simp only [List.set_cons_zero]
              refine wpAnyH_take (i := 24) (oi := ({ dst := some 113, op := Go.Op.pick (Go.Operand.tmp 103) (Go.Operand.tmp 112) (Go.Operand.const (Go.Value.bool false)), type := 4, pos := "law.go:160", after := #[{ on := 14, ground := Go.Ground.data }, { on := 23, ground := Go.Ground.data }], guard := none } : Go.Oper)) (v := ?_) rfl (by kernel_rfl) (by kernel_rfl) (by kernel_rfl) (fun _ _ _ h => h) (Or.inl ⟨by rfl, ?_⟩) (by assumption) ?_
              rotate_left
              · intro w hSw
                try dsimp only at hSw
                go_simp
                try with_reducible rfl
              try simp only [Act.put]
              try simp only [List.setIfInBounds_toArray]
              try simp only [List.set_cons_succ]
              try simp only [List.set_cons_zero]
              refine wpAnyH_take (i := 25) (oi := ({ dst := some 2, op := Go.Op.assign (Go.Operand.tmp 113), type := 4, pos := "law.go:160", after := #[{ on := 24, ground := Go.Ground.data }, { on := 20, ground := Go.Ground.chain }, { on := 0, ground := Go.Ground.phase }, { on := 1, ground := Go.Ground.phase }, { on := 2, ground := Go.Ground.phase }, { on := 3, ground := Go.Ground.phase }, { on := 4, ground := Go.Ground.phase }, { on := 5, ground := Go.Ground.phase }, { on := 6, ground := Go.Ground.phase }, { on := 7, ground := Go.Ground.phase }, { on := 8, ground := Go.Ground.phase }, { on := 9, ground := Go.Ground.phase }, { on := 10, ground := Go.Ground.phase }, { on := 11, ground := Go.Ground.phase }, { on := 12, ground := Go.Ground.phase }, { on := 13, ground := Go.Ground.phase }, { on := 14, ground := Go.Ground.phase }, { on := 15, ground := Go.Ground.phase }, { on := 16, ground := Go.Ground.phase }, { on := 17, ground := Go.Ground.phase }, { on := 18, ground := Go.Ground.phase }, { on := 19, ground := Go.Ground.phase }, { on := 20, ground := Go.Ground.phase }, { on := 21, ground := Go.Ground.phase }, { on := 22, ground := Go.Ground.phase }, { on := 23, ground := Go.Ground.phase }, { on := 24, ground := Go.Ground.phase }], guard := none } : Go.Oper)) (v := ?_) rfl (by kernel_rfl) (by kernel_rfl) (by kernel_rfl) (fun _ _ _ h => h) (Or.inl ⟨by rfl, ?_⟩) (by assumption) ?_
              rotate_left
              · intro w hSw
                try dsimp only at hSw
                go_simp
                try with_reducible rfl
              try simp only [Act.put]
              try simp only [List.setIfInBounds_toArray]
              try simp only [List.set_cons_succ]
              try simp only [List.set_cons_zero]
              refine wpAnyH_done (by kernel_rfl) ?_ _
              go_wp2
              go_ret
              exact ⟨by simp, HWZ.out.trans hE15.out⟩
            · have he4 := he3.resolve_left hO
              rw [he4] at hla hO
              have HLA := Lib.hid hla
              have hOb : (bp == 4611686018427387904) = false := beq_eq_false_iff_ne.2 hO
              have hOd : decide (bp = 4611686018427387904) = false := decide_eq_false hO
              clear hla he3 he4
              go_wp2
              go_region_held3 (fun w' => w'.cell? ⟨ab, 0, none⟩ = some (.slice AV VP.length cv) ∧ w'.cell? ⟨w3.heap.size + 1, 0, none⟩ = some (.slice A2 F.length k2) ∧ w'.cell? ⟨w3.heap.size, 0, none⟩ = some (.slice A1 G.length k1) ∧ w'.cell? ⟨hb, 0, none⟩ = some (.slice AH (boxS n).length kh))
                ((refine (fun hE => ⟨Ext.cell hE zv, Ext.cell hE zf, Ext.cell hE zg, Ext.cell hE zh⟩ : Ext wz _ → _) ?_
                  (repeat' with_reducible first | exact hE16.out | exact hE15.out | exact hE14.out | exact hE13.out | exact hE12.out | exact hE11.out | exact hE10.out | exact Ext.refl _ | refine Ext.drew ?_ | refine Ext.alloc ?_ _)))
                (first
                  | (go_at_call 28
                     (with_reducible refine (HLF.out _ (HSVz.out.ext (by (repeat' first | with_reducible exact Ext.refl _ | with_reducible refine Ext.drew ?_ | with_reducible refine Ext.alloc ?_ _))) (HSFz.out.ext (by (repeat' first | with_reducible exact Ext.refl _ | with_reducible refine Ext.drew ?_ | with_reducible refine Ext.alloc ?_ _)))).mono ?_)
                     rintro e w10 ⟨⟨A10, k10, rfl, HS10, _, hx10⟩, _⟩
                     have hE10 : Hid (Ext wz w10) := Lib.hid (Ext.trans (by (repeat' first | with_reducible exact Ext.refl _ | with_reducible refine Ext.drew ?_ | with_reducible refine Ext.alloc ?_ _)) hx10))
                  | (go_at_call 26
                     (with_reducible refine (HL1.out _ A10 k10 HS10.out).mono ?_)
                     rintro e w11 ⟨rfl, hx11⟩
                     have hE11 : Hid (Ext wz w11) := Lib.hid (hE10.out.trans hx11))
                  | (go_at_call 25
                     (with_reducible refine (HGH.out _ AH kh (HSGz.out.ext hE11.out) (HSHz.out.ext hE11.out)).mono ?_)
                     rintro e w12 ⟨⟨A12, k12, rfl, HS12, _, hx12⟩, _⟩
                     have hE12 : Hid (Ext wz w12) := Lib.hid (hE11.out.trans hx12))
                  | (go_at_call 28
                     (with_reducible refine (HL2.out _ A12 k12 HS12.out (HSVz.out.ext hE12.out)).mono ?_)
                     rintro e w13 ⟨⟨A13, k13, rfl, HS13, _, hx13⟩, _⟩
                     have hE13 : Hid (Ext wz w13) := Lib.hid (hE12.out.trans hx13))
                  | (go_at_call 26
                     (with_reducible refine (HL3.out _ A13 k13 HS13.out).mono ?_)
                     rintro e w14 ⟨rfl, hx14⟩
                     have hE14 : Hid (Ext wz w14) := Lib.hid (hE13.out.trans hx14))
                  | (go_at_call 26
                     (with_reducible refine (HLA.out _ (HSVz.out.ext hE14.out)).mono ?_)
                     rintro e w15 ⟨rfl, hx15⟩
                     have hE15 : Hid (Ext wz w15) := Lib.hid (hE14.out.trans hx15))
                  | (go_at_call 26
                     (with_reducible refine (HLA.out _ (HSVz.out.ext hE15.out)).mono ?_)
                     rintro e w16 ⟨rfl, hx16⟩
                     have hE16 : Hid (Ext wz w16) := Lib.hid (hE15.out.trans hx16)))
              all_goals go_wp2
              all_goals go_ret
              all_goals exact ⟨by simp, HWZ.out.trans (by first | exact hE16.out | exact hE15.out)⟩
          · have hnb : decide (0 ≤ n) = false := decide_eq_false hn
            rw [HBA.out (by omega)] at HS6 bH hz7 hr7 i27 ⊢
            have zh : (w6.alloc (.cells #[.slice A6 (boxS n).length k6] 30)).cell? ⟨w6.heap.size, 0, none⟩ = some (.slice A6 (boxS n).length k6) := by rw [cell_of_block bH]; rfl
            have zv := hr7.cell v0
            have zf := hr7.cell (hx.cell f0)
            have zg := hr7.cell (hx.cell g0)
            have HSVz := Lib.hid (HSV.out.ext hr7)
            have HSFz := Lib.hid (HSF.out.ext (hx.trans hr7))
            have HSGz := Lib.hid (HSG.out.ext (hx.trans hr7))
            have HSHz := HS6
            have HWZ := Lib.hid (hw0.trans hr7)
            clear HSV HSF HSG hr7 hw0 hx v0 f0 g0 bH bV vf HS6 hz7
            go_wp2_with fail
            generalize (w6.alloc (.cells #[.slice A6 (boxS n).length k6] 30)) = wz at *
            generalize w6.heap.size = hb at *
            generalize A6 = AH at *
            generalize k6 = kh at *
            by_cases hO : lenS VP = 4611686018427387904
            · rw [hO] at hla
              have HLA := Lib.hid hla
              clear hla he3
              go_wp2
              refine wp_region_held_drew (S := fun w' => w'.cell? ⟨ab, 0, none⟩ = some (.slice AV VP.length cv) ∧ w'.cell? ⟨w3.heap.size + 1, 0, none⟩ = some (.slice A2 F.length k2) ∧ w'.cell? ⟨w3.heap.size, 0, none⟩ = some (.slice A1 G.length k1) ∧ w'.cell? ⟨hb, 0, none⟩ = some (.slice AH (boxS n).length kh)) (by kernel_rfl) ?_ (fun hHeld => ?_)
              · exact ⟨Ext.cell (Ext.refl wz).drew zv, Ext.cell (Ext.refl wz).drew zf, Ext.cell (Ext.refl wz).drew zg, Ext.cell (Ext.refl wz).drew zh⟩
              refine wpAnyH_take (i := 0) (oi := ({ dst := some 89, op := Go.Op.load 30 (Go.Operand.tmp 7), type := 30, pos := "law.go:160", after := #[], guard := none } : Go.Oper)) (v := ?_) rfl (by kernel_rfl) (by kernel_rfl) (by kernel_rfl) (fun _ _ _ h => h) (Or.inl ⟨by rfl, ?_⟩) (by assumption) ?_
              rotate_left
              · intro w hSw
                try dsimp only at hSw
                go_simp
                try with_reducible rfl
              try simp only [Act.put]
              try simp only [List.setIfInBounds_toArray]
              try simp only [List.set_cons_succ]
              try simp only [List.set_cons_zero]
              refine wpAnyH_take (i := 1) (oi := ({ dst := some 90, op := Go.Op.load 30 (Go.Operand.tmp 4), type := 30, pos := "law.go:160", after := #[], guard := none } : Go.Oper)) (v := ?_) rfl (by kernel_rfl) (by kernel_rfl) (by kernel_rfl) (fun _ _ _ h => h) (Or.inl ⟨by rfl, ?_⟩) (by assumption) ?_
              rotate_left
              · intro w hSw
                try dsimp only at hSw
                go_simp
                try with_reducible rfl
              try simp only [Act.put]
              try simp only [List.setIfInBounds_toArray]
              try simp only [List.set_cons_succ]
              try simp only [List.set_cons_zero]
              refine wpAnyH_ready (rs := [2]) (by kernel_rfl) (by simp) ?_
              refine AllReadyH.cons (o := ({ dst := some 91, op := Go.Op.call { callee := Go.Callee.value (Go.Operand.func 28), args := #[Go.Operand.tmp 89, Go.Operand.tmp 90], argTypes := #[30, 30] }, type := 30, pos := "law.go:160", after := #[{ on := 0, ground := Go.Ground.data }, { on := 1, ground := Go.Ground.data }], guard := none } : Go.Oper)) rfl (fun K hK => ?_) AllReadyH.nil
              go_simp
              refine (HLF.out _ (HSVz.out.ext (Ext.refl wz).drew) (HSFz.out.ext (Ext.refl wz).drew)).mono ?_
              rintro e w10 ⟨⟨A10, k10, rfl, HS10, _, hx10⟩, _⟩
              have hE10 : Hid (Ext wz w10) := Lib.hid ((Ext.refl wz).drew.trans hx10)
              refine hK.out _ _ ?_ (fun hHeld2 => ?_)
              · exact ⟨Ext.cell hE10.out zv, Ext.cell hE10.out zf, Ext.cell hE10.out zg, Ext.cell hE10.out zh⟩
              clear hHeld
              have hHeld := hHeld2
              clear hHeld2 hK K
              try simp only [Act.put]
              try simp only [List.setIfInBounds_toArray]
              try simp only [List.set_cons_succ]
              try simp only [List.set_cons_zero]
              refine wpAnyH_ready (rs := [3]) (by kernel_rfl) (by simp) ?_
              refine AllReadyH.cons (o := ({ dst := some 92, op := Go.Op.call { callee := Go.Callee.value (Go.Operand.func 26), args := #[Go.Operand.tmp 91], argTypes := #[30] }, type := 2, pos := "law.go:160", after := #[{ on := 2, ground := Go.Ground.data }, { on := 2, ground := Go.Ground.chain }], guard := none } : Go.Oper)) rfl (fun K hK => ?_) AllReadyH.nil
              go_simp
              refine (HL1.out _ A10 k10 HS10.out).mono ?_
              rintro e w11 ⟨rfl, hx11⟩
              have hE11 : Hid (Ext wz w11) := Lib.hid (hE10.out.trans hx11)
              refine hK.out _ _ ?_ (fun hHeld2 => ?_)
              · exact ⟨Ext.cell hE11.out zv, Ext.cell hE11.out zf, Ext.cell hE11.out zg, Ext.cell hE11.out zh⟩
              clear hHeld
              have hHeld := hHeld2
              clear hHeld2 hK K
              try simp only [Act.put]
              try simp only [List.setIfInBounds_toArray]
              try simp only [List.set_cons_succ]
              try simp only [List.set_cons_zero]
              refine wpAnyH_take (i := 4) (oi := ({ dst := some 93, op := Go.Op.binOp Go.BinOp.eql 2 (Go.Operand.tmp 92) (Go.Operand.const (Go.Value.int Go.IntKind.i64 0)) 2, type := 4, pos := "law.go:160", after := #[{ on := 3, ground := Go.Ground.data }], guard := none } : Go.Oper)) (v := ?_) rfl (by kernel_rfl) (by kernel_rfl) (by kernel_rfl) (fun _ _ _ h => h) (Or.inl ⟨by rfl, ?_⟩) (by assumption) ?_
              rotate_left
              · intro w hSw
                try dsimp only at hSw
                go_simp
                try with_reducible rfl
              try simp only [Act.put]
              try simp only [List.setIfInBounds_toArray]
              try simp only [List.set_cons_succ]
              try simp only [List.set_cons_zero]
              refine wpAnyH_take (i := 5) (oi := ({ dst := some 94, op := Go.Op.move (Go.Operand.tmp 93), type := 4, pos := "law.go:160", after := #[{ on := 4, ground := Go.Ground.data }, { on := 3, ground := Go.Ground.chain }], guard := none } : Go.Oper)) (v := ?_) rfl (by kernel_rfl) (by kernel_rfl) (by kernel_rfl) (fun _ _ _ h => h) (Or.inl ⟨by rfl, ?_⟩) (by assumption) ?_
              rotate_left
              · intro w hSw
                try dsimp only at hSw
                go_simp
                try with_reducible rfl
              try simp only [Act.put]
              try simp only [List.setIfInBounds_toArray]
              try simp only [List.set_cons_succ]
              try simp only [List.set_cons_zero]
              refine wpAnyH_take (i := 6) (oi := ({ dst := some 95, op := Go.Op.load 30 (Go.Operand.tmp 3), type := 30, pos := "law.go:160", after := #[{ on := 5, ground := Go.Ground.guard }], guard := some (5, true) } : Go.Oper)) (v := ?_) rfl (by kernel_rfl) (by kernel_rfl) (by kernel_rfl) (fun _ _ _ h => h) (Or.inl ⟨by rfl, ?_⟩) (by assumption) ?_
              rotate_left
              · intro w hSw
                try dsimp only at hSw
                go_simp
                try with_reducible rfl
              try simp only [Act.put]
              try simp only [List.setIfInBounds_toArray]
              try simp only [List.set_cons_succ]
              try simp only [List.set_cons_zero]
              refine wpAnyH_take (i := 7) (oi := ({ dst := some 96, op := Go.Op.load 30 (Go.Operand.tmp 12), type := 30, pos := "law.go:160", after := #[{ on := 5, ground := Go.Ground.guard }], guard := some (5, true) } : Go.Oper)) (v := ?_) rfl (by kernel_rfl) (by kernel_rfl) (by kernel_rfl) (fun _ _ _ h => h) (Or.inl ⟨by rfl, ?_⟩) (by assumption) ?_
              rotate_left
              · intro w hSw
                try dsimp only at hSw
                go_simp
                try with_reducible rfl
              try simp only [Act.put]
              try simp only [List.setIfInBounds_toArray]
              try simp only [List.set_cons_succ]
              try simp only [List.set_cons_zero]
              refine wpAnyH_take (i := 9) (oi := ({ dst := some 98, op := Go.Op.load 30 (Go.Operand.tmp 7), type := 30, pos := "law.go:160", after := #[{ on := 5, ground := Go.Ground.guard }], guard := some (5, true) } : Go.Oper)) (v := ?_) rfl (by kernel_rfl) (by kernel_rfl) (by kernel_rfl) (fun _ _ _ h => h) (Or.inl ⟨by rfl, ?_⟩) (by assumption) ?_
              rotate_left
              · intro w hSw
                try dsimp only at hSw
                go_simp
                try with_reducible rfl
              try simp only [Act.put]
              try simp only [List.setIfInBounds_toArray]
              try simp only [List.set_cons_succ]
              try simp only [List.set_cons_zero]
              refine wpAnyH_ready (rs := [8]) (by kernel_rfl) (by simp) ?_
              refine AllReadyH.cons (o := ({ dst := some 97, op := Go.Op.call { callee := Go.Callee.value (Go.Operand.func 25), args := #[Go.Operand.tmp 95, Go.Operand.tmp 96], argTypes := #[30, 30] }, type := 30, pos := "law.go:160", after := #[{ on := 6, ground := Go.Ground.data }, { on := 7, ground := Go.Ground.data }, { on := 5, ground := Go.Ground.chain }, { on := 5, ground := Go.Ground.guard }], guard := some (5, true) } : Go.Oper)) rfl (fun K hK => ?_) AllReadyH.nil
              go_simp
              refine (HGH.out _ AH kh (HSGz.out.ext hE11.out) (HSHz.out.ext hE11.out)).mono ?_
              rintro e w12 ⟨⟨A12, k12, rfl, HS12, _, hx12⟩, _⟩
              have hE12 : Hid (Ext wz w12) := Lib.hid (hE11.out.trans hx12)
              refine hK.out _ _ ?_ (fun hHeld2 => ?_)
              · exact ⟨Ext.cell hE12.out zv, Ext.cell hE12.out zf, Ext.cell hE12.out zg, Ext.cell hE12.out zh⟩
              clear hHeld
              have hHeld := hHeld2
              clear hHeld2 hK K
              try simp only [Act.put]
              try simp only [List.setIfInBounds_toArray]
              try simp only [List.set_cons_succ]
              try simp only [List.set_cons_zero]
              refine wpAnyH_ready (rs := [10]) (by kernel_rfl) (by simp) ?_
              refine AllReadyH.cons (o := ({ dst := some 99, op := Go.Op.call { callee := Go.Callee.value (Go.Operand.func 28), args := #[Go.Operand.tmp 97, Go.Operand.tmp 98], argTypes := #[30, 30] }, type := 30, pos := "law.go:160", after := #[{ on := 8, ground := Go.Ground.data }, { on := 9, ground := Go.Ground.data }, { on := 8, ground := Go.Ground.chain }, { on := 5, ground := Go.Ground.guard }], guard := some (5, true) } : Go.Oper)) rfl (fun K hK => ?_) AllReadyH.nil
              go_simp
              refine (HL2.out _ A12 k12 HS12.out (HSVz.out.ext hE12.out)).mono ?_
              rintro e w13 ⟨⟨A13, k13, rfl, HS13, _, hx13⟩, _⟩
              have hE13 : Hid (Ext wz w13) := Lib.hid (hE12.out.trans hx13)
              refine hK.out _ _ ?_ (fun hHeld2 => ?_)
              · exact ⟨Ext.cell hE13.out zv, Ext.cell hE13.out zf, Ext.cell hE13.out zg, Ext.cell hE13.out zh⟩
              clear hHeld
              have hHeld := hHeld2
              clear hHeld2 hK K
              try simp only [Act.put]
              try simp only [List.setIfInBounds_toArray]
              try simp only [List.set_cons_succ]
              try simp only [List.set_cons_zero]
              refine wpAnyH_ready (rs := [11]) (by kernel_rfl) (by simp) ?_
              refine AllReadyH.cons (o := ({ dst := some 100, op := Go.Op.call { callee := Go.Callee.value (Go.Operand.func 26), args := #[Go.Operand.tmp 99], argTypes := #[30] }, type := 2, pos := "law.go:160", after := #[{ on := 10, ground := Go.Ground.data }, { on := 10, ground := Go.Ground.chain }, { on := 5, ground := Go.Ground.guard }], guard := some (5, true) } : Go.Oper)) rfl (fun K hK => ?_) AllReadyH.nil
              go_simp
              refine (HL3.out _ A13 k13 HS13.out).mono ?_
              rintro e w14 ⟨rfl, hx14⟩
              have hE14 : Hid (Ext wz w14) := Lib.hid (hE13.out.trans hx14)
              refine hK.out _ _ ?_ (fun hHeld2 => ?_)
              · exact ⟨Ext.cell hE14.out zv, Ext.cell hE14.out zf, Ext.cell hE14.out zg, Ext.cell hE14.out zh⟩
              clear hHeld
              have hHeld := hHeld2
              clear hHeld2 hK K
              try simp only [Act.put]
              try simp only [List.setIfInBounds_toArray]
              try simp only [List.set_cons_succ]
              try simp only [List.set_cons_zero]
              refine wpAnyH_take (i := 12) (oi := ({ dst := some 101, op := Go.Op.binOp Go.BinOp.eql 2 (Go.Operand.tmp 100) (Go.Operand.const (Go.Value.int Go.IntKind.i64 0)) 2, type := 4, pos := "law.go:160", after := #[{ on := 11, ground := Go.Ground.data }, { on := 5, ground := Go.Ground.guard }], guard := some (5, true) } : Go.Oper)) (v := ?_) rfl (by kernel_rfl) (by kernel_rfl) (by kernel_rfl) (fun _ _ _ h => h) (Or.inl ⟨by rfl, ?_⟩) (by assumption) ?_
              rotate_left
              · intro w hSw
                try dsimp only at hSw
                go_simp
                try with_reducible rfl
              try simp only [Act.put]
              try simp only [List.setIfInBounds_toArray]
              try simp only [List.set_cons_succ]
              try simp only [List.set_cons_zero]
              refine wpAnyH_take (i := 13) (oi := ({ dst := some 102, op := Go.Op.pick (Go.Operand.tmp 94) (Go.Operand.tmp 101) (Go.Operand.const (Go.Value.bool false)), type := 4, pos := "law.go:160", after := #[{ on := 5, ground := Go.Ground.data }, { on := 12, ground := Go.Ground.data }], guard := none } : Go.Oper)) (v := ?_) rfl (by kernel_rfl) (by kernel_rfl) (by kernel_rfl) (fun _ _ _ h => h) (Or.inl ⟨by rfl, ?_⟩) (by assumption) ?_
              rotate_left
              · intro w hSw
                try dsimp only at hSw
                go_simp
                try with_reducible rfl
              try simp only [Act.put]
              try simp only [List.setIfInBounds_toArray]
              try simp only [List.set_cons_succ]
              try simp only [List.set_cons_zero]
              refine wpAnyH_take (i := 14) (oi := ({ dst := some 103, op := Go.Op.move (Go.Operand.tmp 102), type := 4, pos := "law.go:160", after := #[{ on := 13, ground := Go.Ground.data }, { on := 11, ground := Go.Ground.chain }], guard := none } : Go.Oper)) (v := ?_) rfl (by kernel_rfl) (by kernel_rfl) (by kernel_rfl) (fun _ _ _ h => h) (Or.inl ⟨by rfl, ?_⟩) (by assumption) ?_
              rotate_left
              · intro w hSw
                try dsimp only at hSw
                go_simp
                try with_reducible rfl
              try simp only [Act.put]
              try simp only [List.setIfInBounds_toArray]
              try simp only [List.set_cons_succ]
              try simp only [List.set_cons_zero]
              refine wpAnyH_take (i := 15) (oi := ({ dst := some 104, op := Go.Op.load 30 (Go.Operand.tmp 7), type := 30, pos := "law.go:160", after := #[{ on := 14, ground := Go.Ground.guard }], guard := some (14, true) } : Go.Oper)) (v := ?_) rfl (by kernel_rfl) (by kernel_rfl) (by kernel_rfl) (fun _ _ _ h => h) (Or.inl ⟨by rfl, ?_⟩) (by assumption) ?_
              rotate_left
              · intro w hSw
                try dsimp only at hSw
                go_simp
                try with_reducible rfl
              try simp only [Act.put]
              try simp only [List.setIfInBounds_toArray]
              try simp only [List.set_cons_succ]
              try simp only [List.set_cons_zero]
              refine wpAnyH_ready (rs := [16]) (by kernel_rfl) (by simp) ?_
              refine AllReadyH.cons (o := ({ dst := some 105, op := Go.Op.call { callee := Go.Callee.value (Go.Operand.func 26), args := #[Go.Operand.tmp 104], argTypes := #[30] }, type := 2, pos := "law.go:160", after := #[{ on := 15, ground := Go.Ground.data }, { on := 14, ground := Go.Ground.chain }, { on := 14, ground := Go.Ground.guard }], guard := some (14, true) } : Go.Oper)) rfl (fun K hK => ?_) AllReadyH.nil
              go_simp
              refine (HLA.out _ (HSVz.out.ext hE14.out)).mono ?_
              rintro e w15 ⟨rfl, hx15⟩
              have hE15 : Hid (Ext wz w15) := Lib.hid (hE14.out.trans hx15)
              refine hK.out _ _ ?_ (fun hHeld2 => ?_)
              · exact ⟨Ext.cell hE15.out zv, Ext.cell hE15.out zf, Ext.cell hE15.out zg, Ext.cell hE15.out zh⟩
              clear hHeld
              have hHeld := hHeld2
              clear hHeld2 hK K
              try simp only [Act.put]
              try simp only [List.setIfInBounds_toArray]
              try simp only [List.set_cons_succ]
              try simp only [List.set_cons_zero]
              refine wpAnyH_take (i := 17) (oi := ({ dst := some 106, op := Go.Op.binOp Go.BinOp.eql 2 (Go.Operand.tmp 105) (Go.Operand.const (Go.Value.int Go.IntKind.i64 4611686018427387904)) 2, type := 4, pos := "law.go:160", after := #[{ on := 16, ground := Go.Ground.data }, { on := 14, ground := Go.Ground.guard }], guard := some (14, true) } : Go.Oper)) (v := ?_) rfl (by kernel_rfl) (by kernel_rfl) (by kernel_rfl) (fun _ _ _ h => h) (Or.inl ⟨by rfl, ?_⟩) (by assumption) ?_
              rotate_left
              · intro w hSw
                try dsimp only at hSw
                go_simp
                try with_reducible rfl
              try simp only [Act.put]
              try simp only [List.setIfInBounds_toArray]
              try simp only [List.set_cons_succ]
              try simp only [List.set_cons_zero]
              refine wpAnyH_take (i := 18) (oi := ({ dst := some 107, op := Go.Op.move (Go.Operand.tmp 106), type := 4, pos := "law.go:160", after := #[{ on := 17, ground := Go.Ground.data }, { on := 16, ground := Go.Ground.chain }, { on := 14, ground := Go.Ground.guard }], guard := some (14, true) } : Go.Oper)) (v := ?_) rfl (by kernel_rfl) (by kernel_rfl) (by kernel_rfl) (fun _ _ _ h => h) (Or.inl ⟨by rfl, ?_⟩) (by assumption) ?_
              rotate_left
              · intro w hSw
                try dsimp only at hSw
                go_simp
                try with_reducible rfl
              try simp only [Act.put]
              try simp only [List.setIfInBounds_toArray]
              try simp only [List.set_cons_succ]
              try simp only [List.set_cons_zero]
              refine wpAnyH_take (i := 19) (oi := ({ dst := some 108, op := Go.Op.load 30 (Go.Operand.tmp 7), type := 30, pos := "law.go:160", after := #[{ on := 18, ground := Go.Ground.guard }], guard := some (18, false) } : Go.Oper)) (v := undef) rfl (by kernel_rfl) (by kernel_rfl) (by kernel_rfl) (fun _ _ _ h => h) (Or.inr ⟨by rfl, rfl⟩) (by assumption) ?_
              try simp only [Act.put]
              try simp only [List.setIfInBounds_toArray]
              try simp only [List.set_cons_succ]
              try simp only [List.set_cons_zero]
              refine wpAnyH_take (i := 20) (oi := ({ dst := some 109, op := Go.Op.call { callee := Go.Callee.value (Go.Operand.func 26), args := #[Go.Operand.tmp 108], argTypes := #[30] }, type := 2, pos := "law.go:160", after := #[{ on := 19, ground := Go.Ground.data }, { on := 18, ground := Go.Ground.chain }, { on := 18, ground := Go.Ground.guard }], guard := some (18, false) } : Go.Oper)) (v := undef) rfl (by kernel_rfl) (by kernel_rfl) (by kernel_rfl) (fun _ _ _ h => h) (Or.inr ⟨by rfl, rfl⟩) (by assumption) ?_
              try simp only [Act.put]
              try simp only [List.setIfInBounds_toArray]
              try simp only [List.set_cons_succ]
              try simp only [List.set_cons_zero]
              refine wpAnyH_take (i := 21) (oi := ({ dst := some 110, op := Go.Op.move (Go.Operand.tmp 8), type := 2, pos := "law.go:160", after := #[{ on := 18, ground := Go.Ground.guard }], guard := some (18, false) } : Go.Oper)) (v := undef) rfl (by kernel_rfl) (by kernel_rfl) (by kernel_rfl) (fun _ _ _ h => h) (Or.inr ⟨by rfl, rfl⟩) (by assumption) ?_
              try simp only [Act.put]
              try simp only [List.setIfInBounds_toArray]
              try simp only [List.set_cons_succ]
              try simp only [List.set_cons_zero]
              refine wpAnyH_take (i := 22) (oi := ({ dst := some 111, op := Go.Op.binOp Go.BinOp.eql 2 (Go.Operand.tmp 109) (Go.Operand.tmp 110) 2, type := 4, pos := "law.go:160", after := #[{ on := 20, ground := Go.Ground.data }, { on := 21, ground := Go.Ground.data }, { on := 18, ground := Go.Ground.guard }], guard := some (18, false) } : Go.Oper)) (v := undef) rfl (by kernel_rfl) (by kernel_rfl) (by kernel_rfl) (fun _ _ _ h => h) (Or.inr ⟨by rfl, rfl⟩) (by assumption) ?_
              try simp only [Act.put]
              try simp only [List.setIfInBounds_toArray]
              try simp only [List.set_cons_succ]
              try simp only [List.set_cons_zero]
              refine wpAnyH_take (i := 23) (oi := ({ dst := some 112, op := Go.Op.pick (Go.Operand.tmp 107) (Go.Operand.const (Go.Value.bool true)) (Go.Operand.tmp 111), type := 4, pos := "law.go:160", after := #[{ on := 18, ground := Go.Ground.data }, { on := 22, ground := Go.Ground.data }, { on := 14, ground := Go.Ground.guard }], guard := some (14, true) } : Go.Oper)) (v := ?_) rfl (by kernel_rfl) (by kernel_rfl) (by kernel_rfl) (fun _ _ _ h => h) (Or.inl ⟨by rfl, ?_⟩) (by assumption) ?_
              rotate_left
              · intro w hSw
                try dsimp only at hSw
                go_simp
                try with_reducible rfl
              try simp only [Act.put]
              try simp only [List.setIfInBounds_toArray]
              try simp only [List.set_cons_succ]
              try simp only [List.set_cons_zero]
              refine wpAnyH_take (i := 24) (oi := ({ dst := some 113, op := Go.Op.pick (Go.Operand.tmp 103) (Go.Operand.tmp 112) (Go.Operand.const (Go.Value.bool false)), type := 4, pos := "law.go:160", after := #[{ on := 14, ground := Go.Ground.data }, { on := 23, ground := Go.Ground.data }], guard := none } : Go.Oper)) (v := ?_) rfl (by kernel_rfl) (by kernel_rfl) (by kernel_rfl) (fun _ _ _ h => h) (Or.inl ⟨by rfl, ?_⟩) (by assumption) ?_
              rotate_left
              · intro w hSw
                try dsimp only at hSw
                go_simp
                try with_reducible rfl
              try simp only [Act.put]
              try simp only [List.setIfInBounds_toArray]
              try simp only [List.set_cons_succ]
              try simp only [List.set_cons_zero]
              refine wpAnyH_take (i := 25) (oi := ({ dst := some 2, op := Go.Op.assign (Go.Operand.tmp 113), type := 4, pos := "law.go:160", after := #[{ on := 24, ground := Go.Ground.data }, { on := 20, ground := Go.Ground.chain }, { on := 0, ground := Go.Ground.phase }, { on := 1, ground := Go.Ground.phase }, { on := 2, ground := Go.Ground.phase }, { on := 3, ground := Go.Ground.phase }, { on := 4, ground := Go.Ground.phase }, { on := 5, ground := Go.Ground.phase }, { on := 6, ground := Go.Ground.phase }, { on := 7, ground := Go.Ground.phase }, { on := 8, ground := Go.Ground.phase }, { on := 9, ground := Go.Ground.phase }, { on := 10, ground := Go.Ground.phase }, { on := 11, ground := Go.Ground.phase }, { on := 12, ground := Go.Ground.phase }, { on := 13, ground := Go.Ground.phase }, { on := 14, ground := Go.Ground.phase }, { on := 15, ground := Go.Ground.phase }, { on := 16, ground := Go.Ground.phase }, { on := 17, ground := Go.Ground.phase }, { on := 18, ground := Go.Ground.phase }, { on := 19, ground := Go.Ground.phase }, { on := 20, ground := Go.Ground.phase }, { on := 21, ground := Go.Ground.phase }, { on := 22, ground := Go.Ground.phase }, { on := 23, ground := Go.Ground.phase }, { on := 24, ground := Go.Ground.phase }], guard := none } : Go.Oper)) (v := ?_) rfl (by kernel_rfl) (by kernel_rfl) (by kernel_rfl) (fun _ _ _ h => h) (Or.inl ⟨by rfl, ?_⟩) (by assumption) ?_
              rotate_left
              · intro w hSw
                try dsimp only at hSw
                go_simp
                try with_reducible rfl
              try simp only [Act.put]
              try simp only [List.setIfInBounds_toArray]
              try simp only [List.set_cons_succ]
              try simp only [List.set_cons_zero]
              refine wpAnyH_done (by kernel_rfl) ?_ _
              go_wp2
              go_ret
              exact ⟨by simp, HWZ.out.trans hE15.out⟩
            · have he4 := he3.resolve_left hO
              rw [he4] at hla hO
              have HLA := Lib.hid hla
              have hOb : (bp == 4611686018427387904) = false := beq_eq_false_iff_ne.2 hO
              have hOd : decide (bp = 4611686018427387904) = false := decide_eq_false hO
              clear hla he3 he4
              go_wp2
              go_region_held3 (fun w' => w'.cell? ⟨ab, 0, none⟩ = some (.slice AV VP.length cv) ∧ w'.cell? ⟨w3.heap.size + 1, 0, none⟩ = some (.slice A2 F.length k2) ∧ w'.cell? ⟨w3.heap.size, 0, none⟩ = some (.slice A1 G.length k1) ∧ w'.cell? ⟨hb, 0, none⟩ = some (.slice AH (boxS n).length kh))
                ((refine (fun hE => ⟨Ext.cell hE zv, Ext.cell hE zf, Ext.cell hE zg, Ext.cell hE zh⟩ : Ext wz _ → _) ?_
                  (repeat' with_reducible first | exact hE16.out | exact hE15.out | exact hE14.out | exact hE13.out | exact hE12.out | exact hE11.out | exact hE10.out | exact Ext.refl _ | refine Ext.drew ?_ | refine Ext.alloc ?_ _)))
                (first
                  | (go_at_call 28
                     (with_reducible refine (HLF.out _ (HSVz.out.ext (by (repeat' first | with_reducible exact Ext.refl _ | with_reducible refine Ext.drew ?_ | with_reducible refine Ext.alloc ?_ _))) (HSFz.out.ext (by (repeat' first | with_reducible exact Ext.refl _ | with_reducible refine Ext.drew ?_ | with_reducible refine Ext.alloc ?_ _)))).mono ?_)
                     rintro e w10 ⟨⟨A10, k10, rfl, HS10, _, hx10⟩, _⟩
                     have hE10 : Hid (Ext wz w10) := Lib.hid (Ext.trans (by (repeat' first | with_reducible exact Ext.refl _ | with_reducible refine Ext.drew ?_ | with_reducible refine Ext.alloc ?_ _)) hx10))
                  | (go_at_call 26
                     (with_reducible refine (HL1.out _ A10 k10 HS10.out).mono ?_)
                     rintro e w11 ⟨rfl, hx11⟩
                     have hE11 : Hid (Ext wz w11) := Lib.hid (hE10.out.trans hx11))
                  | (go_at_call 25
                     (with_reducible refine (HGH.out _ AH kh (HSGz.out.ext hE11.out) (HSHz.out.ext hE11.out)).mono ?_)
                     rintro e w12 ⟨⟨A12, k12, rfl, HS12, _, hx12⟩, _⟩
                     have hE12 : Hid (Ext wz w12) := Lib.hid (hE11.out.trans hx12))
                  | (go_at_call 28
                     (with_reducible refine (HL2.out _ A12 k12 HS12.out (HSVz.out.ext hE12.out)).mono ?_)
                     rintro e w13 ⟨⟨A13, k13, rfl, HS13, _, hx13⟩, _⟩
                     have hE13 : Hid (Ext wz w13) := Lib.hid (hE12.out.trans hx13))
                  | (go_at_call 26
                     (with_reducible refine (HL3.out _ A13 k13 HS13.out).mono ?_)
                     rintro e w14 ⟨rfl, hx14⟩
                     have hE14 : Hid (Ext wz w14) := Lib.hid (hE13.out.trans hx14))
                  | (go_at_call 26
                     (with_reducible refine (HLA.out _ (HSVz.out.ext hE14.out)).mono ?_)
                     rintro e w15 ⟨rfl, hx15⟩
                     have hE15 : Hid (Ext wz w15) := Lib.hid (hE14.out.trans hx15))
                  | (go_at_call 26
                     (with_reducible refine (HLA.out _ (HSVz.out.ext hE15.out)).mono ?_)
                     rintro e w16 ⟨rfl, hx16⟩
                     have hE16 : Hid (Ext wz w16) := Lib.hid (hE15.out.trans hx16)))
              all_goals go_wp2
              all_goals go_ret
              all_goals exact ⟨by simp, HWZ.out.trans (by first | exact hE16.out | exact hE15.out)⟩
end Go.Proofs.Ytdcdnnbijjcfmaa
