/- The contract of plan.check. -/
import Derived.Test.YtdcdnnbijjcfmaaChk
namespace Go.Proofs.Ytdcdnnbijjcfmaa
open Go.RowKit

theorem first_zero {L : List Sp} (h : Norm L) : (firstS L 0).isSome = decide (0 < L.length) := by
  unfold firstS
  cases L with
  | nil => simp
  | cons s L =>
    have h0 : s.ok := (norm_cons.1 h).1
    have hb : beh (s :: L) 0 = 0 := beh_eq (by simp) (fun i _ h => absurd h (by omega)) (by have := h0.2.1; have := h0.1; simp; omega)
    rw [hb]
    simp
theorem optV_agg (x : Option Sp) : ∃ p q, optV x = .agg #[.int .i64 p, .int .i64 q] := ⟨_, _, rfl⟩
/-- What is wrong: 0, ErrArg, ErrHeld. -/
def chkE (n : Int) (c : Cf) (W F : List Sp) : Int := if okB n c then (if heldB W F then 15 else 0) else 1
def chkS (n : Int) (c : Cf) (W F : List Sp) : List Sp := if chkE n c W F = 0 then W else []
def ChkPost (w : World) (L : List Sp) (r : Int) (e : Ending) (w' : World) : Prop := ∃ A c, e = .returned (.tuple #[.agg #[.slice A L.length c], .int .i64 r]) ∧ Hid (SAt w' A L) ∧ Hid (NewA w A) ∧ Ext w w'

set_option maxHeartbeats 8000000 in
set_option maxRecDepth 100000 in
theorem check_calls (A : Option Addr) (ca : Nat) (g : List Sp) (B : Option Addr) (d : Nat) (F : List Sp) (n : Int) (c : Cf) (w : World) (hg : SAt w A g) (hF : SAt w B F) (ng : Norm g) (nF : Norm F) (hlg : g.length ≤ 50000) (hlF : F.length ≤ 100000) :
    Calls Try.prog 31 #[.agg #[.slice A g.length ca], .agg #[.slice B F.length d], .int .i64 n, .agg c.cells.toArray] w (ChkPost w (chkS n c (unitsS g n c.u) F) (chkE n c (unitsS g n c.u) F)) := by
  obtain ⟨u, wa, mo, r3, r4, r5, r6, r7, r8, r9⟩ := c
  show Calls Try.prog 31 #[.agg #[.slice A g.length ca], .agg #[.slice B F.length d], .int .i64 n, .agg #[.int .i64 u, .int .i64 wa, .int .i64 mo, .int .i64 r3, .int .i64 r4, .int .i64 r5, .int .i64 r6, .int .i64 r7, .int .i64 r8, .int .i64 r9]] w (ChkPost w (chkS n ⟨u, wa, mo, r3, r4, r5, r6, r7, r8, r9⟩ (unitsS g n u) F) (chkE n ⟨u, wa, mo, r3, r4, r5, r6, r7, r8, r9⟩ (unitsS g n u) F))
  have hEd : chkE n ⟨u, wa, mo, r3, r4, r5, r6, r7, r8, r9⟩ (unitsS g n u) F = if (measB n u && decide (0 ≤ wa) && decide (u ≤ mo)) then (if heldB (unitsS g n u) F then 15 else 0) else 1 := rfl
  have hSd : chkS n ⟨u, wa, mo, r3, r4, r5, r6, r7, r8, r9⟩ (unitsS g n u) F = if chkE n ⟨u, wa, mo, r3, r4, r5, r6, r7, r8, r9⟩ (unitsS g n u) F = 0 then unitsS g n u else [] := rfl
  have hnu : Norm (unitsS g n u) := units_norm g n u
  have HUC : Hid (∀ W, SAt W A g → Calls Try.prog 20 #[.agg #[.slice A g.length ca], .int .i64 n, .int .i64 u] W fun e w' => SetPost W (unitsS g n u) e w' ∧ (unitsS g n u).length ≤ g.length + 2) := Lib.hid fun W hW => unitsC_calls A ca g n u W hW ng (by omega)
  generalize chkE n ⟨u, wa, mo, r3, r4, r5, r6, r7, r8, r9⟩ (unitsS g n u) F = E at *
  generalize chkS n ⟨u, wa, mo, r3, r4, r5, r6, r7, r8, r9⟩ (unitsS g n u) F = S at *
  generalize unitsS g n u = U at *
  have HE := Lib.hid hEd
  have HS := Lib.hid hSd
  have HNU := Lib.hid hnu
  clear hEd hSd hnu
  have hx0 : Ext w ((((w.alloc (.cells #[.slice A g.length ca] 30)).alloc (.cells #[.slice B F.length d] 30)).alloc (.cells #[.int .i64 u, .int .i64 wa, .int .i64 mo, .int .i64 r3, .int .i64 r4, .int .i64 r5, .int .i64 r6, .int .i64 r7, .int .i64 r8, .int .i64 r9] 24)).alloc (.cells #[.slice none 0 0] 30)) := ((((Ext.refl w).alloc _).alloc _).alloc _).alloc _
  cases em : (measB n u && decide (0 ≤ wa) && decide (u ≤ mo))
  · have HE2 : Hid (E = 1) := Lib.hid (by rw [HE.out, em]; rfl)
    have HS2 : Hid (S = []) := Lib.hid (by rw [HS.out, HE2.out]; rfl)
    clear HE HS HUC
    cases e1 : measB n u
    · go_enter Try.func31, Try.ntmps31
      go_wp2_with (go_at_call 44; refine (measures_calls n u _).mono ?_; rintro e w' ⟨rfl, rfl⟩; rw [e1])
      refine bodyPost_ret (v := .tuple #[.agg #[.slice none 0 0], .int .i64 1]) (by simp [results, Try.results31, go_sem]) rfl ⟨none, 0, by rw [HE2.out, HS2.out]; rfl, Lib.hid (by rw [HS2.out]; exact SAt.nil _ _), Lib.hid (fun b o e => by cases e), ?_⟩
      exact hx0
    · by_cases e2 : 0 ≤ wa
      · have e3 : ¬ u ≤ mo := fun e3 => by rw [e1] at em; simp [e2, e3] at em
        clear em
        go_enter Try.func31, Try.ntmps31
        go_wp2_with (go_at_call 44; refine (measures_calls n u _).mono ?_; rintro e w' ⟨rfl, rfl⟩; rw [e1])
        refine bodyPost_ret (v := .tuple #[.agg #[.slice none 0 0], .int .i64 1]) (by simp [results, Try.results31, go_sem]) rfl ⟨none, 0, by rw [HE2.out, HS2.out]; rfl, Lib.hid (by rw [HS2.out]; exact SAt.nil _ _), Lib.hid (fun b o e => by cases e), ?_⟩
        exact hx0
      · clear em
        go_enter Try.func31, Try.ntmps31
        go_wp2_with (go_at_call 44; refine (measures_calls n u _).mono ?_; rintro e w' ⟨rfl, rfl⟩; rw [e1])
        refine bodyPost_ret (v := .tuple #[.agg #[.slice none 0 0], .int .i64 1]) (by simp [results, Try.results31, go_sem]) rfl ⟨none, 0, by rw [HE2.out, HS2.out]; rfl, Lib.hid (by rw [HS2.out]; exact SAt.nil _ _), Lib.hid (fun b o e => by cases e), ?_⟩
        exact hx0
  · have HE2 : Hid (E = if heldB U F then 15 else 0) := Lib.hid (by rw [HE.out, em]; rfl)
    simp only [Bool.and_eq_true, decide_eq_true_eq] at em
    obtain ⟨⟨e1, e2⟩, e3⟩ := em
    clear HE
    have c0 : ((((w.alloc (.cells #[.slice A g.length ca] 30)).alloc (.cells #[.slice B F.length d] 30)).alloc (.cells #[.int .i64 u, .int .i64 wa, .int .i64 mo, .int .i64 r3, .int .i64 r4, .int .i64 r5, .int .i64 r6, .int .i64 r7, .int .i64 r8, .int .i64 r9] 24)).alloc (.cells #[.slice none 0 0] 30)).cell? ⟨w.heap.size + 1, 0, none⟩ = some (.slice B F.length d) := by simp [go_sem]
    have b3 : ((((w.alloc (.cells #[.slice A g.length ca] 30)).alloc (.cells #[.slice B F.length d] 30)).alloc (.cells #[.int .i64 u, .int .i64 wa, .int .i64 mo, .int .i64 r3, .int .i64 r4, .int .i64 r5, .int .i64 r6, .int .i64 r7, .int .i64 r8, .int .i64 r9] 24)).alloc (.cells #[.slice none 0 0] 30)).heap[w.heap.size + 1 + 1 + 1]? = some (.cells #[.slice none 0 0] 30 (0, 0)) := by
      have := heap_alloc_new (((w.alloc (.cells #[.slice A g.length ca] 30)).alloc (.cells #[.slice B F.length d] 30)).alloc (.cells #[.int .i64 u, .int .i64 wa, .int .i64 mo, .int .i64 r3, .int .i64 r4, .int .i64 r5, .int .i64 r6, .int .i64 r7, .int .i64 r8, .int .i64 r9] 24)) (.cells #[.slice none 0 0] 30)
      simpa using this
    have z3 := (Array.getElem?_eq_some_iff.1 b3).1
    have HCU := Lib.hid (HUC.out _ (hg.ext hx0))
    clear HUC
    have HF := Lib.hid (hF.ext hx0)
    clear hg hF
    go_enter Try.func31, Try.ntmps31
    go_wp2_with (go_at_call 44; refine (measures_calls n u _).mono ?_; rintro e w' ⟨rfl, rfl⟩; rw [e1])
    generalize ((((w.alloc (.cells #[.slice A g.length ca] 30)).alloc (.cells #[.slice B F.length d] 30)).alloc (.cells #[.int .i64 u, .int .i64 wa, .int .i64 mo, .int .i64 r3, .int .i64 r4, .int .i64 r5, .int .i64 r6, .int .i64 r7, .int .i64 r8, .int .i64 r9] 24)).alloc (.cells #[.slice none 0 0] 30)) = w3 at *
    refine HCU.out.mono ?_
    rintro e w4 ⟨⟨A4, c4, rfl, HS4, HN4, hx4⟩, hl4⟩
    have hxb := hx4.alloc (.cells #[.slice A4 U.length c4] 30)
    have d0 := hxb.cell c0
    have bR : Boxed (w4.alloc (.cells #[.slice A4 U.length c4] 30)) (w.heap.size + 1 + 1 + 1) 30 (.slice none 0 0) := hxb.block b3
    have hS5 := HS4.out.ext ((Ext.refl w4).alloc (.cells #[.slice A4 U.length c4] 30))
    have u0 : (w4.alloc (.cells #[.slice A4 U.length c4] 30)).cell? ⟨w4.heap.size, 0, none⟩ = some (.slice A4 U.length c4) := by simp [go_sem]
    have hls := less_calls A4 c4 U B d F _ hS5 (HF.out.ext hxb) HNU.out nF (by omega) (by omega)
    have HLS := Lib.hid hls
    clear hls HCU c0 b3
    have hHB : heldB U F = decide (0 < (lessS U F).length) := rfl
    have HHB := Lib.hid hHB
    have HNL : Hid (Norm (lessS U F)) := Lib.hid (norm_less _ _)
    have hzz : w3.heap.size ≤ w4.heap.size := hx4.size
    generalize heldB U F = hb at *
    generalize lessS U F = L at *
    clear hHB
    go_wp2_with fail
    refine HLS.out.mono ?_
    rintro e w5 ⟨⟨A5, c5, rfl, HS5, _, hx5⟩, hl5⟩
    have hfc := first_calls A5 c5 L 0 w5 HS5.out HNL.out (by omega)
    rw [first_zero HNL.out, ← HHB.out] at hfc
    obtain ⟨p, q, hpq⟩ := optV_agg (firstS L 0)
    rw [hpq] at hfc
    have HFC := Lib.hid hfc
    clear hfc hpq
    go_wp2_with fail
    refine HFC.out.mono ?_
    rintro e w6 ⟨rfl, hx6⟩
    have hx46 := hx5.trans hx6
    have u6 := hx46.cell u0
    have bR6 : Boxed w6 (w.heap.size + 1 + 1 + 1) 30 (.slice none 0 0) := hx46.block bR
    have r6' := bR6.cell
    have f6' := bR6.frozen
    have hSf := hS5.ext hx46
    have hE : Ext w w6 := (hx0.trans hxb).trans hx46
    have hz := (Array.getElem?_eq_some_iff.1 bR6).1
    clear HLS HFC hx5 hx6 hx46 d0
    cases hb
    · have HE3 : Hid (E = 0) := Lib.hid (by rw [HE2.out]; rfl)
      have HS3 : Hid (S = U) := Lib.hid (by rw [HS.out, HE3.out]; rfl)
      have hne : ∀ b o, A4 = some ⟨b, o, none⟩ → b ≠ w.heap.size + 1 + 1 + 1 := fun b o e => by have := HN4.out b o e; omega
      have HNE := Lib.hid hne
      clear hne
      have hzu : w4.heap.size < w6.heap.size := block_of_cell u6
      have u7 := ((Ext.refl w6).alloc (.cells #[.int .i64 p, .int .i64 q] 48)).cell u6
      go_wp2
      refine bodyPost_ret (v := .tuple #[.agg #[.slice A4 U.length c4], .int .i64 0]) (by simp [results, Try.results31, go_sem, r6', hz]) rfl ⟨A4, c4, by rw [HE3.out, HS3.out], Lib.hid ?_, Lib.hid (fun b o e => Nat.le_trans hx0.size (HN4.out b o e)), ?_⟩
      · rw [HS3.out]
        exact (hSf.blocks fun b o e _ => Below.heap_setCell w6 ⟨w.heap.size + 1 + 1 + 1, 0, none⟩ _ _ (HNE.out b o e)).ext ((Ext.refl _).alloc _)
      · exact (hE.setCell (p := ⟨w.heap.size + 1 + 1 + 1, 0, none⟩) (by show w.heap.size ≤ w.heap.size + 1 + 1 + 1; omega) _).alloc _
    · have HE3 : Hid (E = 15) := Lib.hid (by rw [HE2.out]; rfl)
      have HS3 : Hid (S = []) := Lib.hid (by rw [HS.out, HE3.out]; rfl)
      go_wp2
      refine bodyPost_ret (v := .tuple #[.agg #[.slice none 0 0], .int .i64 15]) (by simp [results, Try.results31, go_sem, r6', hz]) rfl ⟨none, 0, by rw [HE3.out, HS3.out]; rfl, Lib.hid (by rw [HS3.out]; exact SAt.nil _ _), Lib.hid (fun b o e => by cases e), ?_⟩
      exact (hE.setCell (p := ⟨w.heap.size + 1 + 1 + 1, 0, none⟩) (by show w.heap.size ≤ w.heap.size + 1 + 1 + 1; omega) _).alloc _
end Go.Proofs.Ytdcdnnbijjcfmaa
