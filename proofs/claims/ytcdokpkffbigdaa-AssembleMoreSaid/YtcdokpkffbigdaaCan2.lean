/- What a body can tell, as both sides say it; a walk over it that counts. -/
import Derived.Test.YtcdokpkffbigdaaPru
namespace Go.Proofs.Ytcdokpkffbigdaa
open Go.RowKit

theorem pcan_rcan {S : List Sp} {L : List Pt} (h : ROk L) : pcanL S (L.map Pt.nz) = rcanL S L := by
  induction L with
  | nil => rfl
  | cons p l ih =>
    obtain ⟨h1, h2⟩ := h.each p (by simp)
    have hi := ih h.tail
    simp only [List.map_cons, pcanL, rcanL]
    by_cases hs : p.s = []
    · rw [nz_span hs]
      have hp := h2 hs
      cases hr : readyS p S with
      | none => simp [ready_none hr]
      | some q =>
        obtain ⟨q1, q2, q3, q4, q5⟩ := ready_span hr hs hp.2.1
        rw [if_neg (by omega)]
        rcases q with ⟨qs, qf, qt⟩
        rcases p with ⟨ps, pf, pt⟩
        simp only at q1 q2 q3 hs q5 hp
        subst q1 hs q2
        have hA : cutA ⟨[], qf, pt⟩ (canS ⟨[], qf, pt⟩ S) = ⟨[], qf, qt⟩ := by simp [cutA, q3]
        have hE : (cutB ⟨[], qf, pt⟩ (canS ⟨[], qf, pt⟩ S)).isE = decide (qt = pt) := by rw [Bool.eq_iff_iff]; simp [cutB, Pt.isE, q3]
        simp only [hA, hE, hi]
        by_cases he : qt = pt <;> simp [he]
    · have hc := canS_text (S := S) hs
      have hr : readyS p.nz S = some p.nz := by unfold readyS; rw [nz_s, if_neg hs]
      have hl : p.s.length ≠ 0 := by simpa using hs
      rw [hr, hc, if_neg (by omega)]
      have hA : cutA p (p.s.length : Int) = p.nz := by unfold cutA Pt.nz; rw [if_neg hs, if_neg hs]; simp
      have hE : (cutB p (p.s.length : Int)).isE = true := by unfold cutB; rw [if_neg hs]; simp [Pt.isE]
      simp only [hA, hE, if_true, hi]

set_option maxHeartbeats 4000000 in
set_option maxRecDepth 100000 in
theorem iter2_calls (y o o2 n₀ bl bh : Nat) (hent : ∀ (args : Array Value) (w : World), (callFunc y args).run Try.prog w = .ok (.enter y args) w) (P : List Pt) (A : Option Addr) (c : Nat) (B : Option Addr) (d : Nat) (S : List Sp) (J Jx : List Pt → World → Prop)
    (Rw : World → Nat → Prop) (ho : o < n₀) (hRw : ∀ L w w' g, J L w → Ext w w' → Rw w' g → g < w.heap.size) (hJ : ∀ L w w', J L w → Ext w w' → J L w') (hN : Norm S) (hlS : S.length ≤ 1000000)
    (hy : ∀ L q w, J L w → (L ++ [q]) <+: pcanL S P → n₀ ≤ w.heap.size → Calls Try.prog y #[.agg #[.string ⟨q.s.toArray⟩, .int .i64 q.f, .int .i64 q.t], .pointer (some ⟨o, 0, none⟩), .pointer (some ⟨o2, 0, none⟩)] w fun e w' =>
      ∃ r, e = .returned (.bool r) ∧ Ky o n₀ Rw w w' ∧ (r = true → J (L ++ [q]) w') ∧ (r = false → Jx (L ++ [q]) w'))
    (w : World) (hn : n₀ ≤ w.heap.size) (hl : w.heap[bl]? = some (.cells #[.slice A P.length c] 22 (0, 0))) (hh : w.heap[bh]? = some (.cells #[.slice B S.length d] 34 (0, 0)))
    (_ : bl < n₀ ∧ bl ≠ o) (hho : bh < n₀ ∧ bh ≠ o) (hP : PAt w A P) (hA : 0 < P.length → ∀ b o', A = some ⟨b, o', none⟩ → b < n₀ ∧ b ≠ o) (hS : SAt w B S) (hB : 0 < S.length → ∀ b o', B = some ⟨b, o', none⟩ → b < n₀ ∧ b ≠ o) (hlen : P.length ≤ 1000000) (hJ0 : J [] w) :
    Calls Try.prog 48 #[.func (.func y) #[] #[.pointer (some ⟨o, 0, none⟩), .pointer (some ⟨o2, 0, none⟩)], .pointer (some ⟨bl, 0, none⟩), .pointer (some ⟨bh, 0, none⟩)] w fun e w' =>
      e = .returned (.tuple #[]) ∧ Kq o n₀ w w' ∧ Ended J Jx (pcanL S P) w' := by
  have l0 : w.cell? ⟨bl, 0, none⟩ = some (.slice A P.length c) := by rw [cell_of_block hl]; rfl
  go_enter Try.func48, Try.ntmps48
  go_wp2
  clear l0
  go_loopw [10] (fun i wr => ∃ k : Nat, k ≤ P.length ∧ i = .int .i64 k ∧ Kq o n₀ w wr ∧ J (P.take k) wr ∧ Hid (pcanL S P = P.take k ++ pcanL S (P.drop k))) (fun i _ => P.length - (intOf i).toNat)
  case atStart => exact ⟨0, Nat.zero_le _, rfl, Kq.refl _ _ _, hJ0, Lib.hid rfl⟩
  case round =>
    obtain ⟨k, hk, rfl, hkq, hj, hpc⟩ := hrel
    by_cases hlt : k < P.length
    · obtain ⟨b, o', rfl, p0, p1, p2⟩ := (hP.kq hkq hA) k hlt
      have hts : P.take (k + 1) = P.take k ++ [P[k]] := List.take_succ_eq_append_getElem hlt
      have hd : P.drop k = P[k] :: P.drop (k + 1) := List.drop_eq_getElem_cons hlt
      rw [hd] at hpc
      have hh1 := (hkq.block _ hho.1 hho.2).trans hh
      have h0 : wr.cell? ⟨bh, 0, none⟩ = some (.slice B S.length d) := by rw [cell_of_block hh1]; rfl
      have hSr := hS.kq hkq hB
      have hnr : n₀ ≤ wr.heap.size := Nat.le_trans hn hkq.size
      generalize hp : P[k] = p at *
      have hHlt := (Array.getElem?_eq_some_iff.1 hh1).1
      have HTS := Lib.hid hts
      have HH1 := Lib.hid hh1
      rcases p with ⟨s, f, t⟩
      simp only at p0 p1 p2
      have hxp : Ext wr (wr.alloc (.cells #[.string ⟨s.toArray⟩, .int .i64 f, .int .i64 t] 40)) := (Ext.refl wr).alloc _
      have bp := heap_alloc_new wr (.cells #[.string ⟨s.toArray⟩, .int .i64 f, .int .i64 t] 40)
      have HRD := Lib.hid (ready_calls s f t B d S _ (hSr.ext hxp) hN hlS)
      replace h0 := hxp.cell h0
      clear hts hd hh1 hh hl hP hSr hS hp
      go_wp2_with fail
      generalize (wr.alloc (.cells #[.string ⟨s.toArray⟩, .int .i64 f, .int .i64 t] 40)) = wa at *
      refine HRD.out.mono ?_
      rintro e w1 ⟨rfl, hx1⟩
      have hxr := hxp.trans hx1
      replace bp := hx1.block bp
      have y0 : w1.cell? ⟨wr.heap.size, 0, none⟩ = some (.string ⟨s.toArray⟩) := by rw [cell_of_block bp]; rfl
      have y1 : w1.cell? ⟨wr.heap.size, 1, none⟩ = some (.int .i64 f) := by rw [cell_of_block bp]; rfl
      have y2 : w1.cell? ⟨wr.heap.size, 2, none⟩ = some (.int .i64 t) := by rw [cell_of_block bp]; rfl
      have hrb : wr.heap.size < w1.heap.size := (Array.getElem?_eq_some_iff.1 bp).1
      have BP := Lib.hid bp
      clear HRD hx1 hxp bp p0 p1 p2 h0
      cases hR : readyS ⟨s, f, t⟩ S with
      | none =>
        have HF : Hid (pcanL S P = P.take k) := Lib.hid (by rw [hpc.out]; simp [pcanL, hR])
        have hv : optP none = .agg #[.string ⟨#[]⟩, .int .i64 0, .int .i64 0] := rfl
        rw [hv]
        have hjx := hJ _ _ _ hj (hxr.alloc (.cells #[.string ⟨#[]⟩, .int .i64 0, .int .i64 0] 40))
        have hkx := hkq.trans (Kq.of_ext (o := o) (hxr.alloc (.cells #[.string ⟨#[]⟩, .int .i64 0, .int .i64 0] 40)) hnr)
        clear hv hR hpc
        go_wp2
        refine bodyPost_ret (results_none rfl _ _ _) rfl ⟨rfl, hkx, ?_⟩
        rw [HF.out]; exact .inl hjx
      | some q =>
        have hqs : q.s = s := by
          unfold readyS at hR
          by_cases hs : s = []
          · simp only [hs, if_true] at hR
            split at hR
            · split at hR
              · cases hR; exact hs.symm
              · cases hR
            · cases hR
          · simp only [hs, if_false] at hR
            cases hR; rfl
        rcases q with ⟨qs, qf, qt⟩
        simp only at hqs
        subst hqs
        have hv : optP (some ⟨qs, qf, qt⟩) = .agg #[.string ⟨qs.toArray⟩, .int .i64 qf, .int .i64 qt] := rfl
        rw [hv]
        have hpc2 : pcanL S P = P.take k ++ (⟨qs, qf, qt⟩ :: (if (⟨qs, qf, qt⟩ : Pt) = ⟨qs, f, t⟩ then pcanL S (P.drop (k + 1)) else [])) := by rw [hpc.out]; simp only [pcanL, hR]
        have HPC := Lib.hid hpc2
        have hpre : P.take k ++ [⟨qs, qf, qt⟩] <+: pcanL S P := by
          rw [hpc2]
          exact ⟨if (⟨qs, qf, qt⟩ : Pt) = ⟨qs, f, t⟩ then pcanL S (P.drop (k + 1)) else [], by simp⟩
        have HPRE := Lib.hid hpre
        have hxc : Ext wr (w1.alloc (.cells #[.string ⟨qs.toArray⟩, .int .i64 qf, .int .i64 qt] 40)) := hxr.alloc _
        have hyy := hy (P.take k) ⟨qs, qf, qt⟩ (w1.alloc (.cells #[.string ⟨qs.toArray⟩, .int .i64 qf, .int .i64 qt] 40)) (hJ _ _ _ hj hxc) hpre (Nat.le_trans hnr hxc.size)
        have HYY := Lib.hid hyy
        have bp2 := ((Ext.refl w1).alloc (.cells #[.string ⟨qs.toArray⟩, .int .i64 qf, .int .i64 qt] 40)).block BP.out
        have bc2 := heap_alloc_new w1 (.cells #[.string ⟨qs.toArray⟩, .int .i64 qf, .int .i64 qt] 40)
        have hkq2 := hkq.trans (Kq.of_ext (o := o) hxc hnr)
        have hrw := hRw _ _ _ wr.heap.size hj hxc
        have hrw1 := hRw _ _ _ w1.heap.size hj hxc
        have HRW := Lib.hid (And.intro hrw hrw1)
        have hxc1 := (Array.getElem?_eq_some_iff.1 bc2).1
        have hq := neqPart qs qf qt f t
        have hgp := guardPart
        clear hv hR hpc hpc2 hpre hyy hxc hj hrw hrw1
        go_wp2_with fail
        generalize (w1.alloc (.cells #[.string ⟨qs.toArray⟩, .int .i64 qf, .int .i64 qt] 40)) = wb at *
        refine HYY.out.mono ?_
        rintro e w2 ⟨r, rfl, ⟨hk3, hkb⟩, ht, hf⟩
        have bp3 := (hkb wr.heap.size (by omega) (by omega) (fun hr => absurd (HRW.out.1 hr) (Nat.lt_irrefl _))).trans bp2
        have bc3 := (hkb w1.heap.size hxc1 (by omega) (fun hr => absurd (HRW.out.2 hr) (by omega))).trans bc2
        have y0 : w2.cell? ⟨wr.heap.size, 0, none⟩ = some (.string ⟨qs.toArray⟩) := by rw [cell_of_block bp3]; rfl
        have y1 : w2.cell? ⟨wr.heap.size, 1, none⟩ = some (.int .i64 f) := by rw [cell_of_block bp3]; rfl
        have y2 : w2.cell? ⟨wr.heap.size, 2, none⟩ = some (.int .i64 t) := by rw [cell_of_block bp3]; rfl
        have z0 : w2.cell? ⟨w1.heap.size, 0, none⟩ = some (.string ⟨qs.toArray⟩) := by rw [cell_of_block bc3]; rfl
        have z1 : w2.cell? ⟨w1.heap.size, 1, none⟩ = some (.int .i64 qf) := by rw [cell_of_block bc3]; rfl
        have z2 : w2.cell? ⟨w1.heap.size, 2, none⟩ = some (.int .i64 qt) := by rw [cell_of_block bc3]; rfl
        have hkq4 := hkq2.trans hk3
        have HT := Lib.hid ht
        have HF := Lib.hid hf
        clear HYY bp2 bc2 bp3 bc3 hkb ht hf hk3
        cases r
        · go_wp2
          exact bodyPost_ret (results_none rfl _ _ _) rfl ⟨rfl, hkq4, .inr ⟨_, HPRE.out, HF.out (by simp)⟩⟩
        · cases e2 : (qf == f && qt == t)
          · have hne : ¬ (⟨qs, qf, qt⟩ : Pt) = ⟨qs, f, t⟩ := fun e => by injection e with _ e3 e4; rw [e3, e4] at e2; simp at e2
            have HE : Hid (pcanL S P = P.take k ++ [⟨qs, qf, qt⟩]) := Lib.hid (by rw [HPC.out, if_neg hne])
            rw [e2] at hq
            clear hne
            go_wp2
            refine bodyPost_ret (results_none rfl _ _ _) rfl ⟨rfl, hkq4, .inl ?_⟩
            rw [HE.out]; exact HT.out (by simp)
          · have hne : (⟨qs, qf, qt⟩ : Pt) = ⟨qs, f, t⟩ := by simp at e2; rw [e2.1, e2.2]
            have HE : Hid (pcanL S P = P.take (k + 1) ++ pcanL S (P.drop (k + 1))) := Lib.hid (by rw [HPC.out, if_pos hne, hne, HTS.out]; simp)
            have HJ1 : Hid (J (P.take (k + 1)) w2) := Lib.hid (by rw [HTS.out, ← hne]; exact HT.out rfl)
            rw [e2] at hq
            clear hne
            go_wp2
            go_roundw
            case rel => exact ⟨k + 1, by omega, by go_num, hkq4, HJ1.out, HE⟩
            case measure => simp [intOf]; omega
    · obtain rfl : k = P.length := by omega
      have HF : Hid (pcanL S P = P) := Lib.hid (by rw [hpc.out, List.take_length, List.drop_length]; simp [pcanL])
      rw [List.take_length] at hj
      go_wp2
      go_end0
      exact ⟨rfl, hkq, .inl (by rw [HF.out]; exact hj)⟩

def Cnt (o o2 : Nat) (m : Int) (n : Nat) (w : World) : Prop := w.heap[o]? = some (.cells #[.int .i64 n] 3 (0, 0)) ∧ w.heap[o2]? = some (.cells #[.int .i64 m] 3 (0, 0))
theorem Cnt.ext {o o2 : Nat} {m : Int} {n : Nat} {w w' : World} (h : Cnt o o2 m n w) (hx : Ext w w') : Cnt o o2 m n w' := ⟨hx.block h.1, hx.block h.2⟩
def CntPost (o o2 n₀ : Nat) (m : Int) (n : Nat) (w : World) (e : Ending) (w' : World) : Prop :=
  e = .returned (.bool (decide ((n : Int) + 1 < m))) ∧ Ky o n₀ (fun _ _ => False) w w' ∧ Cnt o o2 m (n + 1) w'
set_option maxHeartbeats 1000000 in
set_option maxRecDepth 100000 in
theorem count_calls (o o2 n₀ : Nat) (m : Int) (n : Nat) (q : Pt) (w : World) (h : Cnt o o2 m n w) (hne : o ≠ o2) (hn : n ≤ 1000) (hm : 0 ≤ m ∧ m ≤ 1000) (hnw : n₀ ≤ w.heap.size) :
    Calls Try.prog 27 #[.agg #[.string ⟨q.s.toArray⟩, .int .i64 q.f, .int .i64 q.t], .pointer (some ⟨o, 0, none⟩), .pointer (some ⟨o2, 0, none⟩)] w (CntPost o o2 n₀ m n w) := by
  obtain ⟨h1, h2⟩ := h
  have o0 : w.cell? ⟨o, 0, none⟩ = some (.int .i64 n) := by rw [cell_of_block h1]; rfl
  have of_ : ∀ j, w.frozen? ⟨o, j, none⟩ = false := fun j => frozen_of_block h1 j
  have p0 : w.cell? ⟨o2, 0, none⟩ = some (.int .i64 m) := by rw [cell_of_block h2]; rfl
  have hne2 : ¬ o2 = o := fun e => hne e.symm
  have hm1 := hm.1
  have hm2 := hm.2
  have H1 := Lib.hid h1
  have H2 := Lib.hid h2
  have hlt : o < w.heap.size := (Array.getElem?_eq_some_iff.1 h1).1
  have hlt2 : o2 < w.heap.size := (Array.getElem?_eq_some_iff.1 h2).1
  have hlt3 : o < w.heap.size + 1 := by omega
  have hlt4 : o2 < w.heap.size + 1 := by omega
  clear h1 h2 hm
  go_enter Try.func27, Try.ntmps27
  go_wp2
  go_ret
  have hs1 : (w.setCell ⟨o, 0, none⟩ (.int .i64 ((n : Int) + 1))).heap[o]? = some (.cells #[.int .i64 ((n : Int) + 1)] 3 (0, 0)) := (heap_setCell_same _ _ _ _ _ _ H1.out).trans rfl
  have hsz : w.heap.size ≤ (w.setCell ⟨o, 0, none⟩ (.int .i64 ((n : Int) + 1))).heap.size := by simp [World.setCell]
  have hxb := (Ext.refl (w.setCell ⟨o, 0, none⟩ (.int .i64 ((n : Int) + 1)))).alloc (.cells #[.string ⟨q.s.toArray⟩, .int .i64 q.f, .int .i64 q.t] 40)
  refine ⟨rfl, ⟨⟨rfl, rfl, rfl, Nat.le_trans hsz hxb.size, fun k hk hk2 => ?_⟩, fun g hg hg2 _ => ?_⟩, ?_, ?_⟩
  · exact (Below.block hxb k (by omega)).trans (Below.heap_setCell _ _ _ _ hk2)
  · exact (Below.block hxb g (by omega)).trans (Below.heap_setCell _ _ _ _ hg2)
  · exact hxb.block (hs1.trans (by simp))
  · exact hxb.block ((Below.heap_setCell _ _ _ _ hne2).trans H2.out)
end Go.Proofs.Ytcdokpkffbigdaa
