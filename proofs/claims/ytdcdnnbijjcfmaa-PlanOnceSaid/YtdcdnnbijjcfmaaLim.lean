/- With no waste and no limit the plan is the units themselves: plain. -/
import Derived.Test.YtdcdnnbijjcfmaaSmu
namespace Go.Proofs.Ytdcdnnbijjcfmaa

theorem fe_zero {L F : List Sp} {c : Cf} {E : Int} (h : Pok L F c E) (h0 : 0 < L.length) (hw : c.wa = 0) (hm : c.mo = 1152921504606846976) : endC L (freeT F L[0].f) c = L[0].t := by
  have hN := h.lok.norm
  have hg0 := hN.get h0
  obtain ⟨u1, u2⟩ := unit_bound h.unit
  obtain ⟨⟨j, hj⟩, hmax⟩ := endC_spec h.lok h.unit h.most h.wa h.norm h.free h0
  obtain ⟨f1, f2, f3, f4⟩ := free_upto h.norm (h.free _ (mem_idx h0 (Int.le_refl _) hg0.2.1))
  have hs := h.small L[0] (List.getElem_mem h0)
  have hlen : L[0].t = 4611686018427387904 ∨ L[0].t - L[0].f ≤ c.mo := by
    rcases hs.2 with h1 | h1
    · right; omega
    · exact .inl h1
  have hge := hmax 0 L[0].t ⟨h0, by rw [getD_i h0]; exact hg0.2.1, by rw [getD_i h0]; exact Int.le_refl _, .inl (by rw [getD_i h0]), hlen, by rw [hw]; exact Int.le_refl _, by rw [getD_i h0]; omega⟩
  have hjl := hj.hj
  have hhi := hj.hi
  rw [getD_i hjl] at hhi
  have hwj := hj.wa
  rcases Nat.eq_zero_or_pos j with hz | hz
  · subst hz; omega
  · exfalso
    have h1 : 0 + 1 < L.length := by omega
    have h2 := wst_succ h1
    have h3 := wst_mono hN (show 0 + 1 ≤ j by omega) hjl
    have h4 := hN.lt (show 0 < 0 + 1 by omega) h1
    have h5 := (wst_bound hN 0 h0).1
    omega
theorem cut_tail {s : Sp} {l : List Sp} (hN : Norm (s :: l)) : cutL (s :: l) s.t = l := by
  cases l with
  | nil =>
    refine cut_nil fun j hj => ?_
    have h1 : j < 1 := hj
    obtain rfl : j = 0 := by omega
    exact Int.le_refl _
  | cons q r =>
    have h4 := hN.lt (i := 0) (j := 1) (by omega) (by simp)
    simp at h4
    have hg := hN.get (i := 1) (by simp)
    have hg1 := hg.2.1
    simp at hg1
    rw [cut_at (k := 1) (by simp) (fun j hj hk => by
      obtain rfl : j = 0 := Nat.lt_one_iff.1 hk
      exact Int.le_refl _) (by show s.t < q.t; omega)]
    show (⟨max q.f s.t, q.t⟩ : Sp) :: r = q :: r
    rw [show max q.f s.t = q.f by omega]
theorem planF_all {F : List Sp} {c : Cf} {E : Int} (hw : c.wa = 0) (hm : c.mo = 1152921504606846976) : ∀ (k : Nat) (L : List Sp), Pok L F c E → L.length ≤ k → planF F c k L = L := by
  intro k
  induction k with
  | zero => intro L _ hl; obtain rfl : L = [] := List.length_eq_zero_iff.1 (by omega); rfl
  | succ k ih =>
    intro L hP hl
    cases L with
    | nil => rfl
    | cons s l =>
      have h0 : 0 < (s :: l).length := by simp
      have he := fe_zero hP h0 hw hm
      have hst := pok_step hP h0 he
      have hc : cutL (s :: l) s.t = l := cut_tail hP.lok.norm
      have he' : endC (s :: l) (freeT F s.f) c = s.t := he
      have hP2 : Pok (cutL (s :: l) s.t) F c E := hst.2.2.1
      rw [hc] at hP2
      show (⟨s.f, endC (s :: l) (freeT F s.f) c⟩ : Sp) :: planF F c k (cutL (s :: l) (endC (s :: l) (freeT F s.f) c)) = s :: l
      rw [he', hc, ih l hP2 (by simp at hl; omega)]
end Go.Proofs.Ytdcdnnbijjcfmaa
