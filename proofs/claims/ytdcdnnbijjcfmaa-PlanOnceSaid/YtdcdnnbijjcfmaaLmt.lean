/- What PlanLimits claims, plain. -/
import Derived.Test.YtdcdnnbijjcfmaaAhd
import Derived.Test.YtdcdnnbijjcfmaaLawTells
namespace Go.Proofs.Ytdcdnnbijjcfmaa

theorem planF_enough {F : List Sp} {c : Cf} {E : Int} (hw : c.wa = 0) (hm : c.mo = 1152921504606846976) : ∀ (k : Nat) (L : List Sp), Pok L F c E → Enough L c.u k → planF F c k L = L := by
  intro k
  induction k with
  | zero => intro L h hl; obtain rfl : L = [] := enough_no h hl; rfl
  | succ k ih =>
    intro L hP hl
    cases L with
    | nil => rfl
    | cons s l =>
      have h0 : 0 < (s :: l).length := by simp
      have he := fe_zero hP h0 hw hm
      have hst := pok_step hP h0 he
      have hen := enough_step hP h0 hl he
      have hc : cutL (s :: l) s.t = l := cut_tail hP.lok.norm
      have he' : endC (s :: l) (freeT F s.f) c = s.t := he
      have hP2 : Pok (cutL (s :: l) s.t) F c E := hst.2.2.1
      have hen2 : Enough (cutL (s :: l) s.t) c.u k := hen
      rw [hc] at hP2 hen2
      show (⟨s.f, endC (s :: l) (freeT F s.f) c⟩ : Sp) :: planF F c k (cutL (s :: l) (endC (s :: l) (freeT F s.f) c)) = s :: l
      rw [he', hc, ih l hP2 hen2]
theorem chk_ok {n : Int} {c c' : Cf} {U F : List Sp} (hE : chkE n c U F = 0) (hu : c'.u = c.u) (hw : 0 ≤ c.wa → 0 ≤ c'.wa) (hm : c.u ≤ c.mo → c'.u ≤ c'.mo) : chkE n c' U F = 0 := by
  unfold chkE at hE ⊢
  cases h1 : okB n c
  · rw [h1] at hE; simp at hE
  · rw [h1] at hE
    have h2 : okB n c' = true := by
      simp [okB] at h1 ⊢
      rw [hu]
      exact ⟨⟨h1.1.1, hw h1.1.2⟩, hu ▸ hm h1.2⟩
    rw [h2]
    exact hE
theorem ok_parts {n : Int} {c : Cf} {U F : List Sp} (hE : chkE n c U F = 0) : measB n c.u = true ∧ 0 ≤ c.wa ∧ c.u ≤ c.mo := by
  unfold chkE at hE
  cases h1 : okB n c
  · rw [h1] at hE; simp at hE
  · simp [okB] at h1; exact ⟨h1.1.1, h1.1.2, h1.2⟩
theorem limits {n : Int} {c c' : Cf} {g F : List Sp} (hg : Norm g) (hF : Norm F) (hE : chkE n c (unitsS g n c.u) F = 0) (hs : SmallU (unitsS g n c.u) c.u) (hu : c'.u = c.u) (hw : c.wa ≤ c'.wa) (hm : c.mo ≤ c'.mo) :
    chkE n c' (unitsS g n c.u) F = 0 ∧ (planP n c' (unitsS g n c.u) F).length ≤ (planP n c (unitsS g n c.u) F).length := by
  have hE' : chkE n c' (unitsS g n c.u) F = 0 := chk_ok hE hu (by omega) (by omega)
  refine ⟨hE', ?_⟩
  have h := pok_start hg hF hE hs
  have h' : Pok (unitsS g n c'.u) F c' (endI n) := pok_start hg hF (by rw [hu]; exact hE') (by rw [hu]; exact hs)
  rw [hu] at h'
  unfold planP planL
  rw [if_pos hE, if_pos hE']
  exact fewer hu hw hm 101 _ _ 0 h h' fun y => ⟨fun hy => ⟨hy, by
    obtain ⟨s, hs, s1, s2⟩ := hy
    have := h.lok.norm.1 s hs
    have := this.1
    omega⟩, fun hy => hy.1⟩
theorem limits_none {n : Int} {c c' : Cf} {g F : List Sp} (hg : Norm g) (hF : Norm F) (hE : chkE n c (unitsS g n c.u) F = 0) (hs : SmallU (unitsS g n c.u) c.u) (hu : c'.u = c.u) (hw : c'.wa = 0) (hm : c'.mo = 1152921504606846976) :
    chkE n c' (unitsS g n c.u) F = 0 ∧ planP n c' (unitsS g n c.u) F = unitsS g n c.u := by
  have hp := ok_parts hE
  have hm2 := hp.1
  simp [measB] at hm2
  obtain ⟨u1, u2⟩ := unit_bound hm2.1
  have hE' : chkE n c' (unitsS g n c.u) F = 0 := chk_ok hE hu (by omega) (by omega)
  refine ⟨hE', ?_⟩
  have h' : Pok (unitsS g n c'.u) F c' (endI n) := pok_start hg hF (by rw [hu]; exact hE') (by rw [hu]; exact hs)
  have hen := enough_start h'
  rw [hu] at h'
  unfold planP planL
  rw [if_pos hE']
  exact planF_enough hw hm 101 _ h' (by rw [hu] at hen ⊢; exact hen)
end Go.Proofs.Ytdcdnnbijjcfmaa
