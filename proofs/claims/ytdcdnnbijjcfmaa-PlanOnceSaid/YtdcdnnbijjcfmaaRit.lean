/- The plan that is told is one that may be: plain. -/
import Derived.Test.YtdcdnnbijjcfmaaLmt
namespace Go.Proofs.Ytdcdnnbijjcfmaa

theorem fetch_ok {s : Sp} {U F : List Sp} {n : Int} {c : Cf} (h : fetchB s U F n c = true) : s.ok := by
  unfold fetchB wholeB rightB at h
  simp only [Bool.and_eq_true, decide_eq_true_eq] at h
  refine ⟨?_, ?_, ?_⟩ <;> omega
theorem fetch_waste {s : Sp} {U F : List Sp} {n : Int} {c : Cf} (h : fetchB s U F n c = true) : wasteS s U ≤ c.wa := by
  unfold fetchB at h
  simp only [Bool.and_eq_true, decide_eq_true_eq] at h
  exact h.2
theorem fetch_end {s : Sp} {U F : List Sp} {n : Int} {c : Cf} (h : fetchB s U F n c = true) : s.t ≤ endI n := by
  unfold fetchB wholeB at h
  simp only [Bool.and_eq_true, decide_eq_true_eq] at h
  exact h.1.1.1.1.2
theorem first_le {L : List Sp} (hN : Norm L) (h0 : 0 < L.length) : ∀ s ∈ L, L[0].f ≤ s.f := fun s hs => by
  obtain ⟨k, hk, rfl⟩ := List.mem_iff_getElem.1 hs
  rcases Nat.eq_zero_or_pos k with h6 | h6
  · subst h6; exact Int.le_refl _
  · have := hN.lt h6 hk; have := hN.get h0; omega
theorem planF_right {U F : List Sp} {c : Cf} {n : Int} (hL : lengthB n = true) (hU : Norm U) : ∀ (k : Nat) (L : List Sp) (a at_ : Int), Pok L F c (endI n) → Rest U L a → Enough L c.u k → at_ ≤ a →
    rightGo U F n c at_ (planF F c k L) = true ∧ ∀ x, Mem L x → Mem (planF F c k L) x := by
  intro k
  induction k with
  | zero =>
    intro L a at_ h _ hn _
    obtain rfl : L = [] := enough_no h hn
    exact ⟨rfl, fun x hx => hx⟩
  | succ k ih =>
    intro L a at_ h hR hn hat
    cases L with
    | nil => exact ⟨rfl, fun x hx => hx⟩
    | cons s l =>
      have h0 : 0 < (s :: l).length := by simp
      have hN := h.lok.norm
      have hg := hN.get h0
      simp only [List.getElem_cons_zero] at hg
      obtain ⟨e, he⟩ : ∃ e, endC (s :: l) (freeT F s.f) c = e := ⟨_, rfl⟩
      obtain ⟨p1, p2, p3, p4, p5⟩ := pok_step h h0 he
      have hen := enough_step h h0 hn he
      have hrc := rest_cut h h0 hR he
      obtain ⟨⟨j, hj⟩, _⟩ := endC_spec h.lok h.unit h.most h.wa h.norm h.free h0
      have he' : endC (s :: l) (freeT F (s :: l)[0].f) c = e := he
      rw [he'] at hj
      have hjl := hj.hj
      have hlo := hj.lo
      have hhi := hj.hi
      have hal := hj.al
      rw [getD_i hjl] at hlo hhi hal
      have hf := (fetch_fe h hL hU hR h0 hjl hlo hhi hal).2 hj
      simp only [List.getElem_cons_zero] at hf p1
      obtain ⟨i1, i2⟩ := ih _ e e p3 hrc hen (Int.le_refl _)
      have has : a ≤ s.f := ((hR s.f).1 ⟨s, by simp, Int.le_refl _, hg.2.1⟩).2
      show (fetchB ⟨s.f, endC (s :: l) (freeT F s.f) c⟩ U F n c && decide (at_ ≤ s.f) && rightGo U F n c (endC (s :: l) (freeT F s.f) c) (planF F c k (cutL (s :: l) (endC (s :: l) (freeT F s.f) c)))) = true ∧ ∀ x, Mem (s :: l) x → Mem (⟨s.f, endC (s :: l) (freeT F s.f) c⟩ :: planF F c k (cutL (s :: l) (endC (s :: l) (freeT F s.f) c))) x
      rw [he, hf, i1]
      refine ⟨by simp; omega, fun x hx => ?_⟩
      rw [mem_cons]
      rcases lt_or_ge x e with hlt | hge
      · left
        obtain ⟨v, hv, v1, _⟩ := hx
        have := first_le hN h0 v hv
        simp only [List.getElem_cons_zero] at this
        exact ⟨by show s.f ≤ x; omega, hlt⟩
      · exact .inr (i2 x ((p4 x).2 ⟨hx, hge⟩))
theorem right_all {U F : List Sp} {n : Int} {c : Cf} : ∀ (l : List Sp) (a : Int), rightGo U F n c a l = true → (∀ s ∈ l, fetchB s U F n c = true ∧ a ≤ s.f) ∧ l.Pairwise (fun s t => s.t ≤ t.f) := by
  intro l
  induction l with
  | nil => intro a _; exact ⟨by simp, List.Pairwise.nil⟩
  | cons s l ih =>
    intro a h
    change (fetchB s U F n c && decide (a ≤ s.f) && rightGo U F n c s.t l) = true at h
    simp only [Bool.and_eq_true, decide_eq_true_eq] at h
    obtain ⟨⟨h1, h2⟩, h3⟩ := h
    obtain ⟨i1, i2⟩ := ih s.t h3
    have hok := fetch_ok h1
    refine ⟨fun v hv => ?_, List.pairwise_cons.2 ⟨fun v hv => (i1 v hv).2, i2⟩⟩
    rcases List.mem_cons.1 hv with rfl | hv
    · exact ⟨h1, h2⟩
    · have := i1 v hv
      have := hok.2.1
      exact ⟨(i1 v hv).1, by omega⟩
theorem rest_self {U : List Sp} (hU : Norm U) : Rest U U 0 := fun _ => ⟨fun h => ⟨h, (mem_lt hU h).1⟩, fun h => h.1⟩
/-- What is known of the plan that is told. -/
theorem plan_right {n : Int} {c : Cf} {g F : List Sp} (hg : Norm g) (hF : Norm F) (hE : chkE n c (unitsS g n c.u) F = 0) (hs : SmallU (unitsS g n c.u) c.u) :
    rightGo (unitsS g n c.u) F n c 0 (planP n c (unitsS g n c.u) F) = true ∧ (∀ x, Mem (unitsS g n c.u) x → Mem (planP n c (unitsS g n c.u) F) x) ∧ rightR (planP n c (unitsS g n c.u) F) (unitsS g n c.u) F n c = true := by
  have hp := ok_parts hE
  have hm2 := hp.1
  simp [measB] at hm2
  have hU := units_norm g n c.u
  have h := pok_start hg hF hE hs
  obtain ⟨r1, r2⟩ := planF_right hm2.2 hU 101 _ 0 0 h (rest_self hU) (enough_start h) (Int.le_refl _)
  have hP : planP n c (unitsS g n c.u) F = planF F c 101 (unitsS g n c.u) := by unfold planP planL; rw [if_pos hE]
  rw [hP]
  refine ⟨r1, r2, ?_⟩
  have hho : okB n c = true ∧ heldB (unitsS g n c.u) F = false := by
    unfold chkE at hE
    cases h1 : okB n c
    · rw [h1] at hE; simp at hE
    · rw [h1] at hE
      cases h2 : heldB (unitsS g n c.u) F
      · exact ⟨rfl, rfl⟩
      · rw [h2] at hE; simp at hE
  unfold rightR
  rw [hho.1, hho.2, r1]
  have hall := (right_all _ _ r1).1
  have : lessS (unitsS g n c.u) (ofS (planF F c 101 (unitsS g n c.u))) = [] := norm_empty (norm_less _ _) fun x hx => by
    rw [mem_less hU (norm_of _)] at hx
    obtain ⟨s, hs, s1, s2⟩ := r2 x hx.1
    exact hx.2 ((mem_of _ x).2 ⟨s, hs, fetch_ok (hall s hs).1, s1, s2⟩)
  rw [this]
  rfl
end Go.Proofs.Ytdcdnnbijjcfmaa
