/- The last end that may be is the one that the program tells: plain, no program in sight. -/
import Derived.Test.YtdcdnnbijjcfmaaBst
namespace Go.Proofs.Ytdcdnnbijjcfmaa

theorem run_inv {u t : Int} (hu : 0 < u) : ∀ (k : Nat) (a : Int), a % u = 0 → (∀ e ∈ runE u t k a, a < e ∧ e ≤ t ∧ (e = t ∨ e % u = 0)) ∧ (runE u t k a).Pairwise (· < ·) ∧ (runE u t k a).length ≤ k := by
  intro k
  induction k with
  | zero => intro a _; exact ⟨by simp [runE], List.Pairwise.nil, by simp [runE]⟩
  | succ k ih =>
    intro a ha
    show (∀ e ∈ (if a < t then min (a + u) t :: runE u t k (min (a + u) t) else []), _) ∧ (if a < t then min (a + u) t :: runE u t k (min (a + u) t) else []).Pairwise _ ∧ (if a < t then min (a + u) t :: runE u t k (min (a + u) t) else []).length ≤ _
    by_cases h : a < t
    · rw [if_pos h]
      by_cases h2 : a + u ≤ t
      · have hm : min (a + u) t = a + u := by omega
        have hau : (a + u) % u = 0 := by rw [Int.add_emod, ha]; simp
        rw [hm]
        obtain ⟨i1, i2, i3⟩ := ih (a + u) hau
        refine ⟨fun e he => ?_, List.pairwise_cons.2 ⟨fun e he => (i1 e he).1, i2⟩, by simp; omega⟩
        rcases List.mem_cons.1 he with rfl | he
        · exact ⟨by omega, h2, .inr hau⟩
        · have := i1 e he
          exact ⟨by omega, this.2.1, this.2.2⟩
      · have hm : min (a + u) t = t := by omega
        have hn : runE u t k t = [] := by cases k <;> simp [runE]
        rw [hm, hn]
        exact ⟨by simp; omega, by simp, by simp⟩
    · rw [if_neg h]
      exact ⟨by simp, List.Pairwise.nil, by simp⟩
theorem run_all {u t : Int} (hu : 0 < u) : ∀ (k : Nat) (a : Int), a % u = 0 → t - a ≤ k * u → ∀ e, a < e → e ≤ t → (e = t ∨ e % u = 0) → e ∈ runE u t k a := by
  intro k
  induction k with
  | zero => intro a _ h e h1 h2 _; simp at h; omega
  | succ k ih =>
    intro a ha h e h1 h2 h3
    show e ∈ (if a < t then min (a + u) t :: runE u t k (min (a + u) t) else [])
    rw [if_pos (by omega)]
    rw [show ((k + 1 : Nat) : Int) = (k : Int) + 1 by omega, Int.add_mul] at h
    by_cases h4 : a + u ≤ t
    · have hm : min (a + u) t = a + u := by omega
      have hau : (a + u) % u = 0 := by rw [Int.add_emod, ha]; simp
      rw [hm]
      rcases Int.lt_trichotomy e (a + u) with h5 | h5 | h5
      · exfalso
        rcases h3 with h3 | h3
        · omega
        · have := mult_step hu ha h3 h1; omega
      · rw [h5]; exact List.mem_cons_self ..
      · exact List.mem_cons_of_mem _ (ih (a + u) hau (by omega) e h5 h2 h3)
    · have hm : min (a + u) t = t := by omega
      rw [hm]
      rcases h3 with h3 | h3
      · rw [h3]; exact List.mem_cons_self ..
      · have := mult_step hu ha h3 h1; omega
theorem open_inv {u : Int} (hu : 0 < u) : ∀ (k : Nat) (a : Int), a % u = 0 → a + k * u < 4611686018427387904 → (∀ e ∈ openE u k a, a < e ∧ e ≤ 4611686018427387904 ∧ (e = 4611686018427387904 ∨ e % u = 0)) ∧ (openE u k a).Pairwise (· < ·) ∧ 4611686018427387904 ∈ openE u k a ∧ (openE u k a).length = k + 1 := by
  intro k
  induction k with
  | zero => intro a _ h; simp at h; exact ⟨by simp [openE]; omega, by simp [openE], by simp [openE], rfl⟩
  | succ k ih =>
    intro a ha h
    rw [show ((k + 1 : Nat) : Int) = (k : Int) + 1 by omega, Int.add_mul] at h
    have hau : (a + u) % u = 0 := by rw [Int.add_emod, ha]; simp
    obtain ⟨i1, i2, i3, i4⟩ := ih (a + u) hau (by omega)
    have hk : 0 ≤ (k : Int) * u := Int.mul_nonneg (by omega) (by omega)
    refine ⟨fun e he => ?_, List.pairwise_cons.2 ⟨fun e he => (i1 e he).1, i2⟩, List.mem_cons_of_mem _ i3, by show (_ :: openE u k (a + u)).length = _; rw [List.length_cons, i4]⟩
    rcases List.mem_cons.1 he with rfl | he
    · exact ⟨by omega, by omega, .inr hau⟩
    · have := i1 e he
      exact ⟨by omega, this.2.1, this.2.2⟩
theorem endsE_inv {from_ u : Int} (hu : 4 ≤ u) (hu2 : u ≤ 1048576) : ∀ l : List Sp, Norm l → (∀ s ∈ l, s.f % u = 0 ∧ from_ ≤ s.f ∧ s.f ≤ 100 * u ∧ (s.t ≤ 100 * u ∨ s.t = 4611686018427387904)) →
    (∀ e ∈ endsE from_ u l, ∃ s ∈ l, s.f < e ∧ e ≤ s.t ∧ (e = s.t ∨ e % u = 0)) ∧ (endsE from_ u l).Pairwise (· < ·) ∧
    (∀ s ∈ l, ∀ e, s.f < e → e ≤ s.t → (e = s.t ∨ e % u = 0) → s.t ≠ 4611686018427387904 → e ∈ endsE from_ u l) ∧ (∀ s ∈ l, s.t = 4611686018427387904 → 4611686018427387904 ∈ endsE from_ u l) ∧ (endsE from_ u l).length ≤ 101 * l.length + 601 := by
  intro l
  induction l with
  | nil => intro _ _; exact ⟨by simp [endsE], List.Pairwise.nil, by simp, by simp, by simp [endsE]⟩
  | cons s l ih =>
    intro hN hl
    obtain ⟨hs, hsl, hnl⟩ := norm_cons.1 hN
    obtain ⟨a1, a2, a3, a4⟩ := hl s (by simp)
    have hst := hs.2.1
    have hm : max s.f from_ = s.f := by omega
    have hd : endsE from_ u (s :: l) = if s.t = 4611686018427387904 then openE u 600 s.f else runE u s.t 101 s.f ++ endsE from_ u l := by
      show (if s.t ≤ from_ then _ else if s.t = 4611686018427387904 then openE u 600 (max s.f from_) else runE u s.t 101 (max s.f from_) ++ endsE from_ u l) = _
      rw [if_neg (by omega), hm]
    rw [hd]
    by_cases hO : s.t = 4611686018427387904
    · rw [if_pos hO]
      have hln : l = [] := by
        cases l with
        | nil => rfl
        | cons v l =>
          have h1 := hsl v (by simp)
          have h2 := hnl.1 v (by simp)
          have := h2.2.1; have := h2.2.2; omega
      subst hln
      obtain ⟨o1, o2, o3, o4⟩ := open_inv (show 0 < u by omega) 600 s.f a1 (by simp; omega)
      refine ⟨fun e he => ⟨s, by simp, (o1 e he).1, by rw [hO]; exact (o1 e he).2.1, by rw [hO]; exact (o1 e he).2.2⟩, o2, fun v hv e _ _ _ h => ?_, fun v hv _ => o3, by rw [o4]; simp⟩
      simp at hv; subst hv; exact absurd hO h
    · rw [if_neg hO]
      obtain ⟨r1, r2, r3⟩ := run_inv (t := s.t) (show 0 < u by omega) 101 s.f a1
      obtain ⟨i1, i2, i3, i4, i5⟩ := ih hnl (fun v hv => hl v (by simp [hv]))
      refine ⟨fun e he => ?_, List.pairwise_append.2 ⟨r2, i2, fun x hx y hy => ?_⟩, fun v hv e e1 e2 e3 e4 => ?_, fun v hv h => ?_, by rw [List.length_append, List.length_cons]; omega⟩
      · rcases List.mem_append.1 he with he | he
        · exact ⟨s, by simp, r1 e he⟩
        · obtain ⟨v, hv, h⟩ := i1 e he
          exact ⟨v, by simp [hv], h⟩
      · have h1 := (r1 x hx).2.1
        obtain ⟨v, hv, h2, _⟩ := i1 y hy
        have := hsl v hv
        omega
      · rcases List.mem_cons.1 hv with rfl | hv
        · exact List.mem_append_left _ (run_all (show 0 < u by omega) 101 v.f a1 (by have := hs.1; rcases a4 with a4 | a4 <;> simp <;> omega) e e1 e2 e3)
        · exact List.mem_append_right _ (i3 v hv e e1 e2 e3 e4)
      · rcases List.mem_cons.1 hv with rfl | hv
        · exact absurd h hO
        · exact List.mem_append_right _ (i4 v hv h)
theorem best_last {p : Int → Bool} {l : List Int} (hs : l.Pairwise (· < ·)) {e : Int} (he : e ∈ l) (hp : p e = true) (hm : ∀ x ∈ l, p x = true → x ≤ e) (b : Int) : l.foldl (fun b x => if p x then x else b) b = e := by
  obtain ⟨l1, l2, rfl⟩ := List.append_of_mem he
  rw [List.foldl_append, List.foldl_cons, if_pos hp]
  have h2 : ∀ x ∈ l2, p x = false := fun x hx => by
    have h3 := (List.pairwise_append.1 hs).2.1
    have h4 := (List.pairwise_cons.1 h3).1 x hx
    cases h5 : p x
    · rfl
    · have := hm x (by simp [hx]) h5; omega
  clear hs he hm
  induction l2 with
  | nil => rfl
  | cons x l2 ih =>
    rw [List.foldl_cons, h2 x (by simp)]
    exact ih (fun y hy => h2 y (by simp [hy]))
theorem best_eq {W L F : List Sp} {c : Cf} {n : Int} (h : Pok L F c (endI n)) (hL : lengthB n = true) (hW : Norm W) {a : Int} (hR : Rest W L a) (h0 : 0 < L.length) :
    bestE W F n c L[0].f (endsE L[0].f c.u L) = endC L (freeT F L[0].f) c := by
  have hN := h.lok.norm
  obtain ⟨u1, u2⟩ := unit_bound h.unit
  have hge : ∀ s ∈ L, L[0].f ≤ s.f := fun s hs => by
    obtain ⟨k, hk, rfl⟩ := List.mem_iff_getElem.1 hs
    rcases Nat.eq_zero_or_pos k with h6 | h6
    · subst h6; exact Int.le_refl _
    · have := hN.lt h6 hk; have := hN.get h0; omega
  obtain ⟨i1, i2, i3, i4, _⟩ := endsE_inv (from_ := L[0].f) u1 u2 L hN (fun s hs => ⟨h.lok.f s hs, hge s hs, h.small s hs⟩)
  obtain ⟨⟨j, hj⟩, hmax⟩ := endC_spec h.lok h.unit h.most h.wa h.norm h.free h0
  have hjl := hj.hj
  have hlo := hj.lo
  have hhi := hj.hi
  have hal := hj.al
  rw [getD_i hjl] at hlo hhi hal
  have hfe : ∀ e ∈ endsE L[0].f c.u L, fetchB ⟨L[0].f, e⟩ W F n c = true → e ≤ endC L (freeT F L[0].f) c := fun e he hp => by
    obtain ⟨s, hs, e1, e2, e3⟩ := i1 e he
    obtain ⟨k, hk, rfl⟩ := List.mem_iff_getElem.1 hs
    exact hmax k e ((fetch_fe h hL hW hR h0 hk e1 e2 e3).1 hp)
  have hp := (fetch_fe h hL hW hR h0 hjl hlo hhi hal).2 hj
  have hmem : endC L (freeT F L[0].f) c ∈ endsE L[0].f c.u L := by
    by_cases hO : L[j].t = 4611686018427387904
    · have h5 := hmax j 4611686018427387904 ⟨hjl, by rw [getD_i hjl]; have := hN.get hjl; omega, by rw [getD_i hjl]; omega, .inl (by rw [getD_i hjl, hO]), .inl rfl, hj.wa, hj.fr⟩
      have h6 : endC L (freeT F L[0].f) c = 4611686018427387904 := by omega
      rw [h6]
      exact i4 L[j] (List.getElem_mem hjl) hO
    · exact i3 L[j] (List.getElem_mem hjl) _ hlo hhi hal hO
  exact best_last (p := fun e => fetchB ⟨L[0].f, e⟩ W F n c) i2 hmem hp hfe L[0].f
theorem rest_cut {W L F : List Sp} {c : Cf} {E : Int} (h : Pok L F c E) (h0 : 0 < L.length) {a : Int} (hR : Rest W L a) {e : Int} (he : endC L (freeT F L[0].f) c = e) : Rest W (cutL L e) e := fun y => by
  obtain ⟨h1, _, _, h4, _⟩ := pok_step h h0 he
  have hg0 := h.lok.norm.get h0
  have ha := ((hR L[0].f).1 (mem_idx h0 (Int.le_refl _) hg0.2.1)).2
  rw [h4, hR]
  constructor
  · rintro ⟨⟨a1, a2⟩, a3⟩; exact ⟨a1, a3⟩
  · rintro ⟨a1, a2⟩; exact ⟨⟨a1, by omega⟩, a2⟩
end Go.Proofs.Ytdcdnnbijjcfmaa
