/- Where a fetch ends: the greatest end that may be: plain, no program in sight. -/
import Derived.Test.YtdcdnnbijjcfmaaEnd
namespace Go.Proofs.Ytdcdnnbijjcfmaa

theorem norm_not_t {l : List Sp} (h : Norm l) {s : Sp} (hs : s ∈ l) : ¬ Mem l s.t := by
  rintro ⟨v, hv, h1, h2⟩
  obtain ⟨i, hi, rfl⟩ := List.mem_iff_getElem.1 hs
  obtain ⟨j, hj, rfl⟩ := List.mem_iff_getElem.1 hv
  have gi := h.get hi
  have gj := h.get hj
  rcases Nat.lt_trichotomy i j with h3 | h3 | h3
  · have := h.lt h3 hj; omega
  · subst h3; omega
  · have := h.lt h3 hi; omega
theorem norm_not_f {l : List Sp} (h : Norm l) {s : Sp} (hs : s ∈ l) : ¬ Mem l (s.f - 1) := by
  rintro ⟨v, hv, h1, h2⟩
  obtain ⟨i, hi, rfl⟩ := List.mem_iff_getElem.1 hs
  obtain ⟨j, hj, rfl⟩ := List.mem_iff_getElem.1 hv
  have gi := h.get hi
  have gj := h.get hj
  rcases Nat.lt_trichotomy i j with h3 | h3 | h3
  · have := h.lt h3 hj; omega
  · subst h3; omega
  · have := h.lt h3 hi; omega
theorem mem_idx {l : List Sp} {i : Nat} (hi : i < l.length) {x : Int} (h1 : l[i].f ≤ x) (h2 : x < l[i].t) : Mem l x := ⟨l[i], List.getElem_mem hi, h1, h2⟩

/-- Spans of whole units, up to E. -/
structure Lok (L : List Sp) (u E : Int) : Prop where
  norm : Norm L
  f : ∀ s ∈ L, s.f % u = 0
  t : ∀ s ∈ L, s.t ≤ E ∧ (s.t % u = 0 ∨ s.t = E)
theorem lok_units {g : List Sp} (hg : Norm g) {n u : Int} (hm : measB n u = true) : Lok (unitsS g n u) u (endI n) := by
  have hN := units_norm g n u
  have hM := mem_units hg hm
  have hm2 := hm
  simp [measB] at hm2
  obtain ⟨hU, hL⟩ := hm2
  obtain ⟨u1, u2⟩ := unit_bound hU
  refine ⟨hN, fun s hs => ?_, fun s hs => ?_⟩
  · rcases Int.decEq (s.f % u) 0 with h | h
    · exfalso
      have hok := hN.1 s hs
      have h1 := (hM s.f).1 ⟨s, hs, Int.le_refl _, hok.2.1⟩
      obtain ⟨a1, a2, y, y1, y2, y3, y4⟩ := h1
      refine norm_not_f hN hs ((hM (s.f - 1)).2 ⟨?_, by omega, y, y1, y2, y3, ?_⟩)
      · have := emod_le a1 (show 0 < u by omega)
        have := Int.emod_nonneg s.f (show u ≠ 0 by omega)
        omega
      · have hs0 := sub_mod s.f u
        have e0 : 0 ≤ s.f % u := Int.emod_nonneg _ (by omega)
        have e1 : s.f % u < u := Int.emod_lt_of_pos _ (by omega)
        have e2 : (s.f - 1) % u = s.f % u - 1 := by
          have e3 := Int.emod_add_mul_ediv s.f u
          rw [show s.f - 1 = (s.f % u - 1) + u * (s.f / u) by omega, Int.add_mul_emod_self_left]
          exact Int.emod_eq_of_lt (by omega) (by omega)
        omega
    · exact h
  · have hok := hN.1 s hs
    have h1 := (hM (s.t - 1)).1 ⟨s, hs, by have := hok.2.1; omega, by omega⟩
    obtain ⟨a1, a2, y, y1, y2, y3, y4⟩ := h1
    refine ⟨by omega, ?_⟩
    rcases Int.decEq (s.t % u) 0 with h | h
    · refine .inr ?_
      rcases lt_or_ge s.t (endI n) with h2 | h2
      · exfalso
        refine norm_not_t hN hs ((hM s.t).2 ⟨by omega, h2, y, y1, y2, y3, ?_⟩)
        have hs0 := sub_mod s.t u
        have e0 : 0 ≤ s.t % u := Int.emod_nonneg _ (by omega)
        have e1 : s.t % u < u := Int.emod_lt_of_pos _ (by omega)
        have e2 : (s.t - 1) % u = s.t % u - 1 := by
          have e3 := Int.emod_add_mul_ediv s.t u
          rw [show s.t - 1 = (s.t % u - 1) + u * (s.t / u) by omega, Int.add_mul_emod_self_left]
          exact Int.emod_eq_of_lt (by omega) (by omega)
        omega
      · omega
    · exact .inl h

/-- Where the run of F that holds a byte ends. -/
def freeT (F : List Sp) (x : Int) : Int := ((firstS F x).getD ⟨0, 0⟩).t
theorem free_at {F : List Sp} (hF : Norm F) {x : Int} (hx : Mem F x) : ∃ s ∈ F, s.f ≤ x ∧ x < s.t ∧ freeT F x = s.t := by
  obtain ⟨s, hs, h1, h2⟩ := hx
  obtain ⟨i, hi, rfl⟩ := List.mem_iff_getElem.1 hs
  have hb : beh F x = i := beh_eq hi (fun j hj hji => by have := hF.lt hji hi; omega) h2
  refine ⟨F[i], hs, h1, h2, ?_⟩
  unfold freeT firstS
  rw [hb, List.getElem?_eq_getElem hi]
  rfl
/-- From x on all is free up to its run's end; that end isn't free. -/
theorem free_upto {F : List Sp} (hF : Norm F) {x : Int} (hx : Mem F x) : x < freeT F x ∧ (∀ y, x ≤ y → y < freeT F x → Mem F y) ∧ ¬ Mem F (freeT F x) ∧ freeT F x ≤ 4611686018427387904 := by
  obtain ⟨s, hs, h1, h2, h3⟩ := free_at hF hx
  rw [h3]
  exact ⟨h2, fun y h4 h5 => ⟨s, hs, by omega, h5⟩, norm_not_t hF hs, (hF.1 s hs).2.2⟩

theorem wst_mono {l : List Sp} (hn : Norm l) {i j : Nat} (hij : i ≤ j) (hj : j < l.length) : wst l i ≤ wst l j := by
  induction j with
  | zero => obtain rfl : i = 0 := by omega
            exact Int.le_refl _
  | succ j ih =>
    rcases Nat.lt_or_ge i (j + 1) with h | h
    · have := ih (by omega) (by omega)
      have h2 := hn.lt (show j < j + 1 by omega) hj
      rw [wst_succ hj]; omega
    · obtain rfl : i = j + 1 := by omega
      exact Int.le_refl _
/-- May a fetch that begins at from end at e, in span j of what is left? -/
structure Fe (L : List Sp) (from_ free : Int) (c : Cf) (j : Nat) (e : Int) : Prop where
  hj : j < L.length
  lo : (L.getD j default).f < e
  hi : e ≤ (L.getD j default).t
  al : e = (L.getD j default).t ∨ e % c.u = 0
  len : e = 4611686018427387904 ∨ e - from_ ≤ c.mo
  wa : wst L j ≤ c.wa
  fr : (L.getD j default).f ≤ free
theorem getD_i {L : List Sp} {j : Nat} (h : j < L.length) : L.getD j default = L[j] := by simp [List.getD_eq_getElem?_getD, h]
theorem most_bound {from_ M u : Int} (hu : 0 < u) (hM : u ≤ M) (hu2 : u ≤ 4611686018427387904) (hf : from_ % u = 0) :
    mostI from_ M u - from_ ≤ M ∧ mostI from_ M u % u = 0 ∧ from_ + u ≤ mostI from_ M u ∧ ∀ e, e % u = 0 → e ≤ 4611686018427387904 → 0 ≤ from_ → e - from_ ≤ M → e ≤ mostI from_ M u := by
  unfold mostI
  have h1 : min M 4611686018427387904 / u * u ≤ min M 4611686018427387904 := Int.ediv_mul_le _ (by omega)
  have h2 : (min M 4611686018427387904 / u * u) % u = 0 := Int.mul_emod_left _ _
  have h3 : u ≤ min M 4611686018427387904 / u * u := by
    have h4 : u / u ≤ min M 4611686018427387904 / u := Int.ediv_le_ediv hu (by omega)
    rw [Int.ediv_self (by omega)] at h4
    have := Int.mul_le_mul_of_nonneg_right h4 (show 0 ≤ u by omega)
    omega
  refine ⟨by omega, by rw [Int.add_emod, hf, h2]; rfl, by omega, fun e he he2 h0 hle => ?_⟩
  have h5 : (e - from_) % u = 0 := by rw [Int.sub_emod, he, hf]; rfl
  have h6 : (e - from_) / u ≤ min M 4611686018427387904 / u := Int.ediv_le_ediv hu (by omega)
  have h7 := Int.mul_le_mul_of_nonneg_right h6 (show 0 ≤ u by omega)
  have h8 := Int.emod_add_mul_ediv (e - from_) u
  rw [h5, Int.mul_comm] at h8
  omega

theorem endGo_spec {L : List Sp} {from_ free E : Int} {c : Cf} (hL : Lok L c.u E) (hU : unitB c.u = true) (hM : c.u ≤ c.mo) (hf : from_ % c.u = 0) (hf0 : 0 ≤ from_) (hO : ∀ j (h : j < L.length), L[j].t = 4611686018427387904 → L[j].f > free ∨ wst L j > c.wa) :
    ∀ n i to_, n = L.length - i → i ≤ L.length →
      (endGo L from_ free c.wa c.mo (mostI from_ c.mo c.u) n i to_ = to_ ∧ ∀ j e, i ≤ j → ¬ Fe L from_ free c j e) ∨
      ∃ j, i ≤ j ∧ Fe L from_ free c j (endGo L from_ free c.wa c.mo (mostI from_ c.mo c.u) n i to_) ∧ ∀ j' e, i ≤ j' → Fe L from_ free c j' e → e ≤ endGo L from_ free c.wa c.mo (mostI from_ c.mo c.u) n i to_ := by
  obtain ⟨u1, u2⟩ := unit_bound hU
  obtain ⟨b1, b2, b3, b4⟩ := most_bound (from_ := from_) (show 0 < c.u by omega) hM (by omega) hf
  generalize mostI from_ c.mo c.u = most at *
  have hN := hL.norm
  -- an end that may be is no greater than most, unless its span ends within the length
  have key : ∀ j e, Fe L from_ free c j e → (∀ h : j < L.length, L[j].t - from_ > c.mo) → e ≤ most := by
    intro j e h hlt
    obtain ⟨h1, h2, h3, h4, h5, h6, h7⟩ := h
    have hlt := hlt h1
    rw [getD_i h1] at *
    have hg := hN.get h1
    rcases h5 with h5 | h5
    · have : L[j].t = 4611686018427387904 := by omega
      rcases hO j h1 this with h8 | h8 <;> omega
    · rcases h4 with h4 | h4
      · omega
      · exact b4 e h4 (by omega) hf0 h5
  intro n
  induction n with
  | zero =>
    intro i to_ hn hi
    exact .inl ⟨rfl, fun j e hij h => by have := h.hj; omega⟩
  | succ n ih =>
    intro i to_ hn hi
    have hil : i < L.length := by omega
    have hdef : endGo L from_ free c.wa c.mo most (n + 1) i to_ = if L[i].f > free ∨ wst L i > c.wa then to_ else if L[i].t - from_ ≤ c.mo then endGo L from_ free c.wa c.mo most n (i + 1) L[i].t else if most > L[i].f then most else to_ := by
      show (if (L.getD i default).f > free ∨ wst L i > c.wa then to_ else if (L.getD i default).t - from_ ≤ c.mo then endGo L from_ free c.wa c.mo most n (i + 1) (L.getD i default).t else if most > (L.getD i default).f then most else to_) = _
      rw [getD_i hil]
    have hgi := hN.get hil
    have hle : ∀ j, i ≤ j → (h : j < L.length) → L[i].f ≤ L[j].f ∧ wst L i ≤ wst L j ∧ L[i].t ≤ L[j].t := fun j hij h => by
      refine ⟨?_, wst_mono hN hij h, ?_⟩
      · rcases Nat.lt_or_ge i j with h2 | h2
        · have := hN.lt h2 h; omega
        · obtain rfl : i = j := by omega
          omega
      · rcases Nat.lt_or_ge i j with h2 | h2
        · have := hN.lt h2 h; have := hN.get h; omega
        · obtain rfl : i = j := by omega
          omega
    rw [hdef]
    by_cases c1 : L[i].f > free ∨ wst L i > c.wa
    · rw [if_pos c1]
      refine .inl ⟨rfl, fun j e hij h => ?_⟩
      have h1 := hle j hij h.hj
      have h2 := h.fr
      have h3 := h.wa
      rw [getD_i h.hj] at h2
      omega
    · rw [if_neg c1]
      by_cases c2 : L[i].t - from_ ≤ c.mo
      · rw [if_pos c2]
        have hfe : Fe L from_ free c i L[i].t := ⟨hil, by rw [getD_i hil]; exact hgi.2.1, by rw [getD_i hil]; exact Int.le_refl _, .inl (by rw [getD_i hil]), .inr c2, by omega, by rw [getD_i hil]; omega⟩
        rcases ih (i + 1) L[i].t (by omega) (by omega) with ⟨h1, h2⟩ | ⟨j, hj, h1, h2⟩
        · rw [h1]
          refine .inr ⟨i, Nat.le_refl _, hfe, fun j' e hij h => ?_⟩
          rcases Nat.lt_or_ge i j' with h3 | h3
          · exact absurd h (h2 j' e h3)
          · obtain rfl : i = j' := by omega
            have := h.hi; rw [getD_i hil] at this; exact this
        · refine .inr ⟨j, by omega, h1, fun j' e hij h => ?_⟩
          rcases Nat.lt_or_ge i j' with h3 | h3
          · exact h2 j' e h3 h
          · obtain rfl : i = j' := by omega
            have h4 := h.hi
            have h5 := h1.lo
            rw [getD_i hil] at h4
            rw [getD_i h1.hj] at h5
            have h6 := hN.lt (show i < j by omega) h1.hj
            omega
      · rw [if_neg c2]
        have hbig : ∀ j e, i ≤ j → Fe L from_ free c j e → e ≤ most := fun j e hij h => key j e h (fun hj => by have := hle j hij hj; omega)
        by_cases c3 : most > L[i].f
        · rw [if_pos c3]
          refine .inr ⟨i, Nat.le_refl _, ⟨hil, by rw [getD_i hil]; exact c3, by rw [getD_i hil]; omega, .inr b2, .inr b1, by omega, by rw [getD_i hil]; omega⟩, fun j e hij h => hbig j e hij h⟩
        · rw [if_neg c3]
          refine .inl ⟨rfl, fun j e hij h => ?_⟩
          have h1 := hbig j e hij h
          have h2 := h.lo
          rw [getD_i h.hj] at h2
          have h3 := hle j hij h.hj
          omega

/-- The end that is told is the greatest that may be. -/
theorem endC_spec {L F : List Sp} {E : Int} {c : Cf} (hL : Lok L c.u E) (hU : unitB c.u = true) (hM : c.u ≤ c.mo) (hw : 0 ≤ c.wa) (hF : Norm F) (hLF : ∀ x, Mem L x → Mem F x) (h0 : 0 < L.length) :
    (∃ j, Fe L L[0].f (freeT F L[0].f) c j (endC L (freeT F L[0].f) c)) ∧ ∀ j e, Fe L L[0].f (freeT F L[0].f) c j e → e ≤ endC L (freeT F L[0].f) c := by
  have hN := hL.norm
  have hg0 := hN.get h0
  have hla : L.length - 1 < L.length := by omega
  have hin : Mem F L[0].f := hLF _ (mem_idx h0 (Int.le_refl _) hg0.2.1)
  obtain ⟨f1, f2, f3, f4⟩ := free_upto hF hin
  obtain ⟨u1, u2⟩ := unit_bound hU
  unfold endC
  simp only [getD_i h0, getD_i hla]
  generalize hfr : freeT F L[0].f = free at *
  by_cases hs : L[L.length - 1].t = 4611686018427387904 ∧ free = 4611686018427387904 ∧ wst L (L.length - 1) ≤ c.wa
  · rw [if_pos hs]
    obtain ⟨s1, s2, s3⟩ := hs
    have hgl := hN.get hla
    refine ⟨⟨L.length - 1, hla, by rw [getD_i hla]; omega, by rw [getD_i hla]; omega, .inl (by rw [getD_i hla, s1]), .inl rfl, s3, by rw [getD_i hla]; omega⟩, fun j e h => ?_⟩
    have h1 := h.hi
    rw [getD_i h.hj] at h1
    have := hN.get h.hj
    omega
  · rw [if_neg hs]
    have hO : ∀ j (h : j < L.length), L[j].t = 4611686018427387904 → L[j].f > free ∨ wst L j > c.wa := by
      intro j h ht
      have hjl : j = L.length - 1 := by
        rcases Nat.lt_or_ge j (L.length - 1) with h1 | h1
        · have := hN.lt h1 hla; have := hN.get hla; omega
        · omega
      subst hjl
      rcases lt_or_ge free L[L.length - 1].f with h1 | h1
      · exact .inl h1
      · right
        have hgl := hN.get h
        have hne : ¬ free < 4611686018427387904 := fun hlt => f3 (hLF _ (mem_idx h h1 (by omega)))
        rcases lt_or_ge c.wa (wst L (L.length - 1)) with h2 | h2
        · exact h2
        · exact absurd ⟨ht, by omega, h2⟩ hs
    rcases endGo_spec (free := free) hL hU hM (hL.f _ (List.getElem_mem h0)) hg0.1 hO L.length 0 L[0].f (by omega) (Nat.zero_le _) with ⟨h1, h2⟩ | ⟨j, _, h1, h2⟩
    · exfalso
      obtain ⟨b1, b2, b3, b4⟩ := most_bound (from_ := L[0].f) (show 0 < c.u by omega) hM (by omega) (hL.f _ (List.getElem_mem h0))
      by_cases c2 : L[0].t - L[0].f ≤ c.mo
      · exact h2 0 L[0].t (Nat.zero_le _) ⟨h0, by rw [getD_i h0]; exact hg0.2.1, by rw [getD_i h0]; exact Int.le_refl _, .inl (by rw [getD_i h0]), .inr c2, hw, by rw [getD_i h0]; omega⟩
      · exact h2 0 (mostI L[0].f c.mo c.u) (Nat.zero_le _) ⟨h0, by rw [getD_i h0]; omega, by rw [getD_i h0]; omega, .inr b2, .inr b1, hw, by rw [getD_i h0]; omega⟩
    · exact ⟨⟨j, h1⟩, fun j' e h => h2 j' e (Nat.zero_le _) h⟩
end Go.Proofs.Ytdcdnnbijjcfmaa
