/- The reference's plan is the program's: plain, no program in sight. -/
import Derived.Test.YtdcdnnbijjcfmaaRgt
namespace Go.Proofs.Ytdcdnnbijjcfmaa

/-- What lies between the spans up to number j. -/
def gapsL (L : List Sp) : Nat → List Sp
  | 0 => []
  | j + 1 => gapsL L j ++ [⟨(L.getD j default).t, (L.getD (j + 1) default).f⟩]
theorem gaps_inv {L : List Sp} (hN : Norm L) : ∀ j, (hj : j < L.length) → Norm (gapsL L j) ∧ (∀ s ∈ gapsL L j, s.t ≤ L[j].f) ∧ sumS (gapsL L j) = wst L j ∧ ∀ x, Mem (gapsL L j) x ↔ (∃ h : 0 < L.length, L[0].f ≤ x) ∧ x < L[j].f ∧ ¬ Mem L x := by
  intro j
  induction j with
  | zero =>
    intro hj
    refine ⟨norm_nil, by simp [gapsL], rfl, fun x => ⟨fun h => absurd h (mem_nil x), ?_⟩⟩
    rintro ⟨⟨_, h1⟩, h2, _⟩
    omega
  | succ j ih =>
    intro hj
    obtain ⟨h1, h2, h3, h4⟩ := ih (by omega)
    have hjl : j < L.length := by omega
    have gj := hN.get hjl
    have gj1 := hN.get hj
    have hlt := hN.lt (show j < j + 1 by omega) hj
    have hd : gapsL L (j + 1) = gapsL L j ++ [⟨L[j].t, L[j + 1].f⟩] := by show gapsL L j ++ [⟨(L.getD j default).t, (L.getD (j + 1) default).f⟩] = _; rw [getD_i hjl, getD_i hj]
    rw [hd]
    refine ⟨norm_snoc.2 ⟨h1, ⟨by show 0 ≤ L[j].t; omega, hlt, by show L[j + 1].f ≤ _; omega⟩, fun u hu => by have := h2 u hu; show u.t < L[j].t; omega⟩, fun s hs => ?_, ?_, fun x => ?_⟩
    · rcases List.mem_append.1 hs with hs | hs
      · have := h2 s hs; omega
      · simp at hs; subst hs; exact Int.le_refl _
    · rw [sumS_snoc, h3, wst_succ hj]
    · rw [mem_append, h4]
      have hone : Mem [(⟨L[j].t, L[j + 1].f⟩ : Sp)] x ↔ L[j].t ≤ x ∧ x < L[j + 1].f := by simp [Mem]
      rw [hone]
      have hfirst : ∀ h : 0 < L.length, L[0].f ≤ L[j].f := fun h => by
        rcases Nat.eq_zero_or_pos j with h5 | h5
        · subst h5; exact Int.le_refl _
        · have := hN.lt h5 hjl; have := hN.get h; omega
      constructor
      · rintro (⟨a, b, c⟩ | ⟨a, b⟩)
        · exact ⟨a, by omega, c⟩
        · refine ⟨⟨by omega, by have := hfirst (by omega); omega⟩, b, ?_⟩
          rintro ⟨s, hs, s1, s2⟩
          obtain ⟨k, hk, rfl⟩ := List.mem_iff_getElem.1 hs
          rcases Nat.lt_or_ge j k with h5 | h5
          · rcases Nat.lt_or_ge (j + 1) k with h6 | h6
            · have := hN.lt h6 hk; omega
            · obtain rfl : k = j + 1 := by omega
              omega
          · rcases Nat.lt_or_ge k j with h6 | h6
            · have := hN.lt h6 hjl; omega
            · obtain rfl : k = j := by omega
              omega
      · rintro ⟨a, b, c⟩
        by_cases h5 : x < L[j].f
        · exact .inl ⟨a, h5, c⟩
        · right
          refine ⟨?_, b⟩
          rcases lt_or_ge x L[j].t with h6 | h6
          · exact absurd (mem_idx hjl (by omega) h6) c
          · exact h6
/-- L is what of W lies from a byte on. -/
def Rest (W L : List Sp) (a : Int) : Prop := ∀ y, Mem L y ↔ Mem W y ∧ a ≤ y
theorem waste_gaps {W L : List Sp} (hW : Norm W) (hN : Norm L) (h0 : 0 < L.length) {a : Int} (hR : Rest W L a) {j : Nat} (hj : j < L.length) {e : Int} (h1 : L[j].f < e) (h2 : e ≤ L[j].t) : wasteS ⟨L[0].f, e⟩ W = wst L j := by
  obtain ⟨g1, g2, g3, g4⟩ := gaps_inv hN j hj
  have hg0 := hN.get h0
  have hgj := hN.get hj
  have h0j : L[0].f ≤ L[j].f := by
    rcases Nat.eq_zero_or_pos j with h5 | h5
    · subst h5; exact Int.le_refl _
    · have := hN.lt h5 hj; omega
  have hok : (Sp.mk L[0].f e).ok := ⟨hg0.1, by show L[0].f < e; omega, by show e ≤ _; omega⟩
  have ha : a ≤ L[0].f := ((hR L[0].f).1 (mem_idx h0 (Int.le_refl _) hg0.2.1)).2
  have he : lessS (ofS [⟨L[0].f, e⟩]) W = gapsL L j := by
    refine norm_ext (norm_less _ _) g1 fun x => ?_
    rw [mem_less (norm_of _) hW, mem_of, g4]
    simp only [List.mem_singleton, exists_eq_left]
    constructor
    · rintro ⟨⟨_, a1, a2⟩, a3⟩
      refine ⟨⟨h0, a1⟩, ?_, fun h => a3 ((hR x).1 h).1⟩
      rcases lt_or_ge x L[j].f with h5 | h5
      · exact h5
      · exact absurd ((hR x).1 (mem_idx hj h5 (by have a2' : x < e := a2; omega))).1 a3
    · rintro ⟨⟨_, a1⟩, a2, a3⟩
      exact ⟨⟨hok, a1, by show x < e; omega⟩, fun h => a3 ((hR x).2 ⟨h, by omega⟩)⟩
  unfold wasteS lenS
  rw [he, if_neg, g3]
  intro h
  obtain ⟨s, hs, h5⟩ := List.any_eq_true.1 h
  have := g2 s hs
  have h6 : s.t = 4611686018427387904 := by simpa using h5
  omega
/-- A fetch that may be, in the reference's words and in ours. -/
theorem fetch_fe {W L F : List Sp} {c : Cf} {n : Int} (h : Pok L F c (endI n)) (hL : lengthB n = true) (hW : Norm W) {a : Int} (hR : Rest W L a) (h0 : 0 < L.length) {j : Nat} (hj : j < L.length) {e : Int} (h1 : L[j].f < e) (h2 : e ≤ L[j].t) (h3 : e = L[j].t ∨ e % c.u = 0) :
    fetchB ⟨L[0].f, e⟩ W F n c = true ↔ Fe L L[0].f (freeT F L[0].f) c j e := by
  have hN := h.lok.norm
  have hg0 := hN.get h0
  have hgj := hN.get hj
  have h0j : L[0].f ≤ L[j].f := by
    rcases Nat.eq_zero_or_pos j with h5 | h5
    · subst h5; exact Int.le_refl _
    · have := hN.lt h5 hj; omega
  have hin : Mem F L[0].f := h.free _ (mem_idx h0 (Int.le_refl _) hg0.2.1)
  obtain ⟨f1, f2, f3, f4⟩ := free_upto h.norm hin
  have hw := waste_gaps hW hN h0 hR hj h1 h2
  have hr : rightB L[0].f e = true := by simp [rightB]; omega
  have hjt := h.lok.t L[j] (List.getElem_mem hj)
  obtain ⟨e1, e2, e3⟩ := end_bound hL
  have hwh : wholeB ⟨L[0].f, e⟩ n c.u = true := by
    unfold wholeB
    rw [hr]
    simp only [Bool.true_and, Bool.and_eq_true, decide_eq_true_eq, beq_iff_eq, Bool.or_eq_true]
    refine ⟨⟨⟨by omega, h.lok.f _ (List.getElem_mem h0)⟩, by omega⟩, ?_⟩
    rcases h3 with h3 | h3
    · rcases hjt.2 with h5 | h5
      · exact .inl (.inr (by rw [h3]; exact h5))
      · rcases e3 with ⟨h6, _⟩ | ⟨h6, _⟩
        · exact .inl (.inl (by rw [h3, h5, h6]))
        · exact .inr (by rw [h3, h5, h6])
    · exact .inl (.inr h3)
  have hho : refholdsS F L[0].f e = true ↔ L[j].f ≤ freeT F L[0].f := by
    rw [← holds_eq h.norm hr (by omega)]
    have hC : holdsS F L[0].f e = true ↔ ∀ x, L[0].f ≤ x → x < e → Mem F x := by
      unfold holdsS
      rw [hr, show (L[0].f == e) = false from beq_eq_false_iff_ne.2 (by omega)]
      simp only [Bool.true_and, Bool.false_or]
      constructor
      · intro h' x hx1 hx2
        cases hq : F[beh F L[0].f]? with
        | none => rw [hq] at h'; simp at h'
        | some s =>
          rw [hq] at h'
          simp at h'
          obtain ⟨hi, hs⟩ := List.getElem?_eq_some_iff.1 hq
          exact ⟨s, by rw [← hs]; exact List.getElem_mem hi, by omega, by omega⟩
      · intro h'
        obtain ⟨s, hs, hx1, hx2⟩ := h' L[0].f (Int.le_refl _) (by omega)
        obtain ⟨i, hi, rfl⟩ := List.mem_iff_getElem.1 hs
        have hb : beh F L[0].f = i := beh_eq hi (fun j hj hji => by have := h.norm.lt hji hi; omega) hx2
        rw [hb, List.getElem?_eq_getElem hi]
        simp
        refine ⟨hx1, ?_⟩
        rcases lt_or_ge F[i].t e with h5 | h5
        · exact absurd (h' F[i].t (by omega) h5) (norm_not_t h.norm hs)
        · exact h5
    rw [hC]
    constructor
    · intro hx
      rcases lt_or_ge (freeT F L[0].f) L[j].f with h5 | h5
      · exact absurd (hx _ (by omega) (by omega)) f3
      · exact h5
    · intro h5 x hx1 hx2
      rcases lt_or_ge x (freeT F L[0].f) with h6 | h6
      · exact f2 x hx1 h6
      · exact h.free x (mem_idx hj (by omega) (by omega))
  unfold fetchB
  simp only
  rw [hwh, hw]
  simp only [Bool.true_and, Bool.and_eq_true, Bool.or_eq_true, beq_iff_eq, decide_eq_true_eq, hho]
  constructor
  · rintro ⟨⟨a1, a2⟩, a3⟩
    exact ⟨hj, by rw [getD_i hj]; exact h1, by rw [getD_i hj]; exact h2, by rw [getD_i hj]; exact h3, a2, a3, by rw [getD_i hj]; exact a1⟩
  · intro hf
    have a1 := hf.fr
    rw [getD_i hj] at a1
    exact ⟨⟨a1, hf.len⟩, hf.wa⟩
/-- What is left behind a fetch. -/
theorem less_cut {L F : List Sp} {c : Cf} {E : Int} (h : Pok L F c E) (h0 : 0 < L.length) {e : Int} (he : endC L (freeT F L[0].f) c = e) : lessS L (ofS [⟨L[0].f, e⟩]) = cutL L e := by
  obtain ⟨h1, h2, h3, h4, _⟩ := pok_step h h0 he
  have hg0 := h.lok.norm.get h0
  refine norm_ext (norm_less _ _) h3.lok.norm fun y => ?_
  rw [mem_less h.lok.norm (norm_of _), h4, mem_of]
  simp only [List.mem_singleton, exists_eq_left]
  constructor
  · rintro ⟨a, b⟩
    refine ⟨a, ?_⟩
    rcases lt_or_ge y e with h5 | h5
    · refine absurd ⟨⟨hg0.1, h1, h2⟩, ?_, h5⟩ b
      obtain ⟨s, hs, s1, s2⟩ := a
      obtain ⟨k, hk, rfl⟩ := List.mem_iff_getElem.1 hs
      rcases Nat.eq_zero_or_pos k with h6 | h6
      · subst h6; exact s1
      · have := h.lok.norm.lt h6 hk; show L[0].f ≤ y; omega
    · exact h5
  · rintro ⟨a, b⟩
    exact ⟨a, fun ⟨_, _, h5⟩ => by have h5' : y < e := h5; omega⟩

/-- The ends of a span that ends, unit by unit. -/
def runE (u t : Int) : Nat → Int → List Int
  | 0, _ => []
  | k + 1, a => if a < t then min (a + u) t :: runE u t k (min (a + u) t) else []
/-- .. of one that doesn't. -/
def openE (u : Int) : Nat → Int → List Int
  | 0, _ => [4611686018427387904]
  | k + 1, a => (a + u) :: openE u k (a + u)
def endsE (from_ u : Int) : List Sp → List Int
  | [] => []
  | s :: l => if s.t ≤ from_ then endsE from_ u l else if s.t = 4611686018427387904 then openE u 600 (max s.f from_) else runE u s.t 101 (max s.f from_) ++ endsE from_ u l
/-- The last end that may be. -/
def bestE (U F : List Sp) (n : Int) (c : Cf) (from_ : Int) (l : List Int) : Int := l.foldl (fun b e => if fetchB ⟨from_, e⟩ U F n c then e else b) from_
end Go.Proofs.Ytdcdnnbijjcfmaa
