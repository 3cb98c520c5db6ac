/- The contract of plan.Right. -/
import Derived.Test.YtdcdnnbijjcfmaaRrt
namespace Go.Proofs.Ytdcdnnbijjcfmaa
open Go.RowKit

theorem holds_eq {F : List Sp} (nF : Norm F) {f t : Int} (hr : rightB f t = true) (hlt : f < t) : holdsS F f t = refholdsS F f t := by
  have hr2 := hr
  simp [rightB] at hr2
  obtain ⟨⟨r1, r2⟩, r3⟩ := hr2
  have hok : (Sp.mk f t).ok := ⟨r1, hlt, r3⟩
  have hL : refholdsS F f t = true ↔ ∀ x, f ≤ x → x < t → Mem F x := by
    unfold refholdsS
    rw [hr, of_norm nF]
    simp only [Bool.true_and, beq_iff_eq]
    constructor
    · intro h x h1 h2
      rcases Classical.em (Mem F x) with h3 | h3
      · exact h3
      · have h4 := (mem_less (norm_of [⟨f, t⟩]) nF x).2 ⟨(mem_of _ x).2 ⟨⟨f, t⟩, by simp, hok, h1, h2⟩, h3⟩
        rw [List.eq_nil_of_length_eq_zero h] at h4
        exact absurd h4 (mem_nil x)
    · intro h
      rw [norm_empty (norm_less _ _) (fun x hx => ?_)]
      · rfl
      · obtain ⟨h1, h2⟩ := (mem_less (norm_of [⟨f, t⟩]) nF x).1 hx
        obtain ⟨s, hs, _, h3, h4⟩ := (mem_of _ x).1 h1
        simp at hs
        subst hs
        exact h2 (h x h3 h4)
  have hC : holdsS F f t = true ↔ ∀ x, f ≤ x → x < t → Mem F x := by
    unfold holdsS
    rw [hr, show (f == t) = false from beq_eq_false_iff_ne.2 (by omega)]
    simp only [Bool.true_and, Bool.false_or]
    constructor
    · intro h x h1 h2
      cases hq : F[beh F f]? with
      | none => rw [hq] at h; simp at h
      | some s =>
        rw [hq] at h
        simp at h
        obtain ⟨hi, hs⟩ := List.getElem?_eq_some_iff.1 hq
        exact ⟨s, by rw [← hs]; exact List.getElem_mem hi, by omega, by omega⟩
    · intro h
      obtain ⟨s, hs, h1, h2⟩ := h f (Int.le_refl _) hlt
      obtain ⟨i, hi, rfl⟩ := List.mem_iff_getElem.1 hs
      have hb : beh F f = i := beh_eq hi (fun j hj hji => by have := nF.lt hji hi; omega) h2
      rw [hb, List.getElem?_eq_getElem hi]
      simp
      refine ⟨h1, ?_⟩
      rcases lt_or_ge F[i].t t with h3 | h3
      · exact absurd (h F[i].t (by omega) h3) (norm_not_t nF hs)
      · exact h3
  rw [Bool.eq_iff_iff, hL, hC]
/-- What the program asks of a fetch. -/
def codeB (s : Sp) (U F : List Sp) (n : Int) (c : Cf) : Bool := withinB s ⟨0, objT n⟩ && !(s.f == s.t) && (s.f % c.u == 0) && (s.t % c.u == 0 || s.t == objT n) && (s.t == 4611686018427387904 || decide (s.t - s.f ≤ c.mo)) && holdsS F s.f s.t && decide (wasteS s U ≤ c.wa)
theorem code_eq {U F : List Sp} (nF : Norm F) {n : Int} {c : Cf} (hok : okB n c = true) (s : Sp) : codeB s U F n c = fetchB s U F n c := by
  simp [okB, measB] at hok
  obtain ⟨⟨⟨hU, hL⟩, _⟩, _⟩ := hok
  have hO := unit_open hU
  have hobj := objT_end hL
  obtain ⟨e1, e2, e3⟩ := end_bound hL
  unfold codeB fetchB wholeB withinB
  rw [hobj]
  simp only
  rcases hr : rightB s.f s.t with _ | _
  · simp
  · have hr2 := hr
    simp [rightB] at hr2
    have hE : rightB 0 (endI n) = true := by simp [rightB]; omega
    rw [hE]
    rcases Int.lt_trichotomy s.f s.t with h | h | h
    · rw [holds_eq nF hr h]
      have h1 : (s.f == s.t) = false := beq_eq_false_iff_ne.2 (by omega)
      have h2 : decide (s.f < s.t) = true := decide_eq_true h
      have h3 : decide (0 ≤ s.f) = true := decide_eq_true hr2.1.1
      have h4 : (s.t % c.u == 0 || s.t == endI n) = (s.t == 4611686018427387904 || s.t % c.u == 0 || s.t == n) := by
        rcases e3 with ⟨a, b⟩ | ⟨a, b, _⟩
        · rw [a, b]
          rcases hh : (s.t == 4611686018427387904) with _ | _
          · have : (s.t == (-1 : Int)) = false := beq_eq_false_iff_ne.2 (by omega)
            rw [this]
            simp
          · have : s.t = 4611686018427387904 := by simpa using hh
            rw [this, hO]; simp
        · rw [a]
          rcases hh : (s.t == 4611686018427387904) with _ | _
          · simp
          · have : s.t = 4611686018427387904 := by simpa using hh
            rw [this, hO]; simp
      rw [h1, h2, h3, h4]
      simp only [Bool.true_and, Bool.false_or, Bool.not_false, Bool.and_true]
      cases decide (s.t ≤ endI n) <;> cases (s.f % c.u == 0) <;> cases (s.t == 4611686018427387904 || s.t % c.u == 0 || s.t == n) <;> simp <;> cases (refholdsS F s.f s.t) <;> simp
    · have h1 : (s.f == s.t) = true := by simpa using h
      have h2 : decide (s.f < s.t) = false := decide_eq_false (by omega)
      rw [h1, h2]
      simp
    · omega
end Go.Proofs.Ytdcdnnbijjcfmaa
