/- Gaps, widened: what the program and its reference make of them is one: plain, no program in sight. -/
import Derived.Test.YtdcdnnbijjcfmaaAln
namespace Go.Proofs.Ytdcdnnbijjcfmaa

theorem lt_or_ge (a b : Int) : a < b ∨ b ≤ a := by omega
theorem emod_le {t u : Int} (ht : 0 ≤ t) (hu : 0 < u) : t % u ≤ t := by
  have := Int.emod_nonneg t (show u ≠ 0 by omega)
  have := Int.emod_add_mul_ediv t u
  have := Int.mul_nonneg (show 0 ≤ u by omega) (Int.ediv_nonneg ht (show 0 ≤ u by omega))
  omega
/-- Two multiples are a unit apart, or one. -/
theorem mult_step {x y u : Int} (hu : 0 < u) (hx : x % u = 0) (hy : y % u = 0) (h : x < y) : x + u ≤ y := by
  have h1 := Int.emod_add_mul_ediv x u
  have h2 := Int.emod_add_mul_ediv y u
  rw [hx] at h1
  rw [hy] at h2
  have h3 : x / u < y / u := by
    rcases lt_or_ge (x / u) (y / u) with h3 | h3
    · exact h3
    · have := Int.mul_le_mul_of_nonneg_left h3 (show 0 ≤ u by omega); omega
  have h4 : u * (x / u + 1) ≤ u * (y / u) := Int.mul_le_mul_of_nonneg_left (by omega) (by omega)
  rw [Int.mul_add] at h4
  omega
theorem sub_mod (t u : Int) : (t - t % u) % u = 0 := by
  have h := Int.emod_add_mul_ediv t u
  rw [show t - t % u = u * (t / u) by omega]
  exact Int.mul_emod_right _ _
theorem aln_t {t u : Int} (hU : unitB u = true) (h0 : 0 ≤ t) (h2 : t ≤ 4611686018427387904) : alnT t u = (if t % u = 0 then t else t - t % u + u) ∧ t ≤ alnT t u ∧ alnT t u ≤ 4611686018427387904 ∧ alnT t u % u = 0 ∧ alnT t u < t + u := by
  obtain ⟨u1, u2⟩ := unit_bound hU
  have hO := unit_open hU
  have m1 : 0 ≤ t % u := Int.emod_nonneg _ (by omega)
  have m2 : t % u < u := Int.emod_lt_of_pos _ (by omega)
  unfold alnT
  by_cases e : t % u = 0
  · rw [if_pos e, if_pos e]; exact ⟨rfl, Int.le_refl _, h2, e, by omega⟩
  · rw [if_neg e, if_neg e]
    have hs := sub_mod t u
    have hlt : t - t % u < 4611686018427387904 := by omega
    have h5 := mult_step (by omega) hs hO hlt
    have h6 : (t - t % u + u) % u = 0 := by rw [Int.add_emod, hs]; simp
    rw [Int.min_eq_left (by omega)]
    exact ⟨rfl, by omega, by omega, h6, by omega⟩
/-- A span, widened, as the reference has it. -/
def wideS (n u : Int) (s : Sp) : Sp := ⟨s.f - s.f % u, if s.t < 4611686018427387904 then min (s.t + (u - s.t % u) % u) (endI n) else 4611686018427387904⟩
theorem wide_t {s : Sp} {n u : Int} (hU : unitB u = true) (hs : s.ok) (hE : s.t ≤ endI n) (_hE2 : endI n ≤ 4611686018427387904) : (wideS n u s).t = min (alnT s.t u) (endI n) := by
  obtain ⟨u1, u2⟩ := unit_bound hU
  obtain ⟨s1, s2, s3⟩ := hs
  obtain ⟨a1, a2, a3, a4, a5⟩ := aln_t hU (show 0 ≤ s.t by omega) s3
  have m1 : 0 ≤ s.t % u := Int.emod_nonneg _ (by omega)
  have m2 : s.t % u < u := Int.emod_lt_of_pos _ (by omega)
  show (if s.t < 4611686018427387904 then min (s.t + (u - s.t % u) % u) (endI n) else 4611686018427387904) = _
  by_cases h : s.t < 4611686018427387904
  · rw [if_pos h, a1]
    by_cases e : s.t % u = 0
    · rw [if_pos e, e]; simp
    · rw [if_neg e, Int.emod_eq_of_lt (by omega) (by omega)]
      congr 1; omega
  · rw [if_neg h]
    have : s.t = 4611686018427387904 := by omega
    have hO := unit_open hU
    rw [a1, this, hO]
    simp
    omega
def boxS (n : Int) : List Sp := ofS [⟨0, endI n⟩]
theorem norm_box (n : Int) : Norm (boxS n) := norm_of _
theorem mem_box (n x : Int) (h : endI n ≤ 4611686018427387904) : Mem (boxS n) x ↔ 0 ≤ x ∧ x < endI n := by
  unfold boxS
  rw [mem_of]
  simp only [List.mem_singleton, exists_eq_left]
  constructor
  · rintro ⟨_, h1, h2⟩; exact ⟨h1, h2⟩
  · rintro ⟨h1, h2⟩; exact ⟨⟨Int.le_refl _, by show 0 < endI n; omega, h⟩, h1, h2⟩
/-- The gaps, widened. -/
def unitsS (g : List Sp) (n u : Int) : List Sp := if measB n u then andS (ofS ((andS g (boxS n)).map fun s => alnS s u)) (boxS n) else []
def runitsS (g : List Sp) (n u : Int) : List Sp := if measB n u then ofS ((andS g (boxS n)).map (wideS n u)) else []
theorem end_bound {n : Int} (h : lengthB n = true) : 0 ≤ endI n ∧ endI n ≤ 4611686018427387904 ∧ (endI n = 4611686018427387904 ∧ n = -1 ∨ endI n = n ∧ 0 ≤ n ∧ n ≤ 1099511627776) := by
  simp [lengthB] at h
  unfold endI
  split <;> omega
theorem objT_end {n : Int} (h : lengthB n = true) : objT n = endI n := by
  simp [lengthB] at h
  unfold objT endI
  split <;> split <;> omega
theorem and_box {g : List Sp} (hg : Norm g) {n : Int} (h : lengthB n = true) {s : Sp} (hs : s ∈ andS g (boxS n)) : s.ok ∧ s.t ≤ endI n := by
  obtain ⟨h1, h2, _⟩ := end_bound h
  have hok := (norm_and g (boxS n)).1 s hs
  refine ⟨hok, ?_⟩
  have : Mem (andS g (boxS n)) (s.t - 1) := ⟨s, hs, by have := hok.2.1; omega, by omega⟩
  have h3 := (mem_and hg (norm_of _) _).1 this
  have := (mem_box n _ h2).1 h3.2
  omega
theorem units_eq {g : List Sp} (hg : Norm g) (n u : Int) : runitsS g n u = unitsS g n u := by
  unfold runitsS unitsS
  cases hm : measB n u
  · rfl
  · simp only [if_true]
    simp [measB] at hm
    obtain ⟨hU, hL⟩ := hm
    obtain ⟨h1, h2, _⟩ := end_bound hL
    refine norm_ext (norm_of _) (norm_and _ _) fun x => ?_
    rw [mem_of, mem_and (norm_of _) (norm_box n), mem_of, mem_box n x h2]
    obtain ⟨u1, u2⟩ := unit_bound hU
    constructor
    · rintro ⟨s', hs', hok, hx1, hx2⟩
      obtain ⟨s, hs, rfl⟩ := List.mem_map.1 hs'
      obtain ⟨hso, hst⟩ := and_box hg hL hs
      have hw := wide_t hU hso hst h2
      obtain ⟨s1, s2, s3⟩ := hso
      obtain ⟨a1, a2, a3, a4, a5⟩ := aln_t hU (show 0 ≤ s.t by omega) s3
      have hf0 : 0 ≤ s.f - s.f % u := by have := emod_le s1 (show 0 < u by omega); omega
      have m1 : 0 ≤ s.f % u := Int.emod_nonneg _ (by omega)
      rw [hw] at hx2
      have hx1' : s.f - s.f % u ≤ x := hx1
      exact ⟨⟨_, List.mem_map.2 ⟨s, hs, rfl⟩, ⟨hf0, by show s.f - s.f % u < alnT s.t u; omega, a3⟩, hx1, by show x < alnT s.t u; omega⟩, by omega, by omega⟩
    · rintro ⟨⟨s', hs', hok, hx1, hx2⟩, hx3, hx4⟩
      obtain ⟨s, hs, rfl⟩ := List.mem_map.1 hs'
      obtain ⟨hso, hst⟩ := and_box hg hL hs
      have hw := wide_t hU hso hst h2
      obtain ⟨s1, s2, s3⟩ := hso
      obtain ⟨a1, a2, a3, a4, a5⟩ := aln_t hU (show 0 ≤ s.t by omega) s3
      have hf0 : 0 ≤ s.f - s.f % u := by have := emod_le s1 (show 0 < u by omega); omega
      have hx2' : x < alnT s.t u := hx2
      have hx1' : s.f - s.f % u ≤ x := hx1
      have m1 : 0 ≤ s.f % u := Int.emod_nonneg _ (by omega)
      refine ⟨_, List.mem_map.2 ⟨s, hs, rfl⟩, ⟨hf0, ?_, ?_⟩, hx1, ?_⟩
      · rw [hw]; show s.f - s.f % u < _; omega
      · rw [hw]; omega
      · rw [hw]; omega
theorem units_norm (g : List Sp) (n u : Int) : Norm (unitsS g n u) := by
  unfold unitsS
  split
  · exact norm_and _ _
  · exact norm_nil
/-- A byte of the gaps, widened: a byte of the object whose unit meets the gaps. -/
theorem mem_units {g : List Sp} (hg : Norm g) {n u : Int} (hm : measB n u = true) (x : Int) : Mem (unitsS g n u) x ↔ 0 ≤ x ∧ x < endI n ∧ ∃ y, Mem g y ∧ 0 ≤ y ∧ y < endI n ∧ y - y % u = x - x % u := by
  unfold unitsS
  rw [hm]
  simp only [if_true]
  simp [measB] at hm
  obtain ⟨hU, hL⟩ := hm
  obtain ⟨h1, h2, _⟩ := end_bound hL
  obtain ⟨u1, u2⟩ := unit_bound hU
  rw [mem_and (norm_of _) (norm_box n), mem_of, mem_box n x h2]
  constructor
  · rintro ⟨⟨s', hs', hok, hx1, hx2⟩, hx3, hx4⟩
    obtain ⟨s, hs, rfl⟩ := List.mem_map.1 hs'
    obtain ⟨hso, hst⟩ := and_box hg hL hs
    obtain ⟨s1, s2, s3⟩ := hso
    obtain ⟨a1, a2, a3, a4, a5⟩ := aln_t hU (show 0 ≤ s.t by omega) s3
    have hx2' : x < alnT s.t u := hx2
    have hx1' : s.f - s.f % u ≤ x := hx1
    have hin : ∀ y, s.f ≤ y → y < s.t → Mem g y ∧ 0 ≤ y ∧ y < endI n := fun y hy1 hy2 => by
      have h3 := (mem_and hg (norm_of _) y).1 ⟨s, hs, hy1, hy2⟩
      exact ⟨h3.1, (mem_box n y h2).1 h3.2⟩
    refine ⟨hx3, hx4, ?_⟩
    have hxm := sub_mod x u
    have hx0 : 0 ≤ x % u := Int.emod_nonneg _ (by omega)
    have hxu : x % u < u := Int.emod_lt_of_pos _ (by omega)
    have key : ∀ y, x - x % u ≤ y → y < x - x % u + u → y - y % u = x - x % u := fun y hy1 hy2 => by
      have e : y = (y - (x - x % u)) + (x - x % u) := by omega
      have : y % u = y - (x - x % u) := by
        rw [e, Int.add_emod, hxm]
        simp
        exact Int.emod_eq_of_lt (by omega) (by omega)
      omega
    by_cases c1 : s.f ≤ x
    · by_cases c2 : x < s.t
      · exact ⟨x, (hin x c1 c2).1, hx3, hx4, rfl⟩
      · -- x lies behind s, in its last unit
        have hxs : x - x % u < s.t := by
          rcases lt_or_ge (x - x % u) s.t with h3 | h3
          · exact h3
          · exfalso
            have hb : x - x % u < alnT s.t u := by omega
            have := mult_step (show 0 < u by omega) hxm a4 hb
            omega
        have hy := hin (s.t - 1) (by omega) (by omega)
        exact ⟨s.t - 1, hy.1, hy.2.1, hy.2.2, key _ (by omega) (by omega)⟩
    · have hsm := sub_mod s.f u
      have hs0 : 0 ≤ s.f % u := Int.emod_nonneg _ (by omega)
      have hsu : s.f % u < u := Int.emod_lt_of_pos _ (by omega)
      have e2 : x - x % u = s.f - s.f % u := by
        rcases Int.lt_trichotomy (x - x % u) (s.f - s.f % u) with h3 | h3 | h3
        · have := mult_step (show 0 < u by omega) hxm hsm h3; omega
        · exact h3
        · have := mult_step (show 0 < u by omega) hsm hxm h3; omega
      have hy := hin s.f (Int.le_refl _) s2
      exact ⟨s.f, hy.1, hy.2.1, hy.2.2, e2.symm⟩
  · rintro ⟨hx3, hx4, y, hy1, hy2, hy3, hy4⟩
    refine ⟨?_, hx3, hx4⟩
    obtain ⟨s, hs, hsy⟩ := (mem_and hg (norm_of _) y).2 ⟨hy1, (mem_box n y h2).2 ⟨hy2, hy3⟩⟩
    obtain ⟨hso, hst⟩ := and_box hg hL hs
    obtain ⟨s1, s2, s3⟩ := hso
    obtain ⟨a1, a2, a3, a4, a5⟩ := aln_t hU (show 0 ≤ s.t by omega) s3
    have hf0 : 0 ≤ s.f - s.f % u := by have := emod_le s1 (show 0 < u by omega); omega
    have hym := sub_mod y u
    have hsm := sub_mod s.f u
    have hx0 : 0 ≤ x % u := Int.emod_nonneg _ (by omega)
    have hxu : x % u < u := Int.emod_lt_of_pos _ (by omega)
    have hyu0 : 0 ≤ y % u := Int.emod_nonneg _ (by omega)
    have hyu : y % u < u := Int.emod_lt_of_pos _ (by omega)
    have hs0 : 0 ≤ s.f % u := Int.emod_nonneg _ (by omega)
    have hsu : s.f % u < u := Int.emod_lt_of_pos _ (by omega)
    have b1 : s.f - s.f % u ≤ y - y % u := by
      rcases lt_or_ge (y - y % u) (s.f - s.f % u) with h3 | h3
      · have := mult_step (show 0 < u by omega) hym hsm h3; omega
      · exact h3
    have b2 : y - y % u + u ≤ alnT s.t u := mult_step (by omega) hym a4 (by omega)
    exact ⟨_, List.mem_map.2 ⟨s, hs, rfl⟩, ⟨hf0, by show s.f - s.f % u < alnT s.t u; omega, a3⟩, by show s.f - s.f % u ≤ x; omega, by show x < alnT s.t u; omega⟩
end Go.Proofs.Ytdcdnnbijjcfmaa
