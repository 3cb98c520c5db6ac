/- A small job's gaps, widened, are small: plain. -/
import Derived.Test.YtdcdnnbijjcfmaaRpl
import Derived.Test.YtdcdnnbijjcfmaaSts
namespace Go.Proofs.Ytdcdnnbijjcfmaa

theorem small_units {lg F : List Sp} {n : Int} {c : Cf} {k : Int} (hs : SmallL lg c.u k) (hk : k ≤ 100) (hn : n ≤ c.u * k ∨ 1099511627776 < n) (hE : chkE n c (unitsS (ofS lg) n c.u) F = 0) : SmallU (unitsS (ofS lg) n c.u) c.u := by
  have hm : measB n c.u = true := by
    unfold chkE at hE
    cases h1 : okB n c
    · rw [h1] at hE; simp at hE
    · simp [okB] at h1; exact h1.1.1
  have hm2 := hm
  simp [measB] at hm2
  obtain ⟨hU, hL⟩ := hm2
  obtain ⟨u1, u2⟩ := unit_bound hU
  have hG := norm_of lg
  have hM := mem_units hG hm
  have hN := units_norm (ofS lg) n c.u
  have hLok := lok_units hG hm
  obtain ⟨e1, e2, e3⟩ := end_bound hL
  have hku : c.u * k ≤ 100 * c.u := by rw [Int.mul_comm]; exact Int.mul_le_mul_of_nonneg_right hk (by omega)
  have hone : ∀ v ∈ lg, v.f ≤ 100 * c.u ∧ (v.t ≤ 100 * c.u ∨ v.t = 4611686018427387904) := fun v hv => by
    obtain ⟨a, b, d⟩ := hs.2.2 v hv
    exact ⟨by omega, by omega⟩
  have hnn : endI n ≤ 100 * c.u ∨ endI n = 4611686018427387904 := by
    rcases e3 with ⟨a, b⟩ | ⟨a, b, d⟩
    · exact .inr a
    · left; rw [a]; simp [lengthB] at hL; rcases hn with hn | hn <;> omega
  have hself : ∀ x, Mem (ofS lg) x → 0 ≤ x → x < endI n → Mem (unitsS (ofS lg) n c.u) x := fun x h1 h2 h3 => (hM x).2 ⟨h2, h3, x, h1, h2, h3, rfl⟩
  have h100 : (100 * c.u) % c.u = 0 := Int.mul_emod_left _ _
  intro s hsm
  have hok := hN.1 s hsm
  constructor
  · rcases lt_or_ge (100 * c.u) s.f with h | h
    · exfalso
      obtain ⟨a1, a2, y, y1, y2, y3, y4⟩ := (hM s.f).1 ⟨s, hsm, Int.le_refl _, hok.2.1⟩
      rw [hLok.f s hsm] at y4
      have hy0 : 0 ≤ y % c.u := Int.emod_nonneg _ (by omega)
      obtain ⟨v, hv, hvo, v1, v2⟩ := (mem_of _ y).1 y1
      obtain ⟨w1, w2⟩ := hone v hv
      have : Mem (ofS lg) (s.f - 1) := (mem_of _ _).2 ⟨v, hv, hvo, by omega, by omega⟩
      exact norm_not_f hN hsm (hself _ this (by omega) (by omega))
    · exact h
  · obtain ⟨a1, a2, y, y1, y2, y3, y4⟩ := (hM (s.t - 1)).1 ⟨s, hsm, by have := hok.2.1; omega, by omega⟩
    obtain ⟨v, hv, hvo, v1, v2⟩ := (mem_of _ y).1 y1
    obtain ⟨w1, w2⟩ := hone v hv
    have hyu0 : 0 ≤ y % c.u := Int.emod_nonneg _ (by omega)
    have hyu1 : y % c.u < c.u := Int.emod_lt_of_pos _ (by omega)
    have hxu0 : 0 ≤ (s.t - 1) % c.u := Int.emod_nonneg _ (by omega)
    have hxu1 : (s.t - 1) % c.u < c.u := Int.emod_lt_of_pos _ (by omega)
    have hym := sub_mod y c.u
    rcases w2 with w2 | w2
    · left
      have := mult_step (show 0 < c.u by omega) hym h100 (by omega)
      omega
    · have ht := hLok.t s hsm
      have hte : s.t = endI n := by
        rcases lt_or_ge s.t (endI n) with h | h
        · exfalso
          rcases ht.2 with h5 | h5
          · -- the next unit begins at s.t, behind y
            have h6 : y < s.t := by
              rcases lt_or_ge y s.t with h6 | h6
              · exact h6
              · have : (s.t - 1) % c.u = c.u - 1 := by
                  have h7 := Int.emod_add_mul_ediv s.t c.u
                  rw [h5] at h7
                  rw [show s.t - 1 = (c.u - 1) + c.u * (s.t / c.u - 1) by rw [Int.mul_sub]; omega, Int.add_mul_emod_self_left]
                  exact Int.emod_eq_of_lt (by omega) (by omega)
                omega
            exact norm_not_t hN hsm (hself _ ((mem_of _ _).2 ⟨v, hv, hvo, by omega, by omega⟩) (by omega) h)
          · omega
        · omega
      rcases hnn with h | h
      · left; omega
      · right; omega
end Go.Proofs.Ytdcdnnbijjcfmaa
