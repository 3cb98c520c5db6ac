/- Plain laws on parts; the reference's Next and Can on any list. -/
import Derived.Test.YtcdokpkffbigdaaRseal
namespace Go.Proofs.Ytcdokpkffbigdaa
open Go.RowKit

/-- All that can be told. -/
def rcanL (S : List Sp) : List Pt → List Pt
  | [] => []
  | p :: l => if canS p S < 1 then [] else cutA p (canS p S) :: (if (cutB p (canS p S)).isE then rcanL S l else [])
/-- A list of parts whose spans are right. -/
structure ROk (L : List Pt) : Prop where
  len : L.length ≤ 30
  each : ∀ p ∈ L, p.s.length ≤ 500 ∧ (p.s = [] → 0 ≤ p.f ∧ p.f < p.t ∧ p.t ≤ 4611686018427387904)
theorem ROk.size {L : List Pt} (h : ROk L) {p : Pt} (hp : p ∈ L) : 1 ≤ p.size ∧ p.size ≤ 4611686018427387904 := by
  obtain ⟨h1, h2⟩ := h.each p hp
  unfold Pt.size
  by_cases hs : p.s = []
  · rw [if_pos hs]
    have := h2 hs
    omega
  · rw [if_neg hs]
    have : p.s.length ≠ 0 := by simpa using hs
    omega
theorem sumS_cons (p : Pt) (l : List Pt) : sumS (p :: l) = p.size + sumS l := by simp [sumS]
theorem ROk.tail {p : Pt} {l : List Pt} (h : ROk (p :: l)) : ROk l := ⟨by have := h.len; simp at this; omega, fun x hx => h.each x (by simp [hx])⟩
theorem ROk.sum {L : List Pt} (h : ROk L) : 0 ≤ sumS L := by
  induction L with
  | nil => simp [sumS]
  | cons p l ih =>
    rw [sumS_cons]
    have := ih h.tail
    have := (h.size (p := p) (by simp)).1
    omega
theorem canS_bd {p : Pt} {S : List Sp} (h : p.s = [] → 0 ≤ p.f ∧ p.f < p.t ∧ p.t ≤ 4611686018427387904) : canS p S ≤ p.size := by
  unfold Pt.size
  by_cases hs : p.s = []
  · rw [if_pos hs]
    exact canS_le hs (h hs).2.1
  · rw [if_neg hs, canS_text hs]
    exact Int.le_refl _
theorem cutB_ok {p : Pt} {m : Int} (h1 : p.s.length ≤ 500) (h2 : p.s = [] → 0 ≤ p.f ∧ p.f < p.t ∧ p.t ≤ 4611686018427387904) (hm : 1 ≤ m) (hmt : m ≤ p.size) (hne : (cutB p m).isE = false) :
    (cutB p m).s.length ≤ 500 ∧ ((cutB p m).s = [] → 0 ≤ (cutB p m).f ∧ (cutB p m).f < (cutB p m).t ∧ (cutB p m).t ≤ 4611686018427387904) := by
  unfold cutB at hne ⊢
  unfold Pt.size at hmt
  by_cases hs : p.s = []
  · rw [if_pos hs] at hne hmt ⊢
    have := h2 hs
    simp [Pt.isE] at hne
    refine ⟨by simp, fun _ => ?_⟩
    simp only
    omega
  · rw [if_neg hs] at hne ⊢
    simp [Pt.isE] at hne
    refine ⟨by simp; omega, fun h => ?_⟩
    simp at h
    omega
theorem cut_size {p : Pt} {m : Int} (hm : 1 ≤ m) (hmt : m ≤ p.size) (_ : p.s = [] → p.f < p.t) : (if (cutB p m).isE then 0 else (cutB p m).size) + m = p.size := by
  unfold cutB
  unfold Pt.size at hmt ⊢
  by_cases hs : p.s = []
  · simp only [hs, if_true] at hmt ⊢
    by_cases he : p.f + m = p.t
    · simp [Pt.isE, he]; omega
    · simp [Pt.isE, he]; omega
  · simp only [hs, if_false] at hmt ⊢
    by_cases he : p.s.drop m.toNat = []
    · have : p.s.length ≤ m.toNat := by simpa using he
      simp [Pt.isE, he]; omega
    · have : ¬ p.s.length ≤ m.toNat := by simpa using he
      simp [Pt.isE, he]; omega
theorem next_ok {L L' : List Pt} {q : Pt} {m most : Int} {S : List Sp} (h : ROk L) (hn : nextS L S most = some (q, L', m)) : ROk L' ∧ 1 ≤ m ∧ m ≤ most ∧ sumS L' + m = sumS L := by
  rcases L with _ | ⟨p, l⟩
  · cases hn
  · simp only [nextS] at hn
    split at hn
    · cases hn
    · rename_i hlt
      cases hn
      obtain ⟨h1, h2⟩ := h.each p (by simp)
      have hmt : min (canS p S) most ≤ p.size := by have := canS_bd (S := S) h2; omega
      have hm1 : 1 ≤ min (canS p S) most := by omega
      have hcs := cut_size hm1 hmt (fun e => (h2 e).2.1)
      have hlen := h.len
      simp only [List.length_cons] at hlen
      rw [sumS_cons]
      unfold restS
      cases hE : (cutB p (min (canS p S) most)).isE
      · rw [hE] at hcs
        simp only [Bool.false_eq_true, if_false] at hcs ⊢
        refine ⟨⟨by simp; omega, fun x hx => ?_⟩, hm1, by omega, by rw [sumS_cons]; omega⟩
        rcases List.mem_cons.1 hx with rfl | hx
        · exact cutB_ok h1 h2 hm1 hmt hE
        · exact h.each x (by simp [hx])
      · rw [hE] at hcs
        simp only [if_true] at hcs ⊢
        exact ⟨h.tail, hm1, by omega, by omega⟩
/-- Behind a telling of as much as is there, nothing more of the part is there. -/
theorem can_rest {p : Pt} {S : List Sp} (hN : Norm S) (h2 : p.s = [] → 0 ≤ p.f ∧ p.f < p.t ∧ p.t ≤ 4611686018427387904) (h1 : 1 ≤ canS p S) (hE : (cutB p (canS p S)).isE = false) : canS (cutB p (canS p S)) S < 1 := by
  by_cases hs : p.s = []
  · have hp := h2 hs
    unfold cutB at hE ⊢
    rw [if_pos hs] at hE ⊢
    simp only [Pt.isE] at hE
    have hne : ¬ p.f + canS p S = p.t := by simpa using hE
    have hle := canS_le (S := S) hs hp.2.1
    cases hF : firstS S p.f with
    | none => unfold canS at h1; rw [if_pos hs, hF] at h1; simp at h1
    | some x =>
      by_cases hx : x.f = p.f
      · have hc : canS p S = min p.t x.t - p.f := by unfold canS; rw [if_pos hs, hF]; simp [hx]
        have hct : p.f + canS p S = x.t := by omega
        rw [hct]
        unfold canS
        simp only [if_true]
        cases hG : firstS S x.t with
        | none => simp
        | some y =>
          simp only
          split
          · rename_i hy
            exfalso
            unfold firstS at hF hG
            cases hl : S[beh S p.f]? with
            | none => rw [hl] at hF; cases hF
            | some u =>
              cases hk : S[beh S x.t]? with
              | none => rw [hk] at hG; cases hG
              | some v =>
                rw [hl] at hF
                rw [hk] at hG
                cases hF
                cases hG
                simp only at hy hx hct hc
                obtain ⟨hlt, hu⟩ := List.getElem?_eq_some_iff.1 hl
                obtain ⟨hkt, hv⟩ := List.getElem?_eq_some_iff.1 hk
                have hvt := beh_at hkt
                rw [hv] at hvt
                replace hvt : u.t < v.t := hvt
                replace hkt : beh S u.t < S.length := hkt
                replace hv : S[beh S u.t] = v := hv
                have hij : beh S p.f < beh S u.t := by
                  by_cases hcmp : beh S u.t ≤ beh S p.f
                  · exfalso
                    have : v.t ≤ u.t := by
                      rcases Nat.lt_or_eq_of_le hcmp with h | h
                      · have := beh_lo (x := p.f) hkt h
                        rw [hv] at this
                        have hut := beh_at hlt
                        rw [hu] at hut
                        omega
                      · have e : S[beh S u.t]'hkt = S[beh S p.f]'hlt := by simp only [h]
                        have : v = u := by rw [hv, hu] at e; exact e
                        rw [this]; exact Int.le_refl _
                    omega
                  · omega
                have := List.pairwise_iff_getElem.1 hN.2 _ _ hlt hkt hij
                rw [hu, hv] at this
                omega
          · omega
      · unfold canS at h1; rw [if_pos hs, hF] at h1; simp [hx] at h1
  · exfalso
    rw [canS_text hs] at hE
    simp [cutB, hs, Pt.isE] at hE
theorem rcanL_next {L : List Pt} {S : List Sp} (hN : Norm S) (h : ROk L) : rcanL S L = match nextS L S 4611686018427387904 with | none => [] | some x => x.1 :: rcanL S x.2.1 := by
  rcases L with _ | ⟨p, l⟩
  · rfl
  · obtain ⟨h1, h2⟩ := h.each p (by simp)
    have hb := canS_bd (S := S) h2
    have hz := (h.size (p := p) (by simp)).2
    have hmin : min (canS p S) 4611686018427387904 = canS p S := by omega
    simp only [rcanL, nextS, hmin]
    by_cases hc : canS p S < 1
    · rw [if_pos hc, if_pos hc]
    · rw [if_neg hc, if_neg hc]
      simp only [restS]
      cases hE : (cutB p (canS p S)).isE
      · have := can_rest hN h2 (by omega) hE
        simp [rcanL, this]
      · simp
end Go.Proofs.Ytcdokpkffbigdaa
