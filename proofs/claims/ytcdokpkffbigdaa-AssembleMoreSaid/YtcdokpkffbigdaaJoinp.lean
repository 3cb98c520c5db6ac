/- Plain laws: what is told, one behind the other, and what is left, are the parts. -/
import Derived.Test.YtcdokpkffbigdaaPru
namespace Go.Proofs.Ytcdokpkffbigdaa
open Go.RowKit

theorem joinStep_nz (X : List Pt) (p : Pt) : joinStep X p.nz = joinStep X p := by
  by_cases hs : p.s = []
  · rw [nz_span hs]
  · have e : (p.s == []) = false := by simpa using hs
    rcases List.eq_nil_or_concat X with rfl | ⟨L, q, rfl⟩
    · rw [joinStep_nil, joinStep_nil, nz_nz]
    · rw [List.concat_eq_append, joinStep_snoc, joinStep_snoc, nz_nz, nz_s, e]
      simp
theorem cut_all {p : Pt} {m : Int} (h : (cutB p m).isE = true) : cutA p m = p.nz := by
  unfold cutB Pt.isE at h
  unfold cutA
  by_cases hs : p.s = []
  · rw [if_pos hs] at h ⊢
    rw [nz_span hs]
    simp at h
    rcases p with ⟨s, f, t⟩
    simp only at hs h
    rw [hs, h]
  · rw [if_neg hs] at h ⊢
    simp at h
    unfold Pt.nz
    rw [if_neg hs, List.take_of_length_le h]
theorem join_cut (X : List Pt) (p : Pt) (m : Int) (hm : 1 ≤ m) (hE : (cutB p m).isE = false) : joinStep (joinStep X (cutA p m)) (cutB p m) = joinStep X p := by
  unfold cutB Pt.isE at hE
  unfold cutA cutB
  by_cases hs : p.s = []
  · simp only [if_pos hs] at hE ⊢
    rcases p with ⟨s, f, t⟩
    simp only at hs
    subst hs
    rcases List.eq_nil_or_concat X with rfl | ⟨L, q, rfl⟩
    · rw [joinStep_nil, joinStep_nil, nz_span rfl, nz_span rfl]
      have := joinStep_snoc [] ⟨[], f, f + m⟩ ⟨[], f + m, t⟩
      simp only [List.nil_append] at this
      rw [this]
      simp
    · rw [List.concat_eq_append, joinStep_snoc, joinStep_snoc]
      by_cases hq : (q.s == [] && q.t == f) = true
      · have h1 : q.s = [] ∧ q.t = f := by simpa using hq
        simp only [h1.1, h1.2, beq_self_eq_true, Bool.not_true, Bool.false_and, Bool.false_eq_true, if_false, Bool.and_self, if_true]
        rw [joinStep_snoc]
        simp
      · have h1 : ¬ (q.s = [] ∧ q.t = f) := by simpa using hq
        have h2 : (([] : List UInt8) == [] && q.s == [] && q.t == f) = false := by
          rw [Bool.eq_false_iff]
          intro h
          simp at h
          exact h1 h
        simp only [beq_self_eq_true, Bool.not_true, Bool.false_and, Bool.false_eq_true, if_false, Bool.true_and] at h2 ⊢
        rw [h2]
        simp only [Bool.false_eq_true, if_false]
        rw [nz_span rfl, nz_span rfl, joinStep_snoc]
        simp
  · simp only [if_neg hs] at hE ⊢
    rcases p with ⟨s, f, t⟩
    simp only at hs hE ⊢
    have e1 : (s == []) = false := by simpa using hs
    have hl : s.length ≠ 0 := by simpa using hs
    have e2 : (s.take m.toNat == []) = false := by
      rw [beq_eq_false_iff_ne]
      intro h
      rcases List.take_eq_nil_iff.1 h with h | h
      · omega
      · exact hs h
    have e3 : (s.drop m.toNat == []) = false := by simpa using hE
    have n1 : Pt.nz ⟨s.take m.toNat, 0, 0⟩ = ⟨s.take m.toNat, 0, 0⟩ := by unfold Pt.nz; split <;> rfl
    have n2 : Pt.nz ⟨s, f, t⟩ = ⟨s, 0, 0⟩ := by unfold Pt.nz; rw [if_neg hs]
    rcases List.eq_nil_or_concat X with rfl | ⟨L, q, rfl⟩
    · rw [joinStep_nil, joinStep_nil, n1, n2]
      have := joinStep_snoc [] ⟨s.take m.toNat, 0, 0⟩ ⟨s.drop m.toNat, 0, 0⟩
      simp only [List.nil_append, e2, e3] at this
      rw [this]
      simp
    · rw [List.concat_eq_append, joinStep_snoc, joinStep_snoc, n1, n2]
      cases hq : (q.s == [])
      · simp only [e1, e2, Bool.not_false, Bool.and_self, if_true]
        rw [joinStep_snoc]
        have hq2 : (q.s ++ s.take m.toNat == []) = false := by
          rw [beq_eq_false_iff_ne]
          intro h
          have h2 : q.s = [] := (List.append_eq_nil_iff.1 h).1
          rw [h2] at hq
          cases hq
        simp only [e3, hq2, Bool.not_false, Bool.and_self, if_true, List.append_assoc, List.take_append_drop]
      · simp only [e1, e2, Bool.not_true, Bool.and_false, Bool.false_and, Bool.false_eq_true, if_false]
        rw [joinStep_snoc]
        simp [e2, e3]
theorem joinL_append (a b : List Pt) : joinL (a ++ b) = b.foldl joinStep (joinL a) := by simp [joinL]
theorem join_next {a L L' : List Pt} {q : Pt} {m most : Int} {S : List Sp} (h : ROk L) (hn : nextS L S most = some (q, L', m)) : joinL ((a ++ [q]) ++ L') = joinL (a ++ L) := by
  obtain ⟨_, hm, _, _⟩ := next_ok h hn
  rcases L with _ | ⟨p, l⟩
  · cases hn
  · simp only [nextS] at hn
    split at hn
    · cases hn
    · cases hn
      rw [joinL_append, joinL_snoc, joinL_append]
      unfold restS
      cases hE : (cutB p (min (canS p S) most)).isE
      · simp only [Bool.false_eq_true, if_false, List.foldl_cons]
        rw [join_cut _ _ _ hm hE]
      · simp only [if_true, List.foldl_cons]
        rw [cut_all hE, joinStep_nz]
/-- If all is there, something can be told as long as anything is left. -/
theorem next_all {L : List Pt} {most : Int} (h : ROk L) (hm : 1 ≤ most) (hn : nextS L [⟨0, 4611686018427387904⟩] most = none) : L = [] := by
  rcases L with _ | ⟨p, l⟩
  · rfl
  · exfalso
    obtain ⟨h1, h2⟩ := h.each p (by simp)
    simp only [nextS] at hn
    split at hn
    · rename_i hlt
      by_cases hs : p.s = []
      · have hp := h2 hs
        have e : beh [⟨0, 4611686018427387904⟩] p.f = 0 := beh_of (Nat.zero_le _) (fun i _ hi => absurd hi (by omega)) (fun i hi _ => by
          have : i = 0 := by simpa using hi
          subst this
          show p.f < 4611686018427387904
          omega)
        have hf : firstS [⟨0, 4611686018427387904⟩] p.f = some ⟨p.f, 4611686018427387904⟩ := by
          unfold firstS
          rw [e]
          simp
          omega
        have hc : canS p [⟨0, 4611686018427387904⟩] = min p.t 4611686018427387904 - p.f := by
          unfold canS
          rw [if_pos hs, hf]
          simp
        rw [hc] at hlt
        omega
      · rw [canS_text hs] at hlt
        have : p.s.length ≠ 0 := by simpa using hs
        omega
    · cases hn
end Go.Proofs.Ytcdokpkffbigdaa
