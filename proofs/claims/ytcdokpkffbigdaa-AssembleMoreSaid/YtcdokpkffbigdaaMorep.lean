/- Plain laws: the more there is the more can be told. -/
import Derived.Test.YtcdokpkffbigdaaJoinp
import Derived.Test.YtcdokpkffbigdaaCan2
namespace Go.Proofs.Ytcdokpkffbigdaa
open Go.RowKit

def LeP (u v : Pt) : Prop := (u.s ≠ [] → u.s <+: v.s) ∧ (u.s = [] → v.s = [] ∧ v.f = u.f ∧ u.t ≤ v.t)
def LeL (u v : List Pt) : Prop := u.length ≤ v.length ∧ ∀ i (h : i < u.length) (h2 : i < v.length), LeP u[i] v[i]
theorem LeP.refl (u : Pt) : LeP u u := ⟨fun _ => List.prefix_refl _, fun h => ⟨h, rfl, Int.le_refl _⟩⟩
theorem LeL.refl (u : List Pt) : LeL u u := ⟨Nat.le_refl _, fun i _ _ => LeP.refl _⟩
theorem LeP.trans {a b c : Pt} (h : LeP a b) (k : LeP b c) : LeP a c := by
  refine ⟨fun ha => ?_, fun ha => ?_⟩
  · have h1 := h.1 ha
    have hb : b.s ≠ [] := fun e => by
      rw [e] at h1
      exact ha (List.prefix_nil.1 h1)
    exact h1.trans (k.1 hb)
  · obtain ⟨h1, h2, h3⟩ := h.2 ha
    obtain ⟨k1, k2, k3⟩ := k.2 h1
    exact ⟨k1, k2.trans h2, by omega⟩
theorem LeL.trans {a b c : List Pt} (h : LeL a b) (k : LeL b c) : LeL a c := ⟨Nat.le_trans h.1 k.1, fun i h1 h2 => (h.2 i h1 (by have := h.1; omega)).trans (k.2 i (by have := h.1; omega) h2)⟩
theorem LeL.last (L : List Pt) {a b : Pt} (h : LeP a b) : LeL (L ++ [a]) (L ++ [b]) := by
  refine ⟨by simp, fun i h1 h2 => ?_⟩
  by_cases hi : i < L.length
  · rw [List.getElem_append_left hi, List.getElem_append_left hi]; exact LeP.refl _
  · have : i = L.length := by simp at h1; omega
    subst this
    simp only [List.getElem_concat_length]
    exact h
theorem LeL.more (L m : List Pt) : LeL L (L ++ m) := ⟨by simp, fun i h1 h2 => by rw [List.getElem_append_left h1]; exact LeP.refl _⟩
theorem le_step (X : List Pt) (p : Pt) (hp : p.s = [] → p.f ≤ p.t) : LeL X (joinStep X p) := by
  rcases List.eq_nil_or_concat X with rfl | ⟨L, q, rfl⟩
  · exact ⟨by simp, fun i h => absurd h (by simp)⟩
  · rw [List.concat_eq_append, joinStep_snoc]
    split
    · rename_i h
      have h1 : p.s ≠ [] ∧ q.s ≠ [] := by simpa using h
      exact LeL.last L ⟨fun _ => List.prefix_append _ _, fun e => absurd e h1.2⟩
    · split
      · rename_i h
        have h1 : (p.s = [] ∧ q.s = []) ∧ q.t = p.f := by simpa using h
        have := hp h1.1.1
        exact LeL.last L ⟨fun e => absurd h1.1.2 e, fun _ => ⟨rfl, rfl, by rw [h1.2]; exact this⟩⟩
      · exact LeL.more _ _
theorem le_fold (l : List Pt) (X : List Pt) (hl : ∀ p ∈ l, p.s = [] → p.f ≤ p.t) : LeL X (l.foldl joinStep X) := by
  induction l generalizing X with
  | nil => exact LeL.refl _
  | cons p l ih => exact (le_step X p (hl p (by simp))).trans (ih _ (fun q hq => hl q (by simp [hq])))
theorem le_cut (X : List Pt) (f a b : Int) (h : a ≤ b) : LeL (joinStep X ⟨[], f, a⟩) (joinStep X ⟨[], f, b⟩) := by
  rcases List.eq_nil_or_concat X with rfl | ⟨L, q, rfl⟩
  · rw [joinStep_nil, joinStep_nil, nz_span rfl, nz_span rfl]
    exact LeL.last [] ⟨fun e => absurd rfl e, fun _ => ⟨rfl, rfl, h⟩⟩
  · rw [List.concat_eq_append, joinStep_snoc, joinStep_snoc]
    simp only [beq_self_eq_true, Bool.not_true, Bool.false_and, Bool.false_eq_true, if_false, Bool.true_and]
    split
    · exact LeL.last L ⟨fun e => absurd rfl e, fun _ => ⟨rfl, rfl, h⟩⟩
    · rw [nz_span rfl, nz_span rfl]
      exact LeL.last _ ⟨fun e => absurd rfl e, fun _ => ⟨rfl, rfl, h⟩⟩
theorem first_of_mem {S : List Sp} (hN : Norm S) {x : Int} (h : Mem S x) : ∃ u, firstS S x = some ⟨x, u⟩ ∧ x < u ∧ ∀ z, (∀ y, x ≤ y → y < z → Mem S y) → z ≤ u ∨ z ≤ x := by
  obtain ⟨s, hs, h1, h2⟩ := h
  obtain ⟨i, hi, rfl⟩ := List.mem_iff_getElem.1 hs
  have hge : beh S x ≤ i := by
    rcases Nat.lt_or_ge i (beh S x) with hlt | hge
    · have := beh_lo hi hlt; omega
    · exact hge
  have hb : beh S x < S.length := by omega
  have hbt := beh_at hb
  have hib : i = beh S x := by
    rcases Nat.lt_or_eq_of_le hge with hlt | he
    · have := List.pairwise_iff_getElem.1 hN.2 _ _ hb hi hlt
      omega
    · exact he.symm
  subst hib
  refine ⟨S[beh S x].t, ?_, hbt, fun z hz => ?_⟩
  · unfold firstS
    rw [List.getElem?_eq_getElem hb]
    simp only [Option.map_some, Option.some.injEq, Sp.mk.injEq, and_true]
    omega
  · rcases Int.lt_or_le S[beh S x].t z with hlt | hle
    · exfalso
      obtain ⟨u, hu, g1, g2⟩ := hz S[beh S x].t (by omega) hlt
      obtain ⟨j, hj, rfl⟩ := List.mem_iff_getElem.1 hu
      rcases Nat.lt_trichotomy j (beh S x) with hj2 | hj2 | hj2
      · have := List.pairwise_iff_getElem.1 hN.2 _ _ hj hb hj2
        have := (hN.1 _ (List.getElem_mem hb)).2.1
        omega
      · subst hj2; omega
      · have := List.pairwise_iff_getElem.1 hN.2 _ _ hb hj hj2
        omega
    · exact .inl hle
theorem canS_mono {x y : List Sp} (hx : Norm x) (hy : Norm y) (h : ∀ z, Mem x z → Mem y z) (p : Pt) (hp : p.s = [] → p.f < p.t) : canS p x ≤ canS p y := by
  by_cases hs : p.s = []
  · have hpt := hp hs
    have key : canS p y ≥ 0 := by
      unfold canS
      rw [if_pos hs]
      cases hF : firstS y p.f with
      | none => simp
      | some u =>
        simp only
        split
        · rename_i he
          unfold firstS at hF
          cases hl : y[beh y p.f]? with
          | none => rw [hl] at hF; cases hF
          | some v =>
            rw [hl] at hF
            obtain ⟨hlt, hv⟩ := List.getElem?_eq_some_iff.1 hl
            have := beh_at hlt
            rw [hv] at this
            cases hF
            simp only
            omega
        · omega
    by_cases hc : canS p x ≤ 0
    · omega
    · unfold canS at hc
      rw [if_pos hs] at hc
      cases hF : firstS x p.f with
      | none => rw [hF] at hc; simp at hc
      | some u =>
        rw [hF] at hc
        simp only at hc
        by_cases hu : u.f = p.f
        · have hcx : canS p x = min p.t u.t - p.f := by unfold canS; rw [if_pos hs, hF]; simp [hu]
          unfold firstS at hF
          cases hl : x[beh x p.f]? with
          | none => rw [hl] at hF; cases hF
          | some v =>
            rw [hl] at hF
            obtain ⟨hlt, hv⟩ := List.getElem?_eq_some_iff.1 hl
            have hbt := beh_at hlt
            rw [hv] at hbt
            cases hF
            simp only at hu hcx
            have hmem : ∀ z, p.f ≤ z → z < v.t → Mem x z := fun z h1 h2 => ⟨v, by rw [← hv]; exact List.getElem_mem hlt, by omega, h2⟩
            obtain ⟨b, h1, h2, h3⟩ := first_of_mem hy (h _ (hmem p.f (Int.le_refl _) hbt))
            have h4 := h3 v.t (fun z hz1 hz2 => h _ (hmem z hz1 hz2))
            have hcy : canS p y = min p.t b - p.f := by unfold canS; rw [if_pos hs, h1]; simp
            rw [hcx, hcy]
            omega
        · rw [if_neg hu] at hc; omega
  · rw [canS_text hs, canS_text hs]; exact Int.le_refl _
theorem rcanL_fit {S : List Sp} {L : List Pt} (h : ROk L) : ∀ p ∈ rcanL S L, p.s = [] → p.f ≤ p.t := by
  induction L with
  | nil => intro p hp; simp [rcanL] at hp
  | cons q l ih =>
    intro p hp
    simp only [rcanL] at hp
    split at hp
    · simp at hp
    · rename_i hc
      rcases List.mem_cons.1 hp with rfl | hp
      · intro he
        obtain ⟨h1, h2⟩ := h.each q (by simp)
        unfold cutA at he ⊢
        by_cases hs : q.s = []
        · rw [if_pos hs]; simp only; omega
        · rw [if_neg hs]; simp
      · split at hp
        · exact ih h.tail p hp
        · simp at hp
theorem more_le {x y : List Sp} (hx : Norm x) (hy : Norm y) (h : ∀ z, Mem x z → Mem y z) {L : List Pt} (hR : ROk L) (X : List Pt) : LeL ((rcanL x L).foldl joinStep X) ((rcanL y L).foldl joinStep X) := by
  induction L generalizing X with
  | nil => exact LeL.refl _
  | cons p l ih =>
    obtain ⟨h1, h2⟩ := hR.each p (by simp)
    have hmono := canS_mono hx hy h p (fun e => (h2 e).2.1)
    by_cases hc : canS p x < 1
    · have e : rcanL x (p :: l) = [] := by simp only [rcanL]; rw [if_pos hc]
      rw [e]
      exact le_fold _ _ (rcanL_fit hR)
    · have hcy : ¬ canS p y < 1 := by omega
      have ey : rcanL y (p :: l) = cutA p (canS p y) :: (if (cutB p (canS p y)).isE then rcanL y l else []) := by simp only [rcanL]; rw [if_neg hcy]
      have ex : rcanL x (p :: l) = cutA p (canS p x) :: (if (cutB p (canS p x)).isE then rcanL x l else []) := by simp only [rcanL]; rw [if_neg hc]
      have same : canS p x = canS p y → LeL ((rcanL x (p :: l)).foldl joinStep X) ((rcanL y (p :: l)).foldl joinStep X) := fun e => by
        rw [ex, ey, e]
        simp only [List.foldl_cons]
        split
        · exact ih hR.tail _
        · exact LeL.refl _
      by_cases hs : p.s = []
      · have hp := h2 hs
        have hle := canS_le (S := y) hs hp.2.1
        cases hE : (cutB p (canS p x)).isE
        · have fit := rcanL_fit (S := y) hR
          rw [ey] at fit
          rw [ex, ey, hE]
          simp only [Bool.false_eq_true, if_false, List.foldl_cons, List.foldl_nil]
          have ha : ∀ m, cutA p m = ⟨[], p.f, p.f + m⟩ := fun m => by unfold cutA; rw [if_pos hs]
          rw [ha, ha]
          exact (le_cut X p.f _ _ (by omega)).trans (le_fold _ _ (fun q hq => fit q (by simp [hq])))
        · refine same ?_
          have : p.f + canS p x = p.t := by
            unfold cutB at hE
            rw [if_pos hs] at hE
            simpa [Pt.isE] using hE
          omega
      · exact same (by rw [canS_text hs, canS_text hs])
theorem mem_orS (a b : List Sp) (z : Int) (ha : Norm a) (h : Mem a z) : Mem (orS a b) z := by
  unfold orS
  rw [mem_of]
  obtain ⟨s, hs, h1, h2⟩ := h
  exact ⟨s, by simp [hs], ha.1 s hs, h1, h2⟩
end Go.Proofs.Ytcdokpkffbigdaa
