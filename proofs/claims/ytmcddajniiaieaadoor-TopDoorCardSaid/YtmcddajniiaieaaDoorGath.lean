/- Rising spans put together; what two sets have; what one has and the other hasn't: plain. -/
import Derived.Test.YtmcddajniiaieaaDoorSets
namespace Go.Proofs.YtmcddajniiaieaaDoor

theorem norm_last {l : List Sp} {q : Sp} (h : Norm (l ++ [q])) : ∀ u ∈ l ++ [q], u.t ≤ q.t := by
  obtain ⟨_, h2, h3⟩ := norm_snoc.1 h
  intro u hu
  rcases List.mem_append.1 hu with hu | hu
  · have := h3 u hu; have := h2.2.1; omega
  · simp at hu; subst hu; exact Int.le_refl _

/-- One step of gather. -/
def gstep (L : List Sp) (x : Sp) : List Sp :=
  match L.getLast? with
  | some q => if x.f ≤ q.t then L.dropLast ++ [⟨q.f, max q.t x.t⟩] else L ++ [x]
  | none => [x]
def gath (l : List Sp) : List Sp := l.foldl gstep []
theorem gath_snoc (l : List Sp) (x : Sp) : gath (l ++ [x]) = gstep (gath l) x := by simp [gath]
theorem gstep_nil (x : Sp) : gstep [] x = [x] := rfl
theorem gstep_snoc (L : List Sp) (q x : Sp) : gstep (L ++ [q]) x = if x.f ≤ q.t then L ++ [⟨q.f, max q.t x.t⟩] else (L ++ [q]) ++ [x] := by simp [gstep]
theorem gath_length (l : List Sp) : (gath l).length ≤ l.length := by
  suffices h : ∀ (l : List Sp) (L : List Sp), (l.foldl gstep L).length ≤ L.length + l.length by have := h l []; simp at this; exact this
  intro l
  induction l with
  | nil => intro L; simp
  | cons x l ih =>
    intro L
    have h1 := ih (gstep L x)
    have h2 : (gstep L x).length ≤ L.length + 1 := by
      rcases List.eq_nil_or_concat L with rfl | ⟨L, q, rfl⟩
      · simp [gstep]
      · rw [List.concat_eq_append, gstep_snoc]
        split <;> simp
    simp only [List.foldl_cons, List.length_cons]
    omega
theorem snoc_ind {P : List Sp → Prop} (h0 : P []) (h1 : ∀ l x, P l → P (l ++ [x])) (l : List Sp) : P l := by
  have h : ∀ n (l : List Sp), l.length = n → P l := by
    intro n
    induction n with
    | zero => intro l hl; rw [List.eq_nil_of_length_eq_zero hl]; exact h0
    | succ n ih =>
      intro l hl
      rcases List.eq_nil_or_concat l with rfl | ⟨L, q, rfl⟩
      · simp at hl
      · rw [List.concat_eq_append] at *
        exact h1 L q (ih L (by simpa using hl))
  exact h _ l rfl
/-- Rising by their beginnings. -/
def Rising (l : List Sp) : Prop := l.Pairwise fun a b => a.f ≤ b.f
theorem gath_inv (l : List Sp) (hk : ∀ s ∈ l, s.ok) (hr : Rising l) : Norm (gath l) ∧ (∀ x, Mem (gath l) x ↔ Mem l x) ∧ ∀ s ∈ gath l, ∃ u ∈ l, u.f = s.f := by
  induction l using snoc_ind with
  | h0 => exact ⟨norm_nil, fun x => Iff.rfl, by simp [gath]⟩
  | h1 l x ih =>
    obtain ⟨hr1, _, hr2⟩ := List.pairwise_append.1 hr
    obtain ⟨h1, h2, h3⟩ := ih (fun s hs => hk s (by simp [hs])) hr1
    have hx := hk x (by simp)
    have hle : ∀ s ∈ gath l, s.f ≤ x.f := fun s hs => by
      obtain ⟨u, hu, e⟩ := h3 s hs
      have := hr2 u hu x (by simp)
      omega
    rw [gath_snoc]
    rcases List.eq_nil_or_concat (gath l) with e | ⟨L, q, e⟩
    · rw [e] at h2
      rw [e, gstep_nil]
      refine ⟨norm_one hx, fun y => ?_, fun s hs => ⟨x, by simp, by simp at hs; rw [hs]⟩⟩
      rw [mem_append, ← h2]
      simp [Mem]
    · rw [List.concat_eq_append] at e
      rw [e] at h1 h2 h3 hle
      rw [e, gstep_snoc]
      obtain ⟨n1, n2, n3⟩ := norm_snoc.1 h1
      have hq := hle q (by simp)
      by_cases hc : x.f ≤ q.t
      · rw [if_pos hc]
        refine ⟨norm_snoc.2 ⟨n1, ⟨n2.1, by show q.f < max q.t x.t; have := n2.2.1; omega, by show max q.t x.t ≤ _; have := n2.2.2; have := hx.2.2; omega⟩, n3⟩, fun y => ?_, fun s hs => ?_⟩
        · rw [mem_append, mem_append (a := l), ← h2, mem_append]
          simp only [Mem, List.mem_singleton, exists_eq_left]
          constructor
          · rintro (h | h)
            · exact .inl (.inl h)
            · by_cases hy : y < q.t
              · exact .inl (.inr ⟨h.1, hy⟩)
              · exact .inr ⟨by omega, by have : y < max q.t x.t := h.2; omega⟩
          · rintro ((h | h) | h)
            · exact .inl h
            · exact .inr ⟨h.1, by show y < max q.t x.t; omega⟩
            · exact .inr ⟨by show q.f ≤ y; omega, by show y < max q.t x.t; omega⟩
        · rcases List.mem_append.1 hs with hs | hs
          · obtain ⟨u, hu, e⟩ := h3 s (by simp [hs])
            exact ⟨u, by simp [hu], e⟩
          · obtain ⟨u, hu, e⟩ := h3 q (by simp)
            simp at hs
            exact ⟨u, by simp [hu], by rw [hs]; exact e⟩
      · rw [if_neg hc]
        refine ⟨norm_snoc.2 ⟨h1, hx, fun u hu => by have := norm_last h1 u hu; omega⟩, fun y => ?_, fun s hs => ?_⟩
        · rw [mem_append, mem_append (a := l), ← h2]
        · rcases List.mem_append.1 hs with hs | hs
          · obtain ⟨u, hu, e⟩ := h3 s hs
            exact ⟨u, by simp [hu], e⟩
          · simp at hs
            exact ⟨x, by simp, by rw [hs]⟩
theorem gath_of {l l' : List Sp} (hk : ∀ s ∈ l', s.ok) (hr : Rising l') (hm : ∀ s, s ∈ l' ↔ s ∈ l ∧ s.ok) : gath l' = ofS l := by
  obtain ⟨h1, h2, _⟩ := gath_inv l' hk hr
  refine norm_ext h1 (norm_of l) fun x => ?_
  rw [h2, mem_of]
  exact ⟨fun ⟨s, a, b⟩ => ⟨s, ((hm s).1 a).1, ((hm s).1 a).2, b⟩, fun ⟨s, a, b, c⟩ => ⟨s, (hm s).2 ⟨a, b⟩, c⟩⟩
end Go.Proofs.YtmcddajniiaieaaDoor
