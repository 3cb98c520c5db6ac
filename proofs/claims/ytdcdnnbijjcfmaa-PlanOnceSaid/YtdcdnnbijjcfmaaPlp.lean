/- The plan, fetch by fetch: plain, no program in sight. -/
import Derived.Test.YtdcdnnbijjcfmaaEndp
namespace Go.Proofs.Ytdcdnnbijjcfmaa

/-- What is left from a byte on. -/
def cutL (l : List Sp) (x : Int) : List Sp := match l.dropWhile (fun s => decide (s.t ≤ x)) with
  | [] => []
  | s :: r => ⟨max s.f x, s.t⟩ :: r
theorem dropWhile_at {l : List Sp} {x : Int} {k : Nat} (hk : k ≤ l.length) (h1 : ∀ j (hj : j < l.length), j < k → l[j].t ≤ x) (h2 : ∀ hk2 : k < l.length, x < l[k].t) : l.dropWhile (fun s => decide (s.t ≤ x)) = l.drop k := by
  induction l generalizing k with
  | nil => simp
  | cons s l ih =>
    rcases k with _ | k
    · have := h2 (by simp)
      simp at this
      rw [List.dropWhile_cons, if_neg (by simp; omega)]
      rfl
    · have h0 := h1 0 (by simp) (by omega)
      simp at h0
      rw [List.dropWhile_cons, if_pos (by simp; omega), List.drop_succ_cons]
      exact ih (by simpa using hk) (fun j hj hjk => h1 (j + 1) (by simp; omega) (by omega)) (fun hk2 => h2 (by simp; omega))
theorem cut_nil {l : List Sp} {x : Int} (h1 : ∀ j (hj : j < l.length), l[j].t ≤ x) : cutL l x = [] := by
  unfold cutL
  rw [dropWhile_at (Nat.le_refl _) (fun j hj _ => h1 j hj) (fun h => absurd h (by omega)), List.drop_length]
theorem cut_at {l : List Sp} {x : Int} {k : Nat} (hk : k < l.length) (h1 : ∀ j (hj : j < l.length), j < k → l[j].t ≤ x) (h2 : x < l[k].t) : cutL l x = ⟨max l[k].f x, l[k].t⟩ :: l.drop (k + 1) := by
  unfold cutL
  rw [dropWhile_at (Nat.le_of_lt hk) h1 (fun _ => h2), List.drop_eq_getElem_cons hk]
/-- There is a first span that ends behind x, or none. -/
theorem cut_find (l : List Sp) (x : Int) : (∀ j (hj : j < l.length), l[j].t ≤ x) ∨ ∃ k, ∃ hk : k < l.length, (∀ j (hj : j < l.length), j < k → l[j].t ≤ x) ∧ x < l[k].t := by
  induction l with
  | nil => exact .inl (fun j hj => absurd hj (by simp))
  | cons s l ih =>
    rcases lt_or_ge x s.t with h | h
    · exact .inr ⟨0, by simp, fun j hj h => absurd h (by omega), h⟩
    · rcases ih with h1 | ⟨k, hk, h1, h2⟩
      · refine .inl fun j hj => ?_
        rcases j with _ | j
        · exact h
        · exact h1 j (by simpa using hj)
      · refine .inr ⟨k + 1, by simp; omega, fun j hj hjk => ?_, h2⟩
        rcases j with _ | j
        · exact h
        · exact h1 j (by simpa using hj) (by omega)
theorem cut_lok {L : List Sp} {u E x : Int} (hL : Lok L u E) (hx : ∀ s ∈ L, s.f < x → x < s.t → x % u = 0) : Lok (cutL L x) u E ∧ (∀ y, Mem (cutL L x) y ↔ Mem L y ∧ x ≤ y) ∧ ∀ s ∈ cutL L x, x ≤ s.f := by
  have hN := hL.norm
  rcases cut_find L x with h1 | ⟨k, hk, h1, h2⟩
  · rw [cut_nil h1]
    refine ⟨⟨norm_nil, by simp, by simp⟩, fun y => ⟨fun h => absurd h (mem_nil y), ?_⟩, by simp⟩
    rintro ⟨⟨s, hs, a, b⟩, c⟩
    obtain ⟨j, hj, rfl⟩ := List.mem_iff_getElem.1 hs
    have := h1 j hj
    omega
  · rw [cut_at hk h1 h2]
    have hgk := hN.get hk
    have hd := hN.drop (k + 1)
    have hgt : ∀ s ∈ L.drop (k + 1), L[k].t < s.f := fun s hs => by
      obtain ⟨j, hj, rfl⟩ := List.mem_iff_getElem.1 hs
      rw [List.getElem_drop]
      exact hN.lt (by omega) (by rw [List.length_drop] at hj; omega)
    have hmd : ∀ s ∈ L.drop (k + 1), s ∈ L := fun s hs => List.mem_of_mem_drop hs
    refine ⟨⟨norm_cons.2 ⟨⟨by show 0 ≤ max L[k].f x; omega, by show max L[k].f x < L[k].t; omega, hgk.2.2⟩, hgt, hd⟩, ?_, ?_⟩, fun y => ?_, ?_⟩
    · intro s hs
      rcases List.mem_cons.1 hs with rfl | hs
      · show max L[k].f x % u = 0
        rcases lt_or_ge L[k].f x with h3 | h3
        · rw [Int.max_eq_right (by omega)]; exact hx _ (List.getElem_mem hk) h3 h2
        · rw [Int.max_eq_left h3]; exact hL.f _ (List.getElem_mem hk)
      · exact hL.f s (hmd s hs)
    · intro s hs
      rcases List.mem_cons.1 hs with rfl | hs
      · exact hL.t L[k] (List.getElem_mem hk)
      · exact hL.t s (hmd s hs)
    · rw [mem_cons]
      constructor
      · rintro (⟨a, b⟩ | ⟨s, hs, a, b⟩)
        · have a' : max L[k].f x ≤ y := a
          exact ⟨mem_idx hk (by omega) b, by omega⟩
        · have := hgt s hs
          exact ⟨⟨s, hmd s hs, a, b⟩, by omega⟩
      · rintro ⟨⟨s, hs, a, b⟩, c⟩
        obtain ⟨j, hj, rfl⟩ := List.mem_iff_getElem.1 hs
        rcases Nat.lt_trichotomy j k with h3 | h3 | h3
        · have := h1 j hj h3; omega
        · subst h3; exact .inl ⟨by show max L[j].f x ≤ y; omega, b⟩
        · refine .inr ⟨L[j], ?_, a, b⟩
          rw [List.mem_iff_getElem]
          exact ⟨j - (k + 1), by rw [List.length_drop]; omega, by rw [List.getElem_drop]; congr 1; omega⟩
    · intro s hs
      rcases List.mem_cons.1 hs with rfl | hs
      · show x ≤ max L[k].f x; omega
      · have := hgt s hs; omega
/-- The plan of what is left; at most so many fetches. -/
def planF (F : List Sp) (c : Cf) : Nat → List Sp → List Sp
  | 0, _ => []
  | _ + 1, [] => []
  | n + 1, s :: l => ⟨s.f, endC (s :: l) (freeT F s.f) c⟩ :: planF F c n (cutL (s :: l) (endC (s :: l) (freeT F s.f) c))
/-- The plan is being made. -/
structure Pok (L F : List Sp) (c : Cf) (E : Int) : Prop where
  lok : Lok L c.u E
  unit : unitB c.u = true
  most : c.u ≤ c.mo
  wa : 0 ≤ c.wa
  norm : Norm F
  free : ∀ x, Mem L x → Mem F x
  small : ∀ s ∈ L, s.f ≤ 100 * c.u ∧ (s.t ≤ 100 * c.u ∨ s.t = 4611686018427387904)
theorem span_one {L : List Sp} (hN : Norm L) {i j : Nat} (hi : i < L.length) (hj : j < L.length) {x : Int} (h1 : L[i].f < x) (h2 : x ≤ L[i].t) (h3 : L[j].f < x) (h4 : x ≤ L[j].t) : i = j := by
  rcases Nat.lt_trichotomy i j with h | h | h
  · have := hN.lt h hj; omega
  · exact h
  · have := hN.lt h hi; omega
theorem pok_step {L F : List Sp} {c : Cf} {E : Int} (h : Pok L F c E) (h0 : 0 < L.length) {e : Int} (he : endC L (freeT F L[0].f) c = e) :
    L[0].f < e ∧ e ≤ 4611686018427387904 ∧ Pok (cutL L e) F c E ∧ (∀ y, Mem (cutL L e) y ↔ Mem L y ∧ e ≤ y) ∧ ∀ s ∈ cutL L e, e ≤ s.f ∧ L[0].f + c.u ≤ s.f := by
  have hN := h.lok.norm
  obtain ⟨⟨j, hj⟩, hmax⟩ := endC_spec h.lok h.unit h.most h.wa h.norm h.free h0
  rw [he] at hj hmax
  have hjl := hj.hj
  have hjlo := hj.lo
  have hjhi := hj.hi
  have hjal := hj.al
  rw [getD_i hjl] at hjlo hjhi hjal
  have hgj := hN.get hjl
  have hg0 := hN.get h0
  obtain ⟨u1, u2⟩ := unit_bound h.unit
  have hlt : L[0].f < e := by
    rcases Nat.eq_zero_or_pos j with h1 | h1
    · subst h1; exact hjlo
    · have := hN.lt h1 hjl; omega
  have hstr : ∀ s ∈ L, s.f < e → e < s.t → e % c.u = 0 ∧ s.t ≠ 4611686018427387904 := fun s hs a b => by
    obtain ⟨k, hk, rfl⟩ := List.mem_iff_getElem.1 hs
    obtain rfl := span_one hN hk hjl a (Int.le_of_lt b) hjlo hjhi
    refine ⟨by rcases hjal with h1 | h1 <;> omega, fun ht => ?_⟩
    have := hmax k 4611686018427387904 ⟨hk, by rw [getD_i hk]; omega, by rw [getD_i hk]; omega, .inl (by rw [getD_i hk, ht]), .inl rfl, hj.wa, hj.fr⟩
    omega
  obtain ⟨c1, c2, c3⟩ := cut_lok (x := e) h.lok (fun s hs a b => (hstr s hs a b).1)
  have hsm : ∀ s ∈ cutL L e, s.f ≤ 100 * c.u ∧ (s.t ≤ 100 * c.u ∨ s.t = 4611686018427387904) := by
    intro s hs
    rcases cut_find L e with h1 | ⟨k, hk, h1, h2⟩
    · rw [cut_nil h1] at hs; simp at hs
    · rw [cut_at hk h1 h2] at hs
      rcases List.mem_cons.1 hs with rfl | hs
      · have hs0 := h.small L[k] (List.getElem_mem hk)
        refine ⟨?_, hs0.2⟩
        show max L[k].f e ≤ _
        rcases lt_or_ge L[k].f e with h3 | h3
        · have := (hstr _ (List.getElem_mem hk) h3 h2).2
          omega
        · omega
      · exact h.small s (List.mem_of_mem_drop hs)
  refine ⟨hlt, by omega, ⟨c1, h.unit, h.most, h.wa, h.norm, fun x hx => h.free x ((c2 x).1 hx).1, hsm⟩, c2, fun s hs => ⟨c3 s hs, ?_⟩⟩
  have h1 := c3 s hs
  exact mult_step (by omega) (h.lok.f _ (List.getElem_mem h0)) (c1.f s hs) (by omega)
/-- So many fetches are enough. -/
def Enough (L : List Sp) (u : Int) (n : Nat) : Prop := ∀ s ∈ L, 100 * u < s.f + n * u
theorem enough_step {L F : List Sp} {c : Cf} {E : Int} (h : Pok L F c E) (h0 : 0 < L.length) {n : Nat} (hn : Enough L c.u (n + 1)) {e : Int} (he : endC L (freeT F L[0].f) c = e) : Enough (cutL L e) c.u n := fun s hs => by
  have h1 := ((pok_step h h0 he).2.2.2.2 s hs).2
  have h2 := hn L[0] (List.getElem_mem h0)
  rw [show ((n + 1 : Nat) : Int) = (n : Int) + 1 by omega, Int.add_mul] at h2
  omega
theorem enough_no {L F : List Sp} {c : Cf} {E : Int} (h : Pok L F c E) (hn : Enough L c.u 0) : L = [] := by
  cases L with
  | nil => rfl
  | cons s L =>
    have h1 := hn s (by simp)
    have h2 := (h.small s (by simp)).1
    simp at h1
    omega
theorem enough_start {L F : List Sp} {c : Cf} {E : Int} (h : Pok L F c E) : Enough L c.u 101 := fun s hs => by
  have h1 := h.lok.norm.1 s hs
  obtain ⟨u1, u2⟩ := unit_bound h.unit
  have := h1.1
  omega
/-- The plan, whole. -/
def planL (F : List Sp) (c : Cf) (W : List Sp) : List Sp := planF F c 101 W
end Go.Proofs.Ytdcdnnbijjcfmaa
