/- What RadixSame makes: every number of a map, dropped and put again, in whatever turn: the same map. In plain Lean. -/
import Derived.Test.YtcdjhoejnjbgkaaCutA
namespace Go.Proofs.Ytcdjhoejnjbgkaa

theorem putL_mem_iff (k : Nat) (v : Int) (l : List Pr) (e : Pr) : e ∈ putL k v l ↔ e = ⟨k, v⟩ ∨ (e ∈ l ∧ e.k ≠ k) := by
  have : ∀ (l : List Pr) (d : Bool), e ∈ putGo k v d l ↔ (d = false ∧ e = ⟨k, v⟩) ∨ (e ∈ l ∧ e.k ≠ k) := by
    intro l
    induction l with
    | nil => intro d; cases d <;> simp [putGo]
    | cons r l ih =>
      intro d
      have i1 : (e ∈ (if (decide (k ≤ r.k) && !d) = true then [(⟨k, v⟩ : Pr)] else [])) ↔ ((k ≤ r.k ∧ d = false) ∧ e = ⟨k, v⟩) := by
        split <;> simp_all
      have i2 : (e ∈ (if r.k ≠ k then [r] else [])) ↔ (e = r ∧ e.k ≠ k) := by
        by_cases h : r.k = k
        · simp only [h, ne_eq, not_true_eq_false, if_false, List.not_mem_nil, false_iff]
          rintro ⟨rfl, h'⟩; exact h' h
        · simp only [h, ne_eq, not_false_eq_true, if_true, List.mem_singleton]
          exact ⟨fun e => ⟨e, by rw [e]; exact h⟩, fun e => e.1⟩
      simp only [putGo, List.mem_append, ih, List.mem_cons]
      rw [i1, i2]
      constructor
      · rintro ((⟨⟨h1, h2⟩, h3⟩ | ⟨h1, h2⟩) | ⟨h1, h2⟩ | ⟨h1, h2⟩)
        · exact .inl ⟨h2, h3⟩
        · exact .inr ⟨.inl h1, h2⟩
        · exact .inl ⟨by cases d <;> simp_all, h2⟩
        · exact .inr ⟨.inr h1, h2⟩
      · rintro (⟨h1, h2⟩ | ⟨h1 | h1, h2⟩)
        · by_cases e1 : k ≤ r.k
          · exact .inl (.inl ⟨⟨e1, h1⟩, h2⟩)
          · exact .inr (.inl ⟨by simp [h1, e1], h2⟩)
        · exact .inl (.inr ⟨h1, h2⟩)
        · exact .inr (.inr ⟨h1, h2⟩)
  simpa [putL] using this l false
theorem dropL_mem_iff (k : Nat) (l : List Pr) (e : Pr) : e ∈ dropL k l ↔ e ∈ l ∧ e.k ≠ k := by
  simp [dropL, List.mem_filter]

theorem up_ext {a b : List Pr} (ha : Up a) (hb : Up b) (h : ∀ e, e ∈ a ↔ e ∈ b) : a = b := by
  induction a generalizing b with
  | nil =>
    cases b with
    | nil => rfl
    | cons y b => exact absurd ((h y).2 (by simp)) (by simp)
  | cons x a ih =>
    cases b with
    | nil => exact absurd ((h x).1 (by simp)) (by simp)
    | cons y b =>
      obtain ⟨a1, a2⟩ := List.pairwise_cons.1 ha
      obtain ⟨b1, b2⟩ := List.pairwise_cons.1 hb
      have hxy : x = y := by
        rcases List.mem_cons.1 ((h x).1 (by simp)) with e | e
        · exact e
        · rcases List.mem_cons.1 ((h y).2 (by simp)) with e' | e'
          · exact e'.symm
          · have := b1 x e; have := a1 y e'; omega
      subst hxy
      rw [ih a2 b2 (fun e => ?_)]
      constructor
      · intro he
        rcases List.mem_cons.1 ((h e).1 (by simp [he])) with e' | e'
        · subst e'; have := a1 e he; omega
        · exact e'
      · intro he
        rcases List.mem_cons.1 ((h e).2 (by simp [he])) with e' | e'
        · subst e'; have := b1 e he; omega
        · exact e'

/-- One number put, dropped and put again. -/
def turnO (u : Pr → Int) (t : Option Nd) (x : Pr) : Option Nd := some (putO x.k x.v (dropO x.k (some (putO x.k (u x) t))))
/-- The map behind so many rounds. -/
def turned (u : Pr → Int) (L : List Pr) (s : Nat) : Nat → Option Nd
  | 0 => none
  | j + 1 => match L[(j + s) % L.length]? with
    | some x => turnO u (turned u L s j) x
    | none => turned u L s j
theorem turnO_ok {u : Pr → Int} {t : Option Nd} {x : Pr} (hx : x.k < 2 ^ 64) (h : Nd.oWF t) : Nd.oWF (turnO u t x) ∧ Nd.oL (turnO u t x) = putL x.k x.v (dropL x.k (putL x.k (u x) (Nd.oL t))) := by
  obtain ⟨a1, a2⟩ := putO_ok (v := u x) hx h
  obtain ⟨b1, b2⟩ := dropO_ok (k := x.k) (t := some (putO x.k (u x) t)) a1
  obtain ⟨c1, c2⟩ := putO_ok (v := x.v) hx b1
  refine ⟨c1, ?_⟩
  show (putO x.k x.v (dropO x.k (some (putO x.k (u x) t)))).toL = _
  rw [c2, b2]
  show putL x.k x.v (dropL x.k (putO x.k (u x) t).toL) = _
  rw [a2]
theorem turned_succ {u : Pr → Int} {L : List Pr} {s j : Nat} (hj : (j + s) % L.length < L.length) : turned u L s (j + 1) = turnO u (turned u L s j) (L[(j + s) % L.length]) := by
  simp only [turned, List.getElem?_eq_getElem hj]
theorem turned_ok {u : Pr → Int} {L : List Pr} (hu : Up L) (hl : ∀ e ∈ L, e.k < 2 ^ 64) (s : Nat) (hL : 0 < L.length) : ∀ j, Nd.oWF (turned u L s j) ∧ ∀ e, e ∈ Nd.oL (turned u L s j) ↔ ∃ i, i < j ∧ L[(i + s) % L.length]? = some e := by
  intro j
  induction j with
  | zero => exact ⟨trivial, fun e => by simp [turned, Nd.oL]⟩
  | succ j ih =>
    have hj : (j + s) % L.length < L.length := Nat.mod_lt _ hL
    obtain ⟨w1, m1⟩ := ih
    have hx := hl _ (List.getElem_mem hj)
    obtain ⟨w2, e2⟩ := turnO_ok (u := u) hx w1
    rw [turned_succ hj]
    refine ⟨w2, fun e => ?_⟩
    rw [e2, putL_mem_iff, dropL_mem_iff, putL_mem_iff, m1]
    have hdist : ∀ e, e ∈ L → e.k = (L[(j + s) % L.length]).k → e = L[(j + s) % L.length] := by
      intro e he hk
      obtain ⟨i, hi, rfl⟩ := List.mem_iff_getElem.1 he
      rcases Nat.lt_trichotomy i ((j + s) % L.length) with h | h | h
      · have := List.pairwise_iff_getElem.1 hu i _ hi hj h; omega
      · subst h; rfl
      · have := List.pairwise_iff_getElem.1 hu _ i hj hi h; omega
    constructor
    · rintro (h | ⟨⟨h | ⟨⟨i, hi, hh⟩, _⟩, h3⟩, h4⟩)
      · exact ⟨j, by omega, by rw [List.getElem?_eq_getElem hj, h]⟩
      · exact absurd (by rw [h]) h4
      · exact ⟨i, by omega, hh⟩
    · rintro ⟨i, hi, hh⟩
      by_cases hij : i = j
      · subst hij
        rw [List.getElem?_eq_getElem hj] at hh
        exact .inl (by cases hh; rfl)
      · by_cases hk : e.k = (L[(j + s) % L.length]).k
        · have := hdist e (List.mem_of_getElem? hh) hk
          exact .inl this
        · exact .inr ⟨⟨.inr ⟨⟨i, by omega, hh⟩, hk⟩, hk⟩, hk⟩
theorem turned_all {u : Pr → Int} {L : List Pr} (hu : Up L) (hl : ∀ e ∈ L, e.k < 2 ^ 64) (s : Nat) : Nd.oWF (turned u L s L.length) ∧ Nd.oL (turned u L s L.length) = L := by
  rcases Nat.eq_zero_or_pos L.length with h0 | hL
  · have : L = [] := List.eq_nil_of_length_eq_zero h0
    subst this; exact ⟨trivial, rfl⟩
  · obtain ⟨w, m⟩ := turned_ok (u := u) hu hl s hL L.length
    refine ⟨w, up_ext (upO w).1 hu fun e => ?_⟩
    rw [m]
    constructor
    · rintro ⟨i, _, hh⟩; exact List.mem_of_getElem? hh
    · intro he
      obtain ⟨i, hi, rfl⟩ := List.mem_iff_getElem.1 he
      refine ⟨(i + (L.length - s % L.length)) % L.length, Nat.mod_lt _ hL, ?_⟩
      have h1 : s % L.length < L.length := Nat.mod_lt _ hL
      have h2 : ((i + (L.length - s % L.length)) % L.length + s) % L.length = i := by
        rw [Nat.mod_add_mod, ← Nat.add_mod_mod, show i + (L.length - s % L.length) + s % L.length = i + L.length from by omega, Nat.add_mod_right]
        exact Nat.mod_eq_of_lt hi
      rw [h2, List.getElem?_eq_getElem hi]
theorem turned_len {u : Pr → Int} {L : List Pr} (hu : Up L) (hl : ∀ e ∈ L, e.k < 2 ^ 64) (s : Nat) (j : Nat) : (Nd.oL (turned u L s j)).length ≤ 2 * j := by
  rcases Nat.eq_zero_or_pos L.length with h0 | hL
  · have : L = [] := List.eq_nil_of_length_eq_zero h0
    subst this
    have : ∀ j, turned u ([] : List Pr) s j = none := by intro j; induction j with | zero => rfl | succ j ih => simp [turned, ih]
    rw [this]; simp [Nd.oL]
  · induction j with
    | zero => simp [turned, Nd.oL]
    | succ j ih =>
      have hj : (j + s) % L.length < L.length := Nat.mod_lt _ hL
      have w1 := (turned_ok (u := u) hu hl s hL j).1
      have hx := hl _ (List.getElem_mem hj)
      rw [turned_succ hj, (turnO_ok (u := u) hx w1).2]
      have p1 := wantL_length (Nd.oL (turned u L s j)) ⟨1, (L[(j + s) % L.length]).k, u (L[(j + s) % L.length])⟩
      have p2 := dropL_length (L[(j + s) % L.length]).k (putL (L[(j + s) % L.length]).k (u (L[(j + s) % L.length])) (Nd.oL (turned u L s j)))
      have p3 := wantL_length (dropL (L[(j + s) % L.length]).k (putL (L[(j + s) % L.length]).k (u (L[(j + s) % L.length])) (Nd.oL (turned u L s j)))) ⟨1, (L[(j + s) % L.length]).k, (L[(j + s) % L.length]).v⟩
      simp only [wantL, if_true] at p1 p3
      omega
end Go.Proofs.Ytcdjhoejnjbgkaa
