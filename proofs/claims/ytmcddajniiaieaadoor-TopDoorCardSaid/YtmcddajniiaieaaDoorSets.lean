/- Sets of bytes as lists of spans: plain, no program in sight. -/
import Derived.Below
namespace Go.Proofs.YtmcddajniiaieaaDoor

/-- A span: from, to. -/
structure Sp where
  f : Int
  t : Int
  deriving DecidableEq, Inhabited

def Sp.ok (s : Sp) : Prop := 0 ≤ s.f ∧ s.f < s.t ∧ s.t ≤ 4611686018427387904
instance (s : Sp) : Decidable s.ok := inferInstanceAs (Decidable (_ ∧ _ ∧ _))
/-- Is a byte in one of them? -/
def Mem (l : List Sp) (x : Int) : Prop := ∃ s ∈ l, s.f ≤ x ∧ x < s.t
/-- Rising, none empty, none touching the next one. -/
def Norm (l : List Sp) : Prop := (∀ s ∈ l, s.ok) ∧ l.Pairwise (fun a b => a.t < b.f)

theorem mem_nil (x : Int) : ¬ Mem [] x := by simp [Mem]
theorem mem_cons {s : Sp} {l : List Sp} {x : Int} : Mem (s :: l) x ↔ (s.f ≤ x ∧ x < s.t) ∨ Mem l x := by simp [Mem]
theorem mem_append {a b : List Sp} {x : Int} : Mem (a ++ b) x ↔ Mem a x ∨ Mem b x := by
  simp only [Mem, List.mem_append]
  constructor
  · rintro ⟨s, h | h, k⟩
    · exact .inl ⟨s, h, k⟩
    · exact .inr ⟨s, h, k⟩
  · rintro (⟨s, h, k⟩ | ⟨s, h, k⟩)
    · exact ⟨s, .inl h, k⟩
    · exact ⟨s, .inr h, k⟩
theorem norm_nil : Norm [] := ⟨by simp, List.Pairwise.nil⟩
theorem norm_one {s : Sp} (h : s.ok) : Norm [s] := ⟨by simpa using h, by simp⟩
theorem norm_cons {s : Sp} {l : List Sp} : Norm (s :: l) ↔ s.ok ∧ (∀ u ∈ l, s.t < u.f) ∧ Norm l := by
  unfold Norm
  rw [List.pairwise_cons]
  simp only [List.mem_cons, forall_eq_or_imp]
  constructor
  · rintro ⟨⟨a, b⟩, c, d⟩; exact ⟨a, c, b, d⟩
  · rintro ⟨a, c, b, d⟩; exact ⟨⟨a, b⟩, c, d⟩
theorem norm_snoc {s : Sp} {l : List Sp} : Norm (l ++ [s]) ↔ Norm l ∧ s.ok ∧ ∀ u ∈ l, u.t < s.f := by
  unfold Norm
  rw [List.pairwise_append]
  simp only [List.mem_append, List.mem_singleton, forall_eq]
  constructor
  · rintro ⟨a, b, _, d⟩
    exact ⟨⟨fun u hu => a u (.inl hu), b⟩, a s (.inr rfl), fun u hu => d u hu⟩
  · rintro ⟨⟨a, b⟩, c, d⟩
    exact ⟨fun u hu => hu.elim (a u) (fun e => e ▸ c), b, by simp, fun u hu => d u hu⟩
theorem Norm.get {l : List Sp} (h : Norm l) {i : Nat} (hi : i < l.length) : 0 ≤ l[i].f ∧ l[i].f < l[i].t ∧ l[i].t ≤ 4611686018427387904 := h.1 _ (List.getElem_mem hi)
theorem Norm.lt {l : List Sp} (h : Norm l) {i j : Nat} (hij : i < j) (hj : j < l.length) : l[i].t < l[j].f := List.pairwise_iff_getElem.1 h.2 i j (by omega) hj hij
theorem Norm.take {l : List Sp} (h : Norm l) (k : Nat) : Norm (l.take k) := ⟨fun s hs => h.1 s (List.mem_of_mem_take hs), h.2.sublist (List.take_sublist _ _)⟩
theorem Norm.drop {l : List Sp} (h : Norm l) (k : Nat) : Norm (l.drop k) := ⟨fun s hs => h.1 s (List.mem_of_mem_drop hs), h.2.sublist (List.drop_sublist _ _)⟩

/-- One list alone has just these bytes. -/
theorem norm_ext {a b : List Sp} (ha : Norm a) (hb : Norm b) (h : ∀ x, Mem a x ↔ Mem b x) : a = b := by
  induction a generalizing b with
  | nil =>
    cases b with
    | nil => rfl
    | cons u b =>
      have hu := (norm_cons.1 hb).1
      exact absurd ((h u.f).2 (mem_cons.2 (.inl ⟨Int.le_refl _, hu.2.1⟩))) (mem_nil _)
  | cons s a ih =>
    obtain ⟨hs, hsa, hna⟩ := norm_cons.1 ha
    have low : ∀ {s : Sp} {l : List Sp}, (∀ u ∈ l, s.t < u.f) → s.ok → ∀ x, Mem (s :: l) x → s.f ≤ x := by
      intro s l h1 h2 x hx
      rcases mem_cons.1 hx with hx | ⟨u, hu, hx⟩
      · exact hx.1
      · have := h1 u hu; have := h2.2.1; omega
    have gap : ∀ {s : Sp} {l : List Sp}, (∀ u ∈ l, s.t < u.f) → ¬ Mem (s :: l) s.t := by
      intro s l h1 hx
      rcases mem_cons.1 hx with hx | ⟨u, hu, hx⟩
      · omega
      · have := h1 u hu; omega
    cases b with
    | nil => exact absurd ((h s.f).1 (mem_cons.2 (.inl ⟨Int.le_refl _, hs.2.1⟩))) (mem_nil _)
    | cons u b =>
      obtain ⟨hu, hub, hnb⟩ := norm_cons.1 hb
      have e1 : s.f = u.f := by
        have h1 := low hub hu s.f ((h _).1 (mem_cons.2 (.inl ⟨Int.le_refl _, hs.2.1⟩)))
        have h2 := low hsa hs u.f ((h _).2 (mem_cons.2 (.inl ⟨Int.le_refl _, hu.2.1⟩)))
        omega
      have e2 : s.t = u.t := by
        rcases Int.lt_trichotomy s.t u.t with h1 | h1 | h1
        · exact absurd ((h s.t).2 (mem_cons.2 (.inl ⟨by have := hs.2.1; omega, h1⟩))) (gap hsa)
        · exact h1
        · exact absurd ((h u.t).1 (mem_cons.2 (.inl ⟨by have := hu.2.1; omega, h1⟩))) (gap hub)
      have e : s = u := by cases s; cases u; simp_all
      subst e
      rw [ih hna hnb (fun x => ?_)]
      constructor
      · intro hx
        rcases mem_cons.1 ((h x).1 (mem_cons.2 (.inr hx))) with h1 | h1
        · obtain ⟨v, hv, hx⟩ := hx; have := hsa v hv; omega
        · exact h1
      · intro hx
        rcases mem_cons.1 ((h x).2 (mem_cons.2 (.inr hx))) with h1 | h1
        · obtain ⟨v, hv, hx⟩ := hx; have := hub v hv; omega
        · exact h1

/-- One more span. -/
def ins (s : Sp) : List Sp → List Sp
  | [] => [s]
  | u :: l => if s.t < u.f then s :: u :: l else if u.t < s.f then u :: ins s l else ins ⟨min s.f u.f, max s.t u.t⟩ l
theorem mem_ins (s : Sp) (l : List Sp) (hs : s.f < s.t) (hl : ∀ u ∈ l, u.f < u.t) (x : Int) : Mem (ins s l) x ↔ (s.f ≤ x ∧ x < s.t) ∨ Mem l x := by
  induction l generalizing s with
  | nil => simp [ins, Mem]
  | cons u l ih =>
    have hu : u.f < u.t := hl u (by simp)
    have hl' : ∀ v ∈ l, v.f < v.t := fun v hv => hl v (by simp [hv])
    unfold ins
    by_cases h1 : s.t < u.f
    · rw [if_pos h1, mem_cons]
    · rw [if_neg h1]
      by_cases h2 : u.t < s.f
      · rw [if_pos h2, mem_cons, mem_cons, ih s hs hl']
        constructor <;> (rintro (h | h | h) <;> simp [h])
      · rw [if_neg h2, ih _ (by show min s.f u.f < max s.t u.t; omega) hl', mem_cons]
        constructor
        · rintro (h | h)
          · have h3 : min s.f u.f ≤ x ∧ x < max s.t u.t := h
            by_cases h4 : s.f ≤ x ∧ x < s.t
            · exact .inl h4
            · exact .inr (.inl (by omega))
          · exact .inr (.inr h)
        · rintro (h | h | h)
          · exact .inl (by show min s.f u.f ≤ x ∧ x < max s.t u.t; omega)
          · exact .inl (by show min s.f u.f ≤ x ∧ x < max s.t u.t; omega)
          · exact .inr h
theorem norm_ins (s : Sp) (l : List Sp) (hs : s.ok) (hl : Norm l) : Norm (ins s l) ∧ ∀ b : Int, b < s.f → (∀ u ∈ l, b < u.f) → ∀ u ∈ ins s l, b < u.f := by
  induction l generalizing s with
  | nil => exact ⟨norm_one hs, fun b hb _ u hu => by simp [ins] at hu; subst hu; exact hb⟩
  | cons u l ih =>
    obtain ⟨hu, hul, hnl⟩ := norm_cons.1 hl
    unfold ins
    by_cases h1 : s.t < u.f
    · rw [if_pos h1]
      refine ⟨norm_cons.2 ⟨hs, ?_, hl⟩, ?_⟩
      · intro v hv
        rcases List.mem_cons.1 hv with rfl | hv
        · exact h1
        · have := hul v hv; have := hu.2.1; omega
      · intro b hb hbl v hv
        rcases List.mem_cons.1 hv with rfl | hv
        · exact hb
        · exact hbl v hv
    · rw [if_neg h1]
      by_cases h2 : u.t < s.f
      · rw [if_pos h2]
        have hi := ih s hs hnl
        refine ⟨norm_cons.2 ⟨hu, hi.2 u.t h2 hul, hi.1⟩, ?_⟩
        intro b hb hbl v hv
        rcases List.mem_cons.1 hv with rfl | hv
        · exact hbl v (by simp)
        · exact hi.2 b hb (fun y hy => hbl y (by simp [hy])) v hv
      · rw [if_neg h2]
        obtain ⟨a1, a2, a3⟩ := hs
        obtain ⟨b1, b2, b3⟩ := hu
        have hi := ih ⟨min s.f u.f, max s.t u.t⟩ ⟨by show 0 ≤ min s.f u.f; omega, by show min s.f u.f < max s.t u.t; omega, by show max s.t u.t ≤ _; omega⟩ hnl
        refine ⟨hi.1, ?_⟩
        intro b hb hbl v hv
        have hbu := hbl u (by simp)
        exact hi.2 b (by show b < min s.f u.f; omega) (fun y hy => hbl y (by simp [hy])) v hv
theorem ins_length (s : Sp) (l : List Sp) : (ins s l).length ≤ l.length + 1 := by
  induction l generalizing s with
  | nil => simp [ins]
  | cons u l ih =>
    unfold ins
    split
    · simp
    · split
      · have := ih s; simp; omega
      · have := ih ⟨min s.f u.f, max s.t u.t⟩; simp; omega

/-- The set of all that spans have. -/
def ofS (l : List Sp) : List Sp := (l.filter fun s => decide s.ok).foldr ins []
theorem foldr_ins (l : List Sp) (b : List Sp) (hl : ∀ s ∈ l, s.ok) (hb : Norm b) : Norm (l.foldr ins b) ∧ (∀ x, Mem (l.foldr ins b) x ↔ Mem l x ∨ Mem b x) ∧ (l.foldr ins b).length ≤ l.length + b.length := by
  induction l with
  | nil => exact ⟨hb, fun x => by simp [Mem], by simp⟩
  | cons s l ih =>
    obtain ⟨h1, h2, h3⟩ := ih (fun u hu => hl u (by simp [hu]))
    have hs := hl s (by simp)
    refine ⟨(norm_ins s _ hs h1).1, fun x => ?_, ?_⟩
    · show Mem (ins s _) x ↔ _
      rw [mem_ins s _ hs.2.1 (fun u hu => (h1.1 u hu).2.1), h2, mem_cons]
      constructor
      · rintro (h | h | h) <;> simp [h]
      · rintro ((h | h) | h) <;> simp [h]
    · have := ins_length s (l.foldr ins b)
      show (ins s _).length ≤ _
      simp; omega
theorem norm_of (l : List Sp) : Norm (ofS l) := (foldr_ins _ [] (fun s hs => by simpa using (List.mem_filter.1 hs).2) norm_nil).1
theorem mem_of (l : List Sp) (x : Int) : Mem (ofS l) x ↔ ∃ s ∈ l, s.ok ∧ s.f ≤ x ∧ x < s.t := by
  unfold ofS
  rw [(foldr_ins _ [] (fun s hs => by simpa using (List.mem_filter.1 hs).2) norm_nil).2.1]
  simp only [Mem, List.mem_filter, List.not_mem_nil, false_and, exists_false, or_false, decide_eq_true_eq]
  constructor
  · rintro ⟨s, ⟨h1, h2⟩, h3⟩; exact ⟨s, h1, h2, h3⟩
  · rintro ⟨s, h1, h2, h3⟩; exact ⟨s, ⟨h1, h2⟩, h3⟩
theorem of_length (l : List Sp) : (ofS l).length ≤ l.length := by
  have h := (foldr_ins (l.filter fun s => decide s.ok) [] (fun s hs => by simpa using (List.mem_filter.1 hs).2) norm_nil).2.2
  have := List.length_filter_le (fun s : Sp => decide s.ok) l
  unfold ofS
  simp at h ⊢
  omega

def orS (a b : List Sp) : List Sp := ofS (a ++ b)
def andS (a b : List Sp) : List Sp := ofS (a.flatMap fun s => b.map fun u => ⟨max s.f u.f, min s.t u.t⟩)
/-- What a span has, and another one hasn't. -/
def cut1 (s u : Sp) : List Sp := if u.ok then [⟨s.f, min s.t u.f⟩, ⟨max s.f u.t, s.t⟩] else [s]
def cutS (l : List Sp) (u : Sp) : List Sp := l.flatMap fun s => cut1 s u
def lessS (a b : List Sp) : List Sp := ofS (b.foldl cutS a)
def nearS (a : List Sp) (gap : Int) : List Sp := ofS (a ++ (a.zip a.tail).filterMap fun p => if p.2.f - p.1.t ≤ gap then some ⟨p.1.t, p.2.f⟩ else none)

theorem norm_or (a b : List Sp) : Norm (orS a b) := norm_of _
theorem norm_and (a b : List Sp) : Norm (andS a b) := norm_of _
theorem norm_less (a b : List Sp) : Norm (lessS a b) := norm_of _
theorem mem_of_norm {l : List Sp} (h : Norm l) (x : Int) : Mem (ofS l) x ↔ Mem l x := by
  rw [mem_of]
  exact ⟨fun ⟨s, h1, _, h3⟩ => ⟨s, h1, h3⟩, fun ⟨s, h1, h3⟩ => ⟨s, h1, h.1 s h1, h3⟩⟩
theorem of_norm {l : List Sp} (h : Norm l) : ofS l = l := norm_ext (norm_of l) h (mem_of_norm h)
theorem mem_or {a b : List Sp} (ha : Norm a) (hb : Norm b) (x : Int) : Mem (orS a b) x ↔ Mem a x ∨ Mem b x := by
  unfold orS
  rw [mem_of]
  simp only [List.mem_append]
  constructor
  · rintro ⟨s, h | h, _, h3⟩
    · exact .inl ⟨s, h, h3⟩
    · exact .inr ⟨s, h, h3⟩
  · rintro (⟨s, h, h3⟩ | ⟨s, h, h3⟩)
    · exact ⟨s, .inl h, ha.1 s h, h3⟩
    · exact ⟨s, .inr h, hb.1 s h, h3⟩
theorem or_length (a b : List Sp) : (orS a b).length ≤ a.length + b.length := by
  have := of_length (a ++ b)
  unfold orS
  simp at this ⊢
  omega
theorem mem_and {a b : List Sp} (ha : Norm a) (hb : Norm b) (x : Int) : Mem (andS a b) x ↔ Mem a x ∧ Mem b x := by
  unfold andS
  rw [mem_of]
  simp only [List.mem_flatMap, List.mem_map]
  constructor
  · rintro ⟨s, ⟨u, hu, v, hv, rfl⟩, _, h3⟩
    have h3' : max u.f v.f ≤ x ∧ x < min u.t v.t := h3
    exact ⟨⟨u, hu, by omega⟩, ⟨v, hv, by omega⟩⟩
  · rintro ⟨⟨u, hu, h1⟩, ⟨v, hv, h2⟩⟩
    obtain ⟨a1, a2, a3⟩ := ha.1 u hu
    obtain ⟨b1, b2, b3⟩ := hb.1 v hv
    exact ⟨⟨max u.f v.f, min u.t v.t⟩, ⟨u, hu, v, hv, rfl⟩, ⟨by show 0 ≤ max u.f v.f; omega, by show max u.f v.f < min u.t v.t; omega, by show min u.t v.t ≤ _; omega⟩, by show max u.f v.f ≤ x ∧ x < min u.t v.t; omega⟩
theorem mem_cuts (b : List Sp) (l : List Sp) (hl : ∀ s ∈ l, 0 ≤ s.f ∧ s.t ≤ 4611686018427387904) : (∀ s ∈ b.foldl cutS l, 0 ≤ s.f ∧ s.t ≤ 4611686018427387904) ∧ ∀ x, Mem (b.foldl cutS l) x ↔ Mem l x ∧ ¬ ∃ u ∈ b, u.ok ∧ u.f ≤ x ∧ x < u.t := by
  induction b generalizing l with
  | nil => exact ⟨hl, fun x => by simp⟩
  | cons u b ih =>
    have h1 : (∀ s ∈ cutS l u, 0 ≤ s.f ∧ s.t ≤ 4611686018427387904) ∧ ∀ x, Mem (cutS l u) x ↔ Mem l x ∧ ¬ (u.ok ∧ u.f ≤ x ∧ x < u.t) := by
      unfold cutS cut1
      by_cases hu : u.ok
      · simp only [if_pos hu]
        obtain ⟨u1, u2, u3⟩ := id hu
        constructor
        · intro s hs
          obtain ⟨v, hv, hs⟩ := List.mem_flatMap.1 hs
          have := hl v hv
          simp at hs
          rcases hs with rfl | rfl
          · show 0 ≤ v.f ∧ min v.t u.f ≤ _; omega
          · show 0 ≤ max v.f u.t ∧ v.t ≤ _; omega
        · intro x
          constructor
          · rintro ⟨s, hs, hx⟩
            obtain ⟨v, hv, hs⟩ := List.mem_flatMap.1 hs
            simp at hs
            rcases hs with rfl | rfl
            · have hx' : v.f ≤ x ∧ x < min v.t u.f := hx
              exact ⟨⟨v, hv, by omega⟩, by omega⟩
            · have hx' : max v.f u.t ≤ x ∧ x < v.t := hx
              exact ⟨⟨v, hv, by omega⟩, by omega⟩
          · rintro ⟨⟨v, hv, hx⟩, hn⟩
            by_cases hlt : x < u.f
            · exact ⟨⟨v.f, min v.t u.f⟩, List.mem_flatMap.2 ⟨v, hv, by simp⟩, by show v.f ≤ x ∧ x < min v.t u.f; omega⟩
            · exact ⟨⟨max v.f u.t, v.t⟩, List.mem_flatMap.2 ⟨v, hv, by simp⟩, by show max v.f u.t ≤ x ∧ x < v.t; have : ¬ x < u.t := fun h => hn ⟨hu, by omega, h⟩; omega⟩
      · simp only [if_neg hu]
        have e : (l.flatMap fun s => [s]) = l := by induction l with
          | nil => rfl
          | cons a l ih2 => simp
        rw [e]
        exact ⟨hl, fun x => by simp [hu]⟩
    obtain ⟨h2, h3⟩ := ih (cutS l u) h1.1
    refine ⟨h2, fun x => ?_⟩
    show Mem (b.foldl cutS (cutS l u)) x ↔ _
    rw [h3, h1.2]
    simp only [List.mem_cons]
    constructor
    · rintro ⟨⟨a, c⟩, d⟩
      refine ⟨a, ?_⟩
      rintro ⟨v, rfl | hv, hx⟩
      · exact c hx
      · exact d ⟨v, hv, hx⟩
    · rintro ⟨a, c⟩
      exact ⟨⟨a, fun hx => c ⟨u, .inl rfl, hx⟩⟩, fun ⟨v, hv, hx⟩ => c ⟨v, .inr hv, hx⟩⟩
theorem mem_less {a b : List Sp} (ha : Norm a) (hb : Norm b) (x : Int) : Mem (lessS a b) x ↔ Mem a x ∧ ¬ Mem b x := by
  have h := mem_cuts b a (fun s hs => ⟨(ha.1 s hs).1, (ha.1 s hs).2.2⟩)
  unfold lessS
  rw [mem_of]
  have e : (∃ u ∈ b, u.ok ∧ u.f ≤ x ∧ x < u.t) ↔ Mem b x := ⟨fun ⟨s, h1, _, h3⟩ => ⟨s, h1, h3⟩, fun ⟨s, h1, h3⟩ => ⟨s, h1, hb.1 s h1, h3⟩⟩
  rw [← e, ← h.2]
  constructor
  · rintro ⟨s, h1, _, h3⟩; exact ⟨s, h1, h3⟩
  · rintro ⟨s, h1, h3⟩; exact ⟨s, h1, ⟨(h.1 s h1).1, by omega, (h.1 s h1).2⟩, h3⟩
theorem mem_lt {l : List Sp} (h : Norm l) {x : Int} (hx : Mem l x) : 0 ≤ x ∧ x < 4611686018427387904 := by
  obtain ⟨s, hs, hx⟩ := hx
  have := h.1 s hs
  unfold Sp.ok at this
  omega
theorem norm_mem_ne {l : List Sp} (h : Norm l) (hl : l ≠ []) : ∃ x, Mem l x := by
  cases l with
  | nil => exact absurd rfl hl
  | cons s l => exact ⟨s.f, mem_cons.2 (.inl ⟨Int.le_refl _, (h.1 s (by simp)).2.1⟩)⟩
theorem norm_empty {l : List Sp} (h : Norm l) (hn : ∀ x, ¬ Mem l x) : l = [] := by
  rcases List.eq_nil_or_concat l with e | ⟨_, _, e⟩
  · exact e
  · exact absurd (norm_mem_ne h (by simp [e])) (fun ⟨x, hx⟩ => hn x hx)
end Go.Proofs.YtmcddajniiaieaaDoor
