/- The index in plain Lean: what the document's list of slices is, and what the maps of numbers have of it. -/
import Derived.Test.YtgcplndmhlideaaGreatPlain
import Derived.Test.YtgcplndmhlideaaGreatVal
namespace Go.Proofs.YtgcplndmhlideaaGreat

/-- A slice that is known: its version, its number, its bytes, its count. -/
structure Sl where
  v : Int
  n : Int
  b : Int
  c : Int
  deriving DecidableEq

section
variable {V : Type} {l m : List (Pr V)} {k : Nat} {v x : V} {e : Pr V}
theorem up_ext (hl : Up l) (hm : Up m) (h : ∀ e, e ∈ l ↔ e ∈ m) : l = m := by
  induction l generalizing m with
  | nil =>
    cases m with
    | nil => rfl
    | cons b m => have := (h b).2 (List.mem_cons_self ..); cases this
  | cons a l ih =>
    cases m with
    | nil => have := (h a).1 (List.mem_cons_self ..); cases this
    | cons b m =>
      obtain ⟨hl1, hl2⟩ := List.pairwise_cons.1 hl
      obtain ⟨hm1, hm2⟩ := List.pairwise_cons.1 hm
      have hab : a = b := by
        rcases List.mem_cons.1 ((h a).1 (List.mem_cons_self ..)) with e | e
        · exact e
        · rcases List.mem_cons.1 ((h b).2 (List.mem_cons_self ..)) with e2 | e2
          · exact e2.symm
          · have := hm1 _ e; have := hl1 _ e2; omega
      subst hab
      rw [ih hl2 hm2 fun e => ?_]
      constructor
      · intro he
        rcases List.mem_cons.1 ((h e).1 (List.mem_cons_of_mem _ he)) with e2 | e2
        · subst e2; have := hl1 _ he; omega
        · exact e2
      · intro he
        rcases List.mem_cons.1 ((h e).2 (List.mem_cons_of_mem _ he)) with e2 | e2
        · subst e2; have := hm1 _ he; omega
        · exact e2
theorem putL_lt {r : Pr V} (h : r.k < k) : putL k v (r :: l) = r :: putL k v l := by
  have := putL_below (k := k) (v := v) (l := [r]) (m := l) (by simpa using h)
  simpa using this
theorem putL_eq {r : Pr V} (hu : Up (r :: l)) (h : r.k = k) : putL k v (r :: l) = ⟨k, v⟩ :: l := by
  have h1 := (List.pairwise_cons.1 hu).1
  have h2 := putGo_true (k := k) (v := v) (l := l) (fun x hx => by have := h1 x hx; omega)
  have hle : k ≤ r.k := by omega
  simp [putL, putGo, h, h2]
theorem putL_gt {r : Pr V} (hu : Up (r :: l)) (h : k < r.k) : putL k v (r :: l) = ⟨k, v⟩ :: r :: l := by
  have h1 := (List.pairwise_cons.1 hu).1
  exact putL_above fun x hx => by
    rcases List.mem_cons.1 hx with rfl | hx
    · exact h
    · have := h1 x hx; omega
theorem mem_putL (h : Up l) : e ∈ putL k v l ↔ e = ⟨k, v⟩ ∨ (e ∈ l ∧ e.k ≠ k) := by
  induction l with
  | nil => simp [putL, putGo]
  | cons r l ih =>
    obtain ⟨h1, h2⟩ := List.pairwise_cons.1 h
    rcases Nat.lt_trichotomy r.k k with hlt | heq | hgt
    · rw [putL_lt hlt, List.mem_cons, ih h2, List.mem_cons]
      constructor
      · rintro (rfl | h | h)
        · exact .inr ⟨.inl rfl, by omega⟩
        · exact .inl h
        · exact .inr ⟨.inr h.1, h.2⟩
      · rintro (h | ⟨rfl | h, h3⟩)
        · exact .inr (.inl h)
        · exact .inl rfl
        · exact .inr (.inr ⟨h, h3⟩)
    · rw [putL_eq h heq, List.mem_cons, List.mem_cons]
      constructor
      · rintro (h | h)
        · exact .inl h
        · exact .inr ⟨.inr h, by have := h1 _ h; omega⟩
      · rintro (h | ⟨rfl | h, h3⟩)
        · exact .inl h
        · exact absurd heq h3
        · exact .inr h
    · rw [putL_gt h hgt, List.mem_cons, List.mem_cons]
      constructor
      · rintro (h | rfl | h)
        · exact .inl h
        · exact .inr ⟨.inl rfl, by omega⟩
        · exact .inr ⟨.inr h, by have := h1 _ h; omega⟩
      · rintro (h | ⟨h, _⟩)
        · exact .inl h
        · exact .inr h
theorem putL_up (h : Up l) : Up (putL k v l) := by
  induction l with
  | nil => simp [putL, putGo, Up]
  | cons r l ih =>
    obtain ⟨h1, h2⟩ := List.pairwise_cons.1 h
    rcases Nat.lt_trichotomy r.k k with hlt | heq | hgt
    · rw [putL_lt hlt]
      refine List.pairwise_cons.2 ⟨fun x hx => ?_, ih h2⟩
      rcases (mem_putL h2).1 hx with rfl | ⟨hx, _⟩
      · exact hlt
      · exact h1 x hx
    · rw [putL_eq h heq]
      exact List.pairwise_cons.2 ⟨fun x hx => by have := h1 x hx; show k < x.k; omega, h2⟩
    · rw [putL_gt h hgt]
      refine List.pairwise_cons.2 ⟨fun x hx => ?_, h⟩
      rcases List.mem_cons.1 hx with rfl | hx
      · exact hgt
      · have := h1 x hx; show k < x.k; omega
theorem putL_perm (h : Up l) (hk : ∀ e ∈ l, e.k ≠ k) : (putL k v l).Perm (⟨k, v⟩ :: l) := by
  induction l with
  | nil => exact List.Perm.refl _
  | cons r l ih =>
    obtain ⟨h1, h2⟩ := List.pairwise_cons.1 h
    rcases Nat.lt_trichotomy r.k k with hlt | heq | hgt
    · rw [putL_lt hlt]
      exact ((ih h2 fun e he => hk e (List.mem_cons_of_mem _ he)).cons r).trans (List.Perm.swap ..)
    · exact absurd heq (hk r (List.mem_cons_self ..))
    · rw [putL_gt h hgt]
theorem mem_dropL : e ∈ dropL k l ↔ e ∈ l ∧ e.k ≠ k := by simp [dropL]
theorem dropL_up (h : Up l) : Up (dropL k l) := List.Pairwise.sublist List.filter_sublist h
theorem up_key (h : Up l) {a b : Pr V} (ha : a ∈ l) (hb : b ∈ l) (hk : a.k = b.k) : a = b := by
  induction l with
  | nil => cases ha
  | cons r l ih =>
    obtain ⟨h1, h2⟩ := List.pairwise_cons.1 h
    rcases List.mem_cons.1 ha with e1 | e1 <;> rcases List.mem_cons.1 hb with e2 | e2
    · rw [e1, e2]
    · have := h1 _ e2; rw [← e1] at this; omega
    · have := h1 _ e1; rw [← e2] at this; omega
    · exact ih h2 e1 e2
theorem getL_some (h : Up l) : getL k l = some x ↔ (⟨k, x⟩ : Pr V) ∈ l := by
  unfold getL
  constructor
  · intro hg
    cases hf : l.find? fun r => decide (r.k = k) with
    | none => rw [hf] at hg; simp at hg
    | some r =>
      rw [hf] at hg
      have h1 := List.mem_of_find?_eq_some hf
      have h2 := List.find?_some hf
      simp at hg h2
      subst hg h2
      exact h1
  · intro hm
    cases hf : l.find? fun r => decide (r.k = k) with
    | none => have := List.find?_eq_none.1 hf _ hm; simp at this
    | some r =>
      have h1 := List.mem_of_find?_eq_some hf
      have h2 := List.find?_some hf
      simp at h2
      have := up_key h h1 hm h2
      rw [this]; rfl
theorem getL_none' : getL k l = none ↔ ∀ e ∈ l, e.k ≠ k := by
  unfold getL
  rw [Option.map_eq_none_iff, List.find?_eq_none]
  simp
end

/-- No two slices have one name. -/
def Dis (L : List Sl) : Prop := L.Pairwise fun s t => ¬ (s.v = t.v ∧ s.n = t.n)
/-- The slices of a version, by number. -/
def itemsOf : List Sl → Int → List (Pr It)
  | [], _ => []
  | s :: L, v => if s.v = v then putL s.n.toNat ⟨s.b, s.c⟩ (itemsOf L v) else itemsOf L v
/-- A slice's numbers are as an index has them. -/
def SlOk (u : Int) (s : Sl) : Prop := 0 ≤ s.v ∧ s.v ≤ 1099511627776 ∧ 0 ≤ s.n ∧ s.n ≤ 1099511627776 ∧ 1 ≤ s.b ∧ s.b ≤ u
theorem items_up (L : List Sl) (v : Int) : Up (itemsOf L v) := by
  induction L with
  | nil => exact List.Pairwise.nil
  | cons s L ih =>
    unfold itemsOf
    split
    · exact putL_up ih
    · exact ih
theorem mem_items {L : List Sl} (hd : Dis L) (hn : ∀ s ∈ L, 0 ≤ s.n) (v : Int) (e : Pr It) : e ∈ itemsOf L v ↔ ∃ s ∈ L, s.v = v ∧ s.n = e.k ∧ e.v = ⟨s.b, s.c⟩ := by
  induction L with
  | nil => simp [itemsOf]
  | cons s L ih =>
    obtain ⟨h1, h2⟩ := List.pairwise_cons.1 hd
    have ih := ih h2 fun s hs => hn s (List.mem_cons_of_mem _ hs)
    have h0 := hn s (List.mem_cons_self ..)
    unfold itemsOf
    split
    · rename_i hv
      rw [mem_putL (items_up L v), ih]
      constructor
      · rintro (rfl | ⟨⟨t, ht, a⟩, _⟩)
        · exact ⟨s, List.mem_cons_self .., hv, by show s.n = ((s.n.toNat : Nat) : Int); omega, rfl⟩
        · exact ⟨t, List.mem_cons_of_mem _ ht, a⟩
      · rintro ⟨t, ht, a, b, c⟩
        rcases List.mem_cons.1 ht with rfl | ht
        · left
          obtain ⟨ek, ev⟩ := e
          simp at b c ⊢
          exact ⟨by omega, c⟩
        · right
          refine ⟨⟨t, ht, a, b, c⟩, fun hk => h1 t ht ⟨hv.trans a.symm, ?_⟩⟩
          omega
    · rename_i hv
      rw [ih]
      constructor
      · rintro ⟨t, ht, a⟩; exact ⟨t, List.mem_cons_of_mem _ ht, a⟩
      · rintro ⟨t, ht, a, b⟩
        rcases List.mem_cons.1 ht with rfl | ht
        · exact absurd a hv
        · exact ⟨t, ht, a, b⟩

/-- The document's Get, Put, Drop and Forget. -/
def isN (v n : Int) (s : Sl) : Bool := decide (s.v = v) && decide (s.n = n)
def getS (L : List Sl) (v n : Int) : Option Sl := L.find? (isN v n)
def dropS (L : List Sl) (v n : Int) : List Sl := L.filter fun s => !isN v n s
def forgS (L : List Sl) (v : Int) : List Sl := L.filter fun s => decide (s.v ≠ v)
def sumS (L : List Sl) : Int := (L.map (·.b)).sum
/-- What stands of an index: its slices, how many were put. -/
structure Ix where
  L : List Sl
  c : Int
structure IxOk (u : Int) (x : Ix) : Prop where
  dis : Dis x.L
  ok : ∀ s ∈ x.L, SlOk u s
  up : x.L.Pairwise fun s t => s.c < t.c
  cnt : ∀ s ∈ x.L, 1 ≤ s.c ∧ s.c ≤ x.c
  c0 : 0 ≤ x.c
theorem isN_iff {v n : Int} {s : Sl} : isN v n s = true ↔ s.v = v ∧ s.n = n := by simp [isN]
theorem IxOk.n0 {u : Int} {x : Ix} (h : IxOk u x) : ∀ s ∈ x.L, 0 ≤ s.n := fun s hs => (h.ok s hs).2.2.1
theorem getS_none {L : List Sl} {v n : Int} : getS L v n = none ↔ ∀ s ∈ L, ¬ (s.v = v ∧ s.n = n) := by
  unfold getS
  rw [List.find?_eq_none]
  simp [isN]
theorem getS_some {L : List Sl} {v n : Int} {s : Sl} (h : getS L v n = some s) : s ∈ L ∧ s.v = v ∧ s.n = n :=
  ⟨List.mem_of_find?_eq_some h, isN_iff.1 (List.find?_some h)⟩
theorem dis_eq {L : List Sl} (hd : Dis L) {s t : Sl} (hs : s ∈ L) (ht : t ∈ L) (h : s.v = t.v ∧ s.n = t.n) : s = t := by
  induction L with
  | nil => cases hs
  | cons r L ih =>
    obtain ⟨h1, h2⟩ := List.pairwise_cons.1 hd
    rcases List.mem_cons.1 hs with e1 | e1 <;> rcases List.mem_cons.1 ht with e2 | e2
    · rw [e1, e2]
    · rw [e1] at h; exact absurd h (h1 t e2)
    · rw [e2] at h; exact absurd ⟨h.1.symm, h.2.symm⟩ (h1 s e1)
    · exact ih h2 e1 e2
/-- What a version's map tells of a number. -/
theorem get_items {u : Int} {x : Ix} (h : IxOk u x) (v n : Int) (hn : 0 ≤ n) : getL n.toNat (itemsOf x.L v) = (getS x.L v n).map fun s => ⟨s.b, s.c⟩ := by
  cases hg : getS x.L v n with
  | none =>
    rw [Option.map_none, getL_none']
    intro e he hk
    obtain ⟨s, hs, a, b, _⟩ := (mem_items h.dis h.n0 v e).1 he
    exact getS_none.1 hg s hs ⟨a, by omega⟩
  | some s =>
    obtain ⟨a, b, c⟩ := getS_some hg
    rw [Option.map_some, getL_some (items_up _ _), mem_items h.dis h.n0]
    exact ⟨s, a, b, by show s.n = ((n.toNat : Nat) : Int); omega, rfl⟩

def putS (x : Ix) (v n b : Int) : Ix := ⟨x.L ++ [⟨v, n, b, x.c + 1⟩], x.c + 1⟩
theorem IxOk.put {u : Int} {x : Ix} (h : IxOk u x) {v n b : Int} (hg : getS x.L v n = none) (hs : SlOk u ⟨v, n, b, x.c + 1⟩) : IxOk u (putS x v n b) := by
  have hd := getS_none.1 hg
  refine ⟨?_, ?_, ?_, ?_, ?_⟩
  · refine List.pairwise_append.2 ⟨h.dis, List.pairwise_singleton _ _, fun s hs t ht => ?_⟩
    simp at ht; subst ht
    exact hd s hs
  · intro s hs'
    rcases List.mem_append.1 hs' with a | a
    · exact h.ok s a
    · simp at a; subst a; exact hs
  · refine List.pairwise_append.2 ⟨h.up, List.pairwise_singleton _ _, fun s hs t ht => ?_⟩
    simp at ht; subst ht
    have := (h.cnt s hs).2
    show s.c < x.c + 1; omega
  · intro s hs'
    rcases List.mem_append.1 hs' with a | a
    · have := h.cnt s a; show _ ∧ s.c ≤ x.c + 1; omega
    · simp at a; subst a; have := h.c0; show 1 ≤ x.c + 1 ∧ x.c + 1 ≤ x.c + 1; omega
  · have := h.c0; show 0 ≤ x.c + 1; omega
theorem IxOk.filter {u : Int} {x : Ix} (h : IxOk u x) (p : Sl → Bool) : IxOk u ⟨x.L.filter p, x.c⟩ :=
  ⟨List.Pairwise.sublist List.filter_sublist h.dis, fun s hs => h.ok s (List.mem_filter.1 hs).1, List.Pairwise.sublist List.filter_sublist h.up, fun s hs => h.cnt s (List.mem_filter.1 hs).1, h.c0⟩
theorem items_put {u : Int} {x : Ix} (h : IxOk u x) {v n b : Int} (hg : getS x.L v n = none) (hs : SlOk u ⟨v, n, b, x.c + 1⟩) (v' : Int) :
    itemsOf (putS x v n b).L v' = if v' = v then putL n.toNat ⟨b, x.c + 1⟩ (itemsOf x.L v) else itemsOf x.L v' := by
  have h' := h.put hg hs
  have hn : 0 ≤ n := hs.2.2.1
  refine up_ext (items_up _ _) ?_ fun e => ?_
  · split
    · exact putL_up (items_up _ _)
    · exact items_up _ _
  · rw [mem_items h'.dis h'.n0]
    have hL : (putS x v n b).L = x.L ++ [⟨v, n, b, x.c + 1⟩] := rfl
    split
    · rename_i hv
      rw [mem_putL (items_up _ _), mem_items h.dis h.n0, hL, hv]
      constructor
      · rintro ⟨s, hs, a1, a2, a3⟩
        rcases List.mem_append.1 hs with a | a
        · refine .inr ⟨⟨s, a, a1, a2, a3⟩, fun hk => getS_none.1 hg s a ⟨a1, by omega⟩⟩
        · simp at a; subst a
          left
          obtain ⟨ek, ev⟩ := e
          simp at a2 a3 ⊢
          exact ⟨by omega, a3⟩
      · rintro (rfl | ⟨⟨s, a, b⟩, _⟩)
        · exact ⟨_, List.mem_append.2 (.inr (List.mem_cons_self ..)), rfl, by show n = ((n.toNat : Nat) : Int); omega, rfl⟩
        · exact ⟨s, List.mem_append.2 (.inl a), b⟩
    · rename_i hv
      rw [mem_items h.dis h.n0, hL]
      constructor
      · rintro ⟨s, hs, a1, a2⟩
        rcases List.mem_append.1 hs with a | a
        · exact ⟨s, a, a1, a2⟩
        · simp at a; subst a; exact absurd a1.symm hv
      · rintro ⟨s, a, b⟩
        exact ⟨s, List.mem_append.2 (.inl a), b⟩
theorem items_filter {u : Int} {x : Ix} (h : IxOk u x) (p : Sl → Bool) (v : Int) (e : Pr It) : e ∈ itemsOf (x.L.filter p) v ↔ ∃ s ∈ x.L, p s = true ∧ s.v = v ∧ s.n = e.k ∧ e.v = ⟨s.b, s.c⟩ := by
  have h' := h.filter p
  rw [mem_items h'.dis h'.n0]
  constructor
  · rintro ⟨s, hs, a⟩
    obtain ⟨b, c⟩ := List.mem_filter.1 hs
    exact ⟨s, b, c, a⟩
  · rintro ⟨s, b, c, a⟩
    exact ⟨s, List.mem_filter.2 ⟨b, c⟩, a⟩
theorem items_drop {u : Int} {x : Ix} (h : IxOk u x) (v n : Int) (hn : 0 ≤ n) (v' : Int) : itemsOf (dropS x.L v n) v' = if v' = v then dropL n.toNat (itemsOf x.L v) else itemsOf x.L v' := by
  refine up_ext (items_up _ _) ?_ fun e => ?_
  · split
    · exact dropL_up (items_up _ _)
    · exact items_up _ _
  · unfold dropS
    rw [items_filter h]
    split
    · rename_i hv
      rw [mem_dropL, mem_items h.dis h.n0, hv]
      constructor
      · rintro ⟨s, hs, a0, a1, a2, a3⟩
        refine ⟨⟨s, hs, a1, a2, a3⟩, fun hk => ?_⟩
        rw [isN_iff.2 ⟨a1, by omega⟩] at a0
        cases a0
      · rintro ⟨⟨s, hs, a1, a2, a3⟩, hk⟩
        refine ⟨s, hs, ?_, a1, a2, a3⟩
        cases hq : isN v n s with
        | false => rfl
        | true => have := isN_iff.1 hq; omega
    · rename_i hv
      rw [mem_items h.dis h.n0]
      constructor
      · rintro ⟨s, hs, a0, a1⟩; exact ⟨s, hs, a1⟩
      · rintro ⟨s, hs, a1, a2⟩
        refine ⟨s, hs, ?_, a1, a2⟩
        cases hq : isN v n s with
        | false => rfl
        | true => have := isN_iff.1 hq; exact absurd (a1.symm.trans this.1) hv
theorem items_forget {u : Int} {x : Ix} (h : IxOk u x) (v v' : Int) : itemsOf (forgS x.L v) v' = if v' = v then [] else itemsOf x.L v' := by
  refine up_ext (items_up _ _) ?_ fun e => ?_
  · split
    · exact List.Pairwise.nil
    · exact items_up _ _
  · unfold forgS
    rw [items_filter h]
    split
    · rename_i hv
      constructor
      · rintro ⟨s, hs, a0, a1, _⟩; simp at a0; exact absurd (a1.trans hv) a0
      · intro hh; cases hh
    · rename_i hv
      rw [mem_items h.dis h.n0]
      constructor
      · rintro ⟨s, hs, a0, a1⟩; exact ⟨s, hs, a1⟩
      · rintro ⟨s, hs, a1, a2⟩
        exact ⟨s, hs, by simp; exact fun e => hv (a1.symm.trans e), a1, a2⟩

/-- The slices of a version, as their list has them, are those of its map. -/
theorem items_perm {L : List Sl} (hd : Dis L) (hn : ∀ s ∈ L, 0 ≤ s.n) (v : Int) : (itemsOf L v).Perm ((L.filter fun s => decide (s.v = v)).map fun s => ⟨s.n.toNat, s.b, s.c⟩) := by
  induction L with
  | nil => exact List.Perm.refl _
  | cons s L ih =>
    obtain ⟨h1, h2⟩ := List.pairwise_cons.1 hd
    have hn' : ∀ s ∈ L, 0 ≤ s.n := fun s hs => hn s (List.mem_cons_of_mem _ hs)
    have ih := ih h2 hn'
    have h0 := hn s (List.mem_cons_self ..)
    unfold itemsOf
    by_cases hv : s.v = v
    · rw [if_pos hv, List.filter_cons_of_pos (by simpa using hv), List.map_cons]
      refine (putL_perm (items_up _ _) fun e he hk => ?_).trans (ih.cons _)
      obtain ⟨t, ht, a, b, _⟩ := (mem_items h2 hn' v e).1 he
      exact h1 t ht ⟨hv.trans a.symm, by omega⟩
    · rw [if_neg hv, List.filter_cons_of_neg (by simpa using hv)]
      exact ih
theorem sum_perm {l m : List Int} (h : l.Perm m) : l.sum = m.sum := by
  induction h with
  | nil => rfl
  | cons x _ ih => simp [ih]
  | swap x y l => simp; omega
  | trans _ _ h1 h2 => exact h1.trans h2
theorem sum_items {L : List Sl} (hd : Dis L) (hn : ∀ s ∈ L, 0 ≤ s.n) (v : Int) : ((itemsOf L v).map (·.v.b)).sum = sumS (L.filter fun s => decide (s.v = v)) := by
  rw [sum_perm ((items_perm hd hn v).map (·.v.b)), List.map_map]
  rfl
theorem sum_split (L : List Sl) (p : Sl → Bool) : sumS L = sumS (L.filter p) + sumS (L.filter fun s => !p s) := by
  induction L with
  | nil => rfl
  | cons s L ih =>
    unfold sumS at ih ⊢
    cases h : p s <;> simp [h] <;> omega
theorem sumS_append (L M : List Sl) : sumS (L ++ M) = sumS L + sumS M := by simp [sumS]

/-- The map of counts. -/
def cntOf (L : List Sl) : List (Pr Nm) := L.map fun s => ⟨s.c.toNat, s.v, s.n⟩
theorem cnt_put {u : Int} {x : Ix} (h : IxOk u x) (v n b : Int) : cntOf (putS x v n b).L = putL (x.c + 1).toNat ⟨v, n⟩ (cntOf x.L) := by
  have h1 : ∀ r ∈ cntOf x.L, r.k < (x.c + 1).toNat := by
    intro r hr
    obtain ⟨s, hs, rfl⟩ := List.mem_map.1 hr
    have := h.cnt s hs
    show s.c.toNat < _; omega
  have := putL_below (k := (x.c + 1).toNat) (v := (⟨v, n⟩ : Nm)) (l := cntOf x.L) (m := []) h1
  rw [List.append_nil] at this
  rw [this]
  simp [cntOf, putS, putL, putGo]
theorem cnt_eq {u : Int} {x : Ix} (h : IxOk u x) {s t : Sl} (hs : s ∈ x.L) (ht : t ∈ x.L) (hc : s.c = t.c) : s = t := by
  have hu := h.up
  clear h
  generalize x.L = L at *
  induction L with
  | nil => cases hs
  | cons r L ih =>
    obtain ⟨h1, h2⟩ := List.pairwise_cons.1 hu
    rcases List.mem_cons.1 hs with e1 | e1 <;> rcases List.mem_cons.1 ht with e2 | e2
    · rw [e1, e2]
    · have := h1 _ e2; rw [← e1] at this; omega
    · have := h1 _ e1; rw [← e2] at this; omega
    · exact ih e1 e2 h2
/-- Counts that go, one by one. -/
def dropAll {V : Type} (ks : List Nat) (l : List (Pr V)) : List (Pr V) := ks.foldl (fun l k => dropL k l) l
theorem dropAll_eq {V : Type} (ks : List Nat) (l : List (Pr V)) : dropAll ks l = l.filter fun e => decide (e.k ∉ ks) := by
  induction ks generalizing l with
  | nil => simp only [dropAll, List.foldl_nil, List.not_mem_nil, not_false_eq_true, decide_true]; exact (List.filter_eq_self.2 fun _ _ => rfl).symm
  | cons k ks ih =>
    have h1 : dropAll (k :: ks) l = dropAll ks (dropL k l) := rfl
    rw [h1, ih, dropL, List.filter_filter]
    congr 1
    funext e
    simp only [List.mem_cons, not_or]
    by_cases h1 : e.k = k <;> by_cases h2 : e.k ∈ ks <;> simp [h1, h2]
theorem cnt_drop {u : Int} {x : Ix} (h : IxOk u x) {v n : Int} {s : Sl} (hg : getS x.L v n = some s) : cntOf (dropS x.L v n) = dropL s.c.toNat (cntOf x.L) := by
  obtain ⟨g1, g2, g3⟩ := getS_some hg
  unfold cntOf dropS dropL
  rw [List.filter_map]
  congr 1
  refine List.filter_congr fun t ht => ?_
  have c1 := h.cnt s g1
  have c2 := h.cnt t ht
  show (!isN v n t) = decide (t.c.toNat ≠ s.c.toNat)
  cases hq : isN v n t with
  | true =>
    have e := isN_iff.1 hq
    have := dis_eq h.dis ht g1 ⟨by omega, by omega⟩
    subst this
    simp
  | false =>
    have hne : t.c ≠ s.c := fun e => by
      have := cnt_eq h ht g1 e
      subst this
      rw [isN_iff.2 ⟨g2, g3⟩] at hq
      cases hq
    simp; omega
theorem cnt_forget {u : Int} {x : Ix} (h : IxOk u x) (v : Int) : cntOf (forgS x.L v) = dropAll ((itemsOf x.L v).map (·.v.c.toNat)) (cntOf x.L) := by
  rw [dropAll_eq]
  unfold cntOf forgS
  rw [List.filter_map]
  congr 1
  refine List.filter_congr fun t ht => ?_
  have c2 := h.cnt t ht
  show decide (t.v ≠ v) = decide (t.c.toNat ∉ (itemsOf x.L v).map (·.v.c.toNat))
  rw [decide_eq_decide]
  constructor
  · intro hv hm
    obtain ⟨e, he, hk⟩ := List.mem_map.1 hm
    obtain ⟨s, hs, a1, a2, a3⟩ := (mem_items h.dis h.n0 v e).1 he
    have c1 := h.cnt s hs
    rw [a3] at hk
    dsimp only at hk
    have := cnt_eq h hs ht (by omega)
    subst this
    exact hv a1
  · intro hm hv
    refine hm (List.mem_map.2 ⟨⟨t.n.toNat, t.b, t.c⟩, ?_, rfl⟩)
    have := h.n0 t ht
    exact (mem_items h.dis h.n0 v _).2 ⟨t, ht, hv, by show t.n = ((t.n.toNat : Nat) : Int); omega, rfl⟩
theorem items_nil {L : List Sl} (hd : Dis L) (hn : ∀ s ∈ L, 0 ≤ s.n) (v : Int) : itemsOf L v = [] ↔ ∀ s ∈ L, s.v ≠ v := by
  constructor
  · intro h s hs hv
    have hn0 := hn s hs
    have : (⟨s.n.toNat, s.b, s.c⟩ : Pr It) ∈ itemsOf L v := (mem_items hd hn v _).2 ⟨s, hs, hv, by show s.n = ((s.n.toNat : Nat) : Int); omega, rfl⟩
    rw [h] at this; cases this
  · intro h
    cases hi : itemsOf L v with
    | nil => rfl
    | cons e l =>
      obtain ⟨s, hs, a, _⟩ := (mem_items hd hn v e).1 (by rw [hi]; exact List.mem_cons_self ..)
      exact absurd a (h s hs)
theorem putL_len {V : Type} {k : Nat} {x : V} {l : List (Pr V)} (h : Up l) : (putL k x l).length ≤ l.length + 1 := by
  induction l with
  | nil => simp [putL, putGo]
  | cons r l ih =>
    obtain ⟨h1, h2⟩ := List.pairwise_cons.1 h
    have ih := ih h2
    rcases Nat.lt_trichotomy r.k k with hlt | heq | hgt
    · rw [putL_lt hlt]; simp; omega
    · rw [putL_eq h heq]; simp
    · rw [putL_gt h hgt]; simp
theorem items_len (L : List Sl) (v : Int) : (itemsOf L v).length ≤ L.length := by
  induction L with
  | nil => simp [itemsOf]
  | cons s L ih =>
    unfold itemsOf
    split
    · have := putL_len (k := s.n.toNat) (x := (⟨s.b, s.c⟩ : It)) (items_up L v)
      simp; omega
    · simp; omega
end Go.Proofs.YtgcplndmhlideaaGreat
