/- A radix tree of numbers, in plain Lean: what is put, dropped and told. -/
namespace Go.Proofs.YtgcplndmhlideaaGreat

/-- A number, and what it is mapped to. -/
structure Pr (V : Type) where
  k : Nat
  v : V

/-- A number that is mapped, or a bit at which numbers part: p is what its numbers have above it. -/
inductive Nd (V : Type) where
  | leaf (k : Nat) (v : V)
  | br (p b : Nat) (z o : Nd V)

section
variable {V : Type}

namespace Nd
def toL : (Nd V) → List (Pr V)
  | leaf k v => [⟨k, v⟩]
  | br _ _ z o => z.toL ++ o.toL
def many : (Nd V) → Nat
  | leaf _ _ => 1
  | br _ _ z o => z.many + o.many
def depth : (Nd V) → Nat
  | leaf _ _ => 0
  | br _ _ z o => 1 + max z.depth o.depth
/-- The number that a node bears. -/
def key : (Nd V) → Nat
  | leaf k _ => k
  | br p b _ _ => p * 2 ^ (b + 1)
/-- The numbers of each side have what the node says. -/
def WF : (Nd V) → Prop
  | leaf k _ => k < 2 ^ 64
  | br p b z o => b < 64 ∧ z.WF ∧ o.WF ∧ (∀ e ∈ z.toL, e.k / 2 ^ b = 2 * p) ∧ (∀ e ∈ o.toL, e.k / 2 ^ b = 2 * p + 1)
/-- The node of a bit above a number and a node. -/
def join (k : Nat) (v : V) (b : Nat) (n : (Nd V)) : (Nd V) :=
  if k / 2 ^ b % 2 = 0 then br (k / 2 ^ b / 2) b (leaf k v) n else br (k / 2 ^ b / 2) b n (leaf k v)
def put (k : Nat) (v : V) : (Nd V) → (Nd V)
  | leaf k' v' => if k' = k then leaf k v else join k v (k ^^^ k').log2 (leaf k' v')
  | br p b z o =>
    if k / 2 ^ b / 2 = p then (if k / 2 ^ b % 2 = 0 then br p b (put k v z) o else br p b z (put k v o))
    else join k v (k ^^^ (p * 2 ^ (b + 1))).log2 (br p b z o)
def drop (k : Nat) : (Nd V) → Option (Nd V)
  | leaf k' v' => if k' = k then none else some (leaf k' v')
  | br p b z o =>
    if k / 2 ^ b / 2 = p then
      if k / 2 ^ b % 2 = 0 then (match z.drop k with | none => some o | some z' => some (br p b z' o))
      else (match o.drop k with | none => some z | some o' => some (br p b z o'))
    else some (br p b z o)

theorem many_eq (t : (Nd V)) : t.many = t.toL.length := by
  induction t with
  | leaf => rfl
  | br p b z o hz ho => simp [many, toL, hz, ho]
theorem toL_ne (t : (Nd V)) : t.toL ≠ [] := by
  induction t with
  | leaf => simp [toL]
  | br p b z o hz ho => simp [toL, hz]
end Nd

theorem xor0 {a b : Nat} (h : a ^^^ b = 0) : a = b := by
  have := congrArg (· ^^^ b) h
  simpa [Nat.xor_assoc] using this
theorem xor_parts {a b : Nat} (h : a ≠ b) : a / 2 ^ ((a ^^^ b).log2 + 1) = b / 2 ^ ((a ^^^ b).log2 + 1) ∧ a / 2 ^ (a ^^^ b).log2 ≠ b / 2 ^ (a ^^^ b).log2 := by
  have hx : a ^^^ b ≠ 0 := fun e => h (xor0 e)
  generalize hm : (a ^^^ b).log2 = m
  have h1 : 2 ^ m ≤ a ^^^ b := (Nat.le_log2 hx).1 (by omega)
  have h2 : a ^^^ b < 2 ^ (m + 1) := (Nat.log2_lt hx).1 (by omega)
  constructor
  · have : (a ^^^ b) >>> (m + 1) = 0 := by rw [Nat.shiftRight_eq_div_pow]; exact Nat.div_eq_of_lt h2
    rw [Nat.shiftRight_xor_distrib] at this
    have := xor0 this
    rwa [Nat.shiftRight_eq_div_pow, Nat.shiftRight_eq_div_pow] at this
  · intro e
    have : (a ^^^ b) >>> m = 0 := by
      rw [Nat.shiftRight_xor_distrib, Nat.shiftRight_eq_div_pow, Nat.shiftRight_eq_div_pow, e, Nat.xor_self]
    rw [Nat.shiftRight_eq_div_pow] at this
    have := (Nat.div_eq_zero_iff).1 this
    rcases this with h0 | h0
    · have := Nat.two_pow_pos m; omega
    · omega
theorem xor_unique {a b m : Nat} (h1 : a / 2 ^ (m + 1) = b / 2 ^ (m + 1)) (h2 : a / 2 ^ m ≠ b / 2 ^ m) : (a ^^^ b).log2 = m := by
  have hne : a ≠ b := fun e => h2 (by rw [e])
  have hx : a ^^^ b ≠ 0 := fun e => hne (xor0 e)
  have l2 : a ^^^ b < 2 ^ (m + 1) := by
    have : (a ^^^ b) >>> (m + 1) = 0 := by
      rw [Nat.shiftRight_xor_distrib, Nat.shiftRight_eq_div_pow, Nat.shiftRight_eq_div_pow, h1, Nat.xor_self]
    rw [Nat.shiftRight_eq_div_pow] at this
    have hp := Nat.two_pow_pos (m + 1)
    rcases Nat.div_eq_zero_iff.1 this with h0 | h0
    · omega
    · exact h0
  have l1 : 2 ^ m ≤ a ^^^ b := by
    apply Nat.le_of_not_lt
    intro hlt
    apply h2
    have : (a ^^^ b) >>> m = 0 := by rw [Nat.shiftRight_eq_div_pow]; exact Nat.div_eq_of_lt hlt
    rw [Nat.shiftRight_xor_distrib] at this
    have := xor0 this
    rwa [Nat.shiftRight_eq_div_pow, Nat.shiftRight_eq_div_pow] at this
  have := (Nat.le_log2 hx).2 l1
  have := (Nat.log2_lt hx).2 l2
  omega
theorem div_succ (a m : Nat) : a / 2 ^ (m + 1) = a / 2 ^ m / 2 := by rw [Nat.pow_succ, Nat.div_div_eq_div_mul]

/-- What lies in one part of a higher bit lies in one part of it. -/
theorem div_le {a b m n : Nat} (hmn : m ≤ n) (h : a / 2 ^ m = b / 2 ^ m) : a / 2 ^ n = b / 2 ^ n := by
  obtain ⟨d, rfl⟩ := Nat.le.dest hmn
  rw [Nat.pow_add, ← Nat.div_div_eq_div_mul, ← Nat.div_div_eq_div_mul, h]

/-- Rising. -/
def Up (l : List (Pr V)) : Prop := l.Pairwise fun a b => a.k < b.k
theorem lt_of_div {a b m : Nat} (h : a / 2 ^ m < b / 2 ^ m) : a < b := by
  apply Nat.lt_of_not_le
  intro hle
  have := Nat.div_le_div_right (c := 2 ^ m) hle
  omega
theorem Nd.up {t : (Nd V)} (h : t.WF) : Up t.toL := by
  induction t with
  | leaf => simp [Up, toL]
  | br p b z o hz ho =>
    obtain ⟨_, h1, h2, h3, h4⟩ := h
    refine List.pairwise_append.2 ⟨hz h1, ho h2, fun x hx y hy => lt_of_div (m := b) ?_⟩
    rw [h3 x hx, h4 y hy]; omega

/-- The reference's Put and Drop. -/
def putGo (k : Nat) (v : V) : Bool → List (Pr V) → List (Pr V)
  | done, [] => if done then [] else [⟨k, v⟩]
  | done, r :: l => (if decide (k ≤ r.k) && !done then [⟨k, v⟩] else []) ++ (if r.k ≠ k then [r] else []) ++ putGo k v (done || decide (k ≤ r.k)) l
def putL (k : Nat) (v : V) (l : List (Pr V)) : List (Pr V) := putGo k v false l
def dropL (k : Nat) (l : List (Pr V)) : List (Pr V) := l.filter fun r => decide (r.k ≠ k)

theorem putGo_true {k : Nat} {v : V} {l : List (Pr V)} (h : ∀ r ∈ l, k < r.k) : putGo k v true l = l := by
  induction l with
  | nil => rfl
  | cons r l ih =>
    have hr := h r (by simp)
    have hne : r.k ≠ k := by omega
    simp [putGo, hne, ih (fun x hx => h x (by simp [hx]))]
theorem putGo_mem {k : Nat} {v : V} {d : Bool} {l : List (Pr V)} {e : (Pr V)} (h : e ∈ putGo k v d l) : e = ⟨k, v⟩ ∨ e ∈ l := by
  induction l generalizing d with
  | nil => cases d <;> simp [putGo] at h; exact .inl h
  | cons r l ih =>
    simp only [putGo, List.mem_append] at h
    rcases h with (h | h) | h
    · split at h
      · simp at h; exact .inl h
      · simp at h
    · split at h
      · simp at h; exact .inr (by simp [h])
      · simp at h
    · rcases ih h with h | h
      · exact .inl h
      · exact .inr (by simp [h])
theorem putL_mem {k : Nat} {v : V} {l : List (Pr V)} {e : (Pr V)} (h : e ∈ putL k v l) : e = ⟨k, v⟩ ∨ e ∈ l := putGo_mem h
theorem putL_above {k : Nat} {v : V} {l : List (Pr V)} (h : ∀ r ∈ l, k < r.k) : putL k v l = ⟨k, v⟩ :: l := by
  cases l with
  | nil => rfl
  | cons r l =>
    have hr := h r (by simp)
    have hne : r.k ≠ k := by omega
    have hle : k ≤ r.k := by omega
    have e := putGo_true (k := k) (v := v) (l := l) (fun x hx => h x (by simp [hx]))
    simp [putL, putGo, hne, hle, e]
theorem putL_below {k : Nat} {v : V} {l m : List (Pr V)} (h : ∀ r ∈ l, r.k < k) : putL k v (l ++ m) = l ++ putL k v m := by
  induction l with
  | nil => rfl
  | cons r l ih =>
    have hr := h r (by simp)
    have hne : r.k ≠ k := by omega
    have hle : ¬ k ≤ r.k := by omega
    have := ih (fun x hx => h x (by simp [hx]))
    simp only [putL] at this ⊢
    simp [putGo, hne, hle, this]
theorem putL_first {k : Nat} {v : V} {l m : List (Pr V)} (hl : Up l) (hm : ∀ r ∈ m, k < r.k) : putL k v (l ++ m) = putL k v l ++ m := by
  induction l with
  | nil => rw [List.nil_append, putL_above hm]; rfl
  | cons r l ih =>
    have hu := List.pairwise_cons.1 hl
    by_cases hlt : r.k < k
    · have e1 := putL_below (k := k) (v := v) (l := [r]) (m := l) (by simpa using hlt)
      have e2 := putL_below (k := k) (v := v) (l := [r]) (m := l ++ m) (by simpa using hlt)
      rw [List.singleton_append] at e1 e2
      rw [List.cons_append, e2, e1, ih hu.2]; simp
    · have ha : ∀ x ∈ l ++ m, k < x.k := by
        intro x hx
        rcases List.mem_append.1 hx with hx | hx
        · have := hu.1 x hx; omega
        · exact hm x hx
      have ha' : ∀ x ∈ l, k < x.k := fun x hx => ha x (by simp [hx])
      have hle : k ≤ r.k := by omega
      by_cases hne : r.k = k
      · simp [putL, putGo, hne, putGo_true ha, putGo_true ha']
      · simp [putL, putGo, hne, hle, putGo_true ha, putGo_true ha']

/-- All of a node's numbers lie in the part of its key that its bit leaves. -/
def Nd.bits : (Nd V) → Nat
  | .leaf _ _ => 0
  | .br _ b _ _ => b + 1
theorem Nd.near {t : (Nd V)} (h : t.WF) : ∀ e ∈ t.toL, e.k / 2 ^ t.bits = t.key / 2 ^ t.bits := by
  cases t with
  | leaf k v => intro e he; simp [toL] at he; subst he; rfl
  | br p b z o =>
    obtain ⟨_, h1, h2, h3, h4⟩ := h
    intro e he
    have hk : p * 2 ^ (b + 1) / 2 ^ (b + 1) = p := Nat.mul_div_cancel _ (Nat.two_pow_pos _)
    show e.k / 2 ^ (b + 1) = p * 2 ^ (b + 1) / 2 ^ (b + 1)
    rw [hk, div_succ]
    rcases List.mem_append.1 he with he | he
    · rw [h3 e he]; omega
    · rw [h4 e he]; omega
theorem Nd.low {t : (Nd V)} (h : t.WF) : ∀ e ∈ t.toL, e.k < 2 ^ 64 := by
  induction t with
  | leaf k v => intro e he; simp [toL] at he; subst he; exact h
  | br p b z o hz ho =>
    obtain ⟨_, h1, h2, _, _⟩ := h
    intro e he
    rcases List.mem_append.1 he with he | he
    · exact hz h1 e he
    · exact ho h2 e he

/-- A number beside a node: the node of the bit at which they part. -/
theorem join_ok {k : Nat} {v : V} {t : (Nd V)} (hk : k < 2 ^ 64) (hkey : t.key < 2 ^ 64) (h : t.WF) (hne : k / 2 ^ t.bits ≠ t.key / 2 ^ t.bits) :
    (Nd.join k v (k ^^^ t.key).log2 t).WF ∧ (Nd.join k v (k ^^^ t.key).log2 t).toL = putL k v t.toL := by
  have hn : k ≠ t.key := fun e => hne (by rw [e])
  obtain ⟨x1, x2⟩ := xor_parts hn
  have hx : k ^^^ t.key ≠ 0 := fun e => hn (xor0 e)
  have hlt : k ^^^ t.key < 2 ^ 64 := Nat.xor_lt_two_pow hk hkey
  have hm64 : (k ^^^ t.key).log2 < 64 := (Nat.log2_lt hx).2 hlt
  generalize (k ^^^ t.key).log2 = m at *
  have hbm : t.bits ≤ m := by
    apply Nat.le_of_not_lt
    intro hlt
    exact hne (div_le (by omega) x1)
  have hnear : ∀ e ∈ t.toL, e.k / 2 ^ m = t.key / 2 ^ m := fun e he => div_le hbm (Nd.near h e he)
  rw [div_succ, div_succ] at x1
  unfold Nd.join
  split
  · rename_i h0
    have hlow : ∀ e ∈ t.toL, k < e.k := fun e he => lt_of_div (m := m) (by rw [hnear e he]; omega)
    refine ⟨⟨hm64, hk, h, ?_, ?_⟩, ?_⟩
    · intro e he; simp [Nd.toL] at he; subst he; show k / 2 ^ m = _; omega
    · intro e he; rw [hnear e he]; omega
    · rw [putL_above hlow]; rfl
  · rename_i h0
    have hhigh : ∀ e ∈ t.toL, e.k < k := fun e he => lt_of_div (m := m) (by rw [hnear e he]; omega)
    refine ⟨⟨hm64, h, hk, ?_, ?_⟩, ?_⟩
    · intro e he; rw [hnear e he]; omega
    · intro e he; simp [Nd.toL] at he; subst he; show k / 2 ^ m = _; omega
    · have := putL_below (k := k) (v := v) (l := t.toL) (m := []) hhigh
      rw [List.append_nil] at this
      rw [this]; rfl

theorem key_low {p b : Nat} {z o : (Nd V)} (h : (Nd.br p b z o).WF) : (Nd.br p b z o).key < 2 ^ 64 := by
  obtain ⟨e, he⟩ := List.exists_mem_of_ne_nil _ (Nd.toL_ne (.br p b z o))
  have h1 := Nd.near h e he
  have h2 := Nd.low h e he
  show p * 2 ^ (b + 1) < 2 ^ 64
  have hk : p * 2 ^ (b + 1) / 2 ^ (b + 1) = p := Nat.mul_div_cancel _ (Nat.two_pow_pos _)
  have h3 : e.k / 2 ^ (b + 1) = p := h1.trans hk
  have := Nat.div_mul_le_self e.k (2 ^ (b + 1))
  rw [h3] at this
  omega

theorem put_ok {k : Nat} {v : V} (hk : k < 2 ^ 64) {t : (Nd V)} (h : t.WF) : (t.put k v).WF ∧ (t.put k v).toL = putL k v t.toL := by
  induction t with
  | leaf k' v' =>
    by_cases he : k' = k
    · subst he; simp [Nd.put, Nd.WF, Nd.toL, putL, putGo]; exact hk
    · have := join_ok (v := v) hk (t := .leaf k' v') h h (by simp [Nd.bits, Nd.key]; omega)
      simpa [Nd.put, he, Nd.key] using this
  | br p b z o hz ho =>
    have hh := h
    obtain ⟨h0, h1, h2, h3, h4⟩ := h
    by_cases hp : k / 2 ^ b / 2 = p
    · by_cases h5 : k / 2 ^ b % 2 = 0
      · obtain ⟨w1, w2⟩ := hz h1
        have hkb : k / 2 ^ b = 2 * p := by omega
        have hlow : ∀ e ∈ o.toL, k < e.k := fun e he => lt_of_div (m := b) (by rw [h4 e he]; omega)
        simp only [Nd.put, hp, h5, if_true]
        refine ⟨⟨h0, w1, h2, ?_, h4⟩, ?_⟩
        · intro e he
          rw [w2] at he
          rcases putL_mem he with he | he
          · rw [he]; exact hkb
          · exact h3 e he
        · show (z.put k v).toL ++ o.toL = _
          rw [w2, ← putL_first (Nd.up h1) hlow]; rfl
      · obtain ⟨w1, w2⟩ := ho h2
        have hkb : k / 2 ^ b = 2 * p + 1 := by omega
        have hhigh : ∀ e ∈ z.toL, e.k < k := fun e he => lt_of_div (m := b) (by rw [h3 e he]; omega)
        simp only [Nd.put, hp, h5, if_true, if_false]
        refine ⟨⟨h0, h1, w1, h3, ?_⟩, ?_⟩
        · intro e he
          rw [w2] at he
          rcases putL_mem he with he | he
          · rw [he]; exact hkb
          · exact h4 e he
        · show z.toL ++ (o.put k v).toL = _
          rw [w2, ← putL_below hhigh]; rfl
    · have hb : (Nd.br p b z o).bits = b + 1 := rfl
      have hky : (Nd.br p b z o).key = p * 2 ^ (b + 1) := rfl
      have := join_ok (v := v) hk (t := .br p b z o) (key_low hh) hh (by rw [hb, hky, Nat.mul_div_cancel _ (Nat.two_pow_pos _), div_succ]; exact hp)
      simpa [Nd.put, hp, hky] using this

theorem dropL_none {k : Nat} {l : List (Pr V)} (h : ∀ e ∈ l, e.k ≠ k) : dropL k l = l := by
  unfold dropL
  rw [List.filter_eq_self]
  intro e he
  simpa using h e he
theorem dropL_append (k : Nat) (l m : List (Pr V)) : dropL k (l ++ m) = dropL k l ++ dropL k m := by simp [dropL]

def Nd.oL : Option (Nd V) → List (Pr V)
  | none => []
  | some t => t.toL
def Nd.oWF : Option (Nd V) → Prop
  | none => True
  | some t => t.WF
theorem drop_ok {k : Nat} {t : (Nd V)} (h : t.WF) : Nd.oWF (t.drop k) ∧ Nd.oL (t.drop k) = dropL k t.toL := by
  induction t with
  | leaf k' v' =>
    by_cases he : k' = k
    · simp [Nd.drop, he, Nd.oWF, Nd.oL, Nd.toL, dropL]
    · simp [Nd.drop, he, Nd.oWF, Nd.oL, Nd.toL, dropL]; exact h
  | br p b z o hz ho =>
    have hh := h
    obtain ⟨h0, h1, h2, h3, h4⟩ := h
    by_cases hp : k / 2 ^ b / 2 = p
    · by_cases h5 : k / 2 ^ b % 2 = 0
      · obtain ⟨w1, w2⟩ := hz h1
        have ho' : dropL k o.toL = o.toL := dropL_none (fun e he hk => by have := h4 e he; rw [hk] at this; omega)
        have hL : (Nd.br p b z o).toL = z.toL ++ o.toL := rfl
        simp only [Nd.drop, hp, h5, if_true]
        rw [hL, dropL_append, ho', ← w2]
        cases hd : z.drop k with
        | none => exact ⟨h2, rfl⟩
        | some z' =>
          rw [hd] at w1 w2
          refine ⟨⟨h0, w1, h2, fun e he => h3 e ?_, h4⟩, rfl⟩
          have : e ∈ dropL k z.toL := by rw [← w2]; exact he
          exact (List.mem_filter.1 this).1
      · obtain ⟨w1, w2⟩ := ho h2
        have hz' : dropL k z.toL = z.toL := dropL_none (fun e he hk => by have := h3 e he; rw [hk] at this; omega)
        have hL : (Nd.br p b z o).toL = z.toL ++ o.toL := rfl
        simp only [Nd.drop, hp, h5, if_true, if_false]
        rw [hL, dropL_append, hz', ← w2]
        cases hd : o.drop k with
        | none => exact ⟨h1, by simp [Nd.oL]⟩
        | some o' =>
          rw [hd] at w1 w2
          refine ⟨⟨h0, h1, w1, h3, fun e he => h4 e ?_⟩, rfl⟩
          have : e ∈ dropL k o.toL := by rw [← w2]; exact he
          exact (List.mem_filter.1 this).1
    · have hn : dropL k (Nd.br p b z o).toL = (Nd.br p b z o).toL := dropL_none (fun e he hk => by
        have hnear := Nd.near hh e he
        have hb : (Nd.br p b z o).bits = b + 1 := rfl
        have hky : (Nd.br p b z o).key = p * 2 ^ (b + 1) := rfl
        rw [hb, hky, Nat.mul_div_cancel _ (Nat.two_pow_pos _), hk, div_succ] at hnear
        exact hp hnear)
      simp only [Nd.drop, hp, if_false]
      exact ⟨hh, hn.symm⟩

/-- The pairs from a number on: the reference's From. -/
def fromL (k : Nat) (l : List (Pr V)) : List (Pr V) := l.filter fun r => decide (k ≤ r.k)
/-- What a walk from a number on meets. -/
def Nd.from (k : Nat) : (Nd V) → List (Pr V)
  | .leaf k' v' => if k' < k then [] else [⟨k', v'⟩]
  | .br p b z o => if p < k / 2 ^ b / 2 then [] else z.from k ++ o.from k
theorem fromL_append (k : Nat) (l m : List (Pr V)) : fromL k (l ++ m) = fromL k l ++ fromL k m := by simp [fromL]
theorem from_ok {k : Nat} {t : (Nd V)} (h : t.WF) : t.from k = fromL k t.toL := by
  induction t with
  | leaf k' v' =>
    by_cases he : k' < k
    · have : ¬ k ≤ k' := by omega
      simp [Nd.from, Nd.toL, fromL, he, this]
    · have : k ≤ k' := by omega
      simp [Nd.from, Nd.toL, fromL, he, this]
  | br p b z o hz ho =>
    have hh := h
    obtain ⟨h0, h1, h2, h3, h4⟩ := h
    have hL : (Nd.br p b z o).toL = z.toL ++ o.toL := rfl
    by_cases hp : p < k / 2 ^ b / 2
    · have hn : fromL k (Nd.br p b z o).toL = [] := by
        unfold fromL
        rw [List.filter_eq_nil_iff]
        intro e he
        have hnear := Nd.near hh e he
        have hb : (Nd.br p b z o).bits = b + 1 := rfl
        have hky : (Nd.br p b z o).key = p * 2 ^ (b + 1) := rfl
        rw [hb, hky, Nat.mul_div_cancel _ (Nat.two_pow_pos _)] at hnear
        have : e.k < k := lt_of_div (m := b + 1) (by rw [hnear, div_succ]; exact hp)
        simp; omega
      rw [hn]; simp [Nd.from, hp]
    · rw [hL, fromL_append, ← hz h1, ← ho h2]; simp [Nd.from, hp]

/-- Get goes down by the bits alone. -/
def Nd.get (k : Nat) : (Nd V) → Option V
  | .leaf k' v' => if k' = k then some v' else none
  | .br _ b z o => if k / 2 ^ b % 2 = 0 then z.get k else o.get k
def getL (k : Nat) (l : List (Pr V)) : Option V := (l.find? fun r => decide (r.k = k)).map (·.v)
theorem getL_append (k : Nat) (l m : List (Pr V)) : getL k (l ++ m) = (getL k l).or (getL k m) := by
  unfold getL
  rw [List.find?_append]
  cases l.find? fun r => decide (r.k = k) <;> rfl
theorem getL_none {k : Nat} {l : List (Pr V)} (h : ∀ e ∈ l, e.k ≠ k) : getL k l = none := by
  unfold getL
  rw [List.find?_eq_none.2 (fun e he => by simpa using h e he)]; rfl
theorem get_ok {k : Nat} {t : (Nd V)} (h : t.WF) : t.get k = getL k t.toL := by
  induction t with
  | leaf k' v' => by_cases he : k' = k <;> simp [Nd.get, Nd.toL, getL, he]
  | br p b z o hz ho =>
    obtain ⟨h0, h1, h2, h3, h4⟩ := h
    have hL : (Nd.br p b z o).toL = z.toL ++ o.toL := rfl
    rw [hL, getL_append]
    by_cases h5 : k / 2 ^ b % 2 = 0
    · have hn : getL k o.toL = none := getL_none (fun e he hk => by have := h4 e he; rw [hk] at this; omega)
      rw [hn, ← hz h1]; simp [Nd.get, h5]
    · have hn : getL k z.toL = none := getL_none (fun e he hk => by have := h3 e he; rw [hk] at this; omega)
      rw [hn, ← ho h2]; simp [Nd.get, h5]
end
end Go.Proofs.YtgcplndmhlideaaGreat
