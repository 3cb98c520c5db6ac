/- The reference's sets by their ends: plain. -/
import Derived.Test.YtgcplndmhlideaaGreatGath
namespace Go.Proofs.YtgcplndmhlideaaGreat

def Strict (l : List Int) : Prop := l.Pairwise (· < ·)
theorem strict_lt {E : List Int} (h : Strict E) {i j : Nat} (hij : i < j) (hj : j < E.length) : E[i] < E[j] := List.pairwise_iff_getElem.1 h i j (by omega) hj hij
theorem strict_snoc {l : List Int} {a : Int} (h : Strict l) (ha : ∀ x ∈ l, x < a) : Strict (l ++ [a]) :=
  List.pairwise_append.2 ⟨h, by simp, fun x hx y hy => by simp at hy; subst hy; exact ha x hx⟩
theorem getD_at {E : List Int} {i : Nat} (h : i < E.length) : E.getD i 0 = E[i] := by simp [List.getD_eq_getElem?_getD, h]
theorem int_snoc {P : List Int → Prop} (h0 : P []) (h1 : ∀ l x, P l → P (l ++ [x])) (l : List Int) : P l := by
  have h : ∀ n (l : List Int), l.length = n → P l := by
    intro n
    induction n with
    | zero => intro l hl; rw [List.eq_nil_of_length_eq_zero hl]; exact h0
    | succ n ih =>
      intro l hl
      rcases List.eq_nil_or_concat l with rfl | ⟨L, q, rfl⟩
      · simp at hl
      · rw [List.concat_eq_append] at *
        exact h1 L q (ih L (by simpa using hl))
  exact h _ l rfl

/-- insert: one step; all steps; what is handed back. -/
def istep (n : Int) (p : Bool × List Int) (a : Int) : Bool × List Int :=
  if !p.1 && decide (n ≤ a) then (true, (if n < a then p.2 ++ [n] else p.2) ++ [a]) else (p.1, p.2 ++ [a])
def insSt (n : Int) (l : List Int) : Bool × List Int := l.foldl (istep n) (false, [])
def insI (n : Int) (l : List Int) : List Int := if (insSt n l).1 then (insSt n l).2 else (insSt n l).2 ++ [n]
theorem insSt_snoc (n : Int) (l : List Int) (a : Int) : insSt n (l ++ [a]) = istep n (insSt n l) a := by simp [insSt]
theorem insSt_length (n : Int) (l : List Int) : (insSt n l).2.length ≤ l.length + (if (insSt n l).1 then 1 else 0) := by
  induction l using int_snoc with
  | h0 => simp [insSt]
  | h1 l a ih =>
    rw [insSt_snoc]
    unfold istep
    cases h : (insSt n l).1
    · rw [h] at ih
      by_cases h1 : n ≤ a
      · by_cases h2 : n < a <;> simp [h1, h2] at ih ⊢ <;> omega
      · simp [h1] at ih ⊢; omega
    · rw [h] at ih
      simp at ih ⊢; omega
theorem insI_length (n : Int) (l : List Int) : (insI n l).length ≤ l.length + 1 := by
  have := insSt_length n l
  unfold insI
  cases h : (insSt n l).1 <;> rw [h] at this <;> simp at this ⊢ <;> omega
theorem insSt_inv (n : Int) (l : List Int) (h : Strict l) : Strict (insSt n l).2 ∧ (∀ x ∈ (insSt n l).2, x ∈ l ∨ (x = n ∧ (insSt n l).1 = true)) ∧ (∀ x ∈ l, x ∈ (insSt n l).2) ∧
    ((insSt n l).1 = true → n ∈ (insSt n l).2 ∧ ∃ a ∈ l, n ≤ a) ∧ ((insSt n l).1 = false → ∀ a ∈ l, a < n) := by
  induction l using int_snoc with
  | h0 => exact ⟨List.Pairwise.nil, by simp [insSt], by simp, by simp [insSt], by simp⟩
  | h1 l a ih =>
    obtain ⟨hl, _, hla⟩ := List.pairwise_append.1 h
    have hla' : ∀ x ∈ l, x < a := fun x hx => hla x hx a (by simp)
    obtain ⟨i1, i2, i3, i4, i5⟩ := ih hl
    rw [insSt_snoc]
    unfold istep
    cases hp : (insSt n l).1
    · rw [hp] at i2 i4 i5
      have i5' := i5 rfl
      have i2' : ∀ x ∈ (insSt n l).2, x ∈ l := fun x hx => (i2 x hx).elim id (fun h => by simp at h)
      by_cases h1 : n ≤ a
      · by_cases h2 : n < a
        · simp only [h1, h2, Bool.not_false, Bool.true_and, decide_true, if_true]
          refine ⟨strict_snoc (strict_snoc i1 (fun x hx => i5' x (i2' x hx))) (fun x hx => ?_), fun x hx => ?_, fun x hx => ?_, fun _ => ⟨by simp, a, by simp, h1⟩, by simp⟩
          · rcases List.mem_append.1 hx with hx | hx
            · exact hla' x (i2' x hx)
            · simp at hx; omega
          · simp at hx
            rcases hx with hx | hx | hx
            · exact .inl (by simp [i2' x hx])
            · exact .inr ⟨hx, by simp⟩
            · exact .inl (by simp [hx])
          · simp at hx
            rcases hx with hx | hx
            · simp [i3 x hx]
            · simp [hx]
        · have h3 : n = a := by omega
          subst h3
          simp only [Int.le_refl, Int.lt_irrefl, Bool.not_false, Bool.true_and, decide_true, if_true, if_false]
          refine ⟨strict_snoc i1 (fun x hx => hla' x (i2' x hx)), fun x hx => ?_, fun x hx => ?_, fun _ => ⟨by simp, n, by simp, Int.le_refl _⟩, by simp⟩
          · simp at hx
            rcases hx with hx | hx
            · exact .inl (by simp [i2' x hx])
            · exact .inr ⟨hx, by simp⟩
          · simp at hx
            rcases hx with hx | hx
            · simp [i3 x hx]
            · simp [hx]
      · simp only [h1, Bool.not_false, Bool.true_and, decide_false, Bool.false_eq_true, if_false]
        refine ⟨strict_snoc i1 (fun x hx => hla' x (i2' x hx)), fun x hx => ?_, fun x hx => ?_, by simp, fun _ x hx => ?_⟩
        · simp at hx
          rcases hx with hx | hx
          · exact .inl (by simp [i2' x hx])
          · exact .inl (by simp [hx])
        · simp at hx
          rcases hx with hx | hx
          · simp [i3 x hx]
          · simp [hx]
        · simp at hx
          rcases hx with hx | hx
          · exact i5' x hx
          · omega
    · rw [hp] at i2 i4
      obtain ⟨j1, b, j2, j3⟩ := i4 rfl
      simp only [Bool.not_true, Bool.false_and, Bool.false_eq_true, if_false]
      refine ⟨strict_snoc i1 (fun x hx => ?_), fun x hx => ?_, fun x hx => ?_, fun _ => ⟨by simp [j1], b, by simp [j2], j3⟩, by simp⟩
      · rcases i2 x hx with h | ⟨h, _⟩
        · exact hla' x h
        · have := hla' b j2; omega
      · simp at hx
        rcases hx with hx | hx
        · rcases i2 x hx with h | h
          · exact .inl (by simp [h])
          · exact .inr ⟨h.1, by simp⟩
        · exact .inl (by simp [hx])
      · simp at hx
        rcases hx with hx | hx
        · simp [i3 x hx]
        · simp [hx]
theorem insI_inv (n : Int) (l : List Int) (h : Strict l) : Strict (insI n l) ∧ ∀ x, x ∈ insI n l ↔ x ∈ l ∨ x = n := by
  obtain ⟨i1, i2, i3, i4, i5⟩ := insSt_inv n l h
  unfold insI
  cases hp : (insSt n l).1
  · rw [hp] at i2
    have i2' : ∀ x ∈ (insSt n l).2, x ∈ l := fun x hx => (i2 x hx).elim id (fun h => by simp at h)
    simp only [Bool.false_eq_true, if_false]
    refine ⟨strict_snoc i1 (fun x hx => i5 hp x (i2' x hx)), fun x => ?_⟩
    simp only [List.mem_append, List.mem_singleton]
    exact ⟨fun h => h.imp_left (i2' x), fun h => h.imp_left (i3 x)⟩
  · simp only [if_true]
    refine ⟨i1, fun x => ⟨fun hx => (i2 x hx).imp_right And.left, ?_⟩⟩
    rintro (hx | rfl)
    · exact i3 x hx
    · exact (i4 hp).1

/-- Is it right? (with f ≤ t) -/
def Sp.rightP (s : Sp) : Prop := 0 ≤ s.f ∧ s.f ≤ s.t ∧ s.t ≤ 4611686018427387904
instance (s : Sp) : Decidable s.rightP := inferInstanceAs (Decidable (_ ∧ _ ∧ _))
def estep (E : List Int) (s : Sp) : List Int := if s.rightP then insI s.t (insI s.f E) else E
def endsL (l : List Sp) : List Int := l.foldl estep []
theorem ends_snoc (l : List Sp) (s : Sp) : endsL (l ++ [s]) = estep (endsL l) s := by simp [endsL]
theorem ends_inv (l : List Sp) : Strict (endsL l) ∧ (∀ x, x ∈ endsL l ↔ ∃ s ∈ l, s.rightP ∧ (x = s.f ∨ x = s.t)) ∧ (endsL l).length ≤ 2 * l.length := by
  induction l using snoc_ind with
  | h0 => exact ⟨List.Pairwise.nil, by simp [endsL], by simp [endsL]⟩
  | h1 l s ih =>
    obtain ⟨i1, i2, i3⟩ := ih
    rw [ends_snoc]
    unfold estep
    by_cases h : s.rightP
    · rw [if_pos h]
      obtain ⟨a1, a2⟩ := insI_inv s.f _ i1
      obtain ⟨b1, b2⟩ := insI_inv s.t _ a1
      refine ⟨b1, fun x => ?_, ?_⟩
      · rw [b2, a2, i2]
        simp only [List.mem_append, List.mem_singleton]
        constructor
        · rintro ((⟨u, hu, k⟩ | k) | k)
          · exact ⟨u, .inl hu, k⟩
          · exact ⟨s, .inr rfl, h, .inl k⟩
          · exact ⟨s, .inr rfl, h, .inr k⟩
        · rintro ⟨u, hu | rfl, k1, k2⟩
          · exact .inl (.inl ⟨u, hu, k1, k2⟩)
          · rcases k2 with k2 | k2
            · exact .inl (.inr k2)
            · exact .inr k2
      · have := insI_length s.t (insI s.f (endsL l)); have := insI_length s.f (endsL l); simp; omega
    · rw [if_neg h]
      refine ⟨i1, fun x => ?_, by simp; omega⟩
      rw [i2]
      simp only [List.mem_append, List.mem_singleton]
      constructor
      · rintro ⟨u, hu, k⟩; exact ⟨u, .inl hu, k⟩
      · rintro ⟨u, hu | rfl, k⟩
        · exact ⟨u, hu, k⟩
        · exact absurd k.1 h

/-- In. -/
def inB (l : List Sp) (x : Int) : Bool := l.any fun s => decide s.rightP && (decide (s.f ≤ x) && decide (x < s.t))
theorem inB_iff (l : List Sp) (x : Int) : inB l x = true ↔ Mem (ofS l) x := by
  rw [mem_of]
  unfold inB
  simp only [List.any_eq_true, Bool.and_eq_true, decide_eq_true_eq]
  unfold Sp.rightP Sp.ok
  constructor
  · rintro ⟨s, h1, h2, h3⟩; exact ⟨s, h1, ⟨h2.1, by omega, h2.2.2⟩, h3⟩
  · rintro ⟨s, h1, h2, h3⟩; exact ⟨s, h1, ⟨h2.1, by omega, h2.2.2⟩, h3⟩

/-- of: one step. -/
def cstep (L : List Sp) (x y : Int) (b : Bool) : List Sp :=
  if b then (match L.getLast? with
    | some q => if q.t = x then L.dropLast ++ [⟨q.f, y⟩] else L ++ [⟨x, y⟩]
    | none => [⟨x, y⟩]) else L
theorem cstep_no (L : List Sp) (x y : Int) : cstep L x y false = L := rfl
theorem cstep_nil (x y : Int) : cstep [] x y true = [⟨x, y⟩] := rfl
theorem cstep_snoc (L : List Sp) (q : Sp) (x y : Int) : cstep (L ++ [q]) x y true = if q.t = x then L ++ [⟨q.f, y⟩] else (L ++ [q]) ++ [⟨x, y⟩] := by simp [cstep]
def cellsL (E : List Int) (p : Int → Bool) : Nat → List Sp
  | 0 => []
  | i + 1 => cstep (cellsL E p i) (E.getD i 0) (E.getD (i + 1) 0) (p (E.getD i 0))
theorem cells_inv (E : List Int) (p : Int → Bool) (h : Strict E) (h0 : ∀ x ∈ E, 0 ≤ x ∧ x ≤ 4611686018427387904) (i : Nat) (hi : i < E.length) :
    Norm (cellsL E p i) ∧ (∀ s ∈ cellsL E p i, s.t ≤ E[i]) ∧ (cellsL E p i).length ≤ i ∧ ∀ x, Mem (cellsL E p i) x ↔ ∃ j, j < i ∧ E.getD j 0 ≤ x ∧ x < E.getD (j + 1) 0 ∧ p (E.getD j 0) = true := by
  induction i with
  | zero => exact ⟨norm_nil, by simp [cellsL], by simp [cellsL], by simp [cellsL, Mem]⟩
  | succ i ih =>
    obtain ⟨i1, i2, i3, i4⟩ := ih (by omega)
    have e0 : E.getD i 0 = E[i] := getD_at (by omega)
    have e1 : E.getD (i + 1) 0 = E[i + 1] := getD_at hi
    have hlt := strict_lt h (i := i) (j := i + 1) (by omega) hi
    have b0 := h0 E[i] (List.getElem_mem _)
    have b1 := h0 E[i + 1] (List.getElem_mem _)
    have more : ∀ (P : Prop) (x : Int), (P ↔ (Mem (cellsL E p i) x ∨ (E[i] ≤ x ∧ x < E[i + 1] ∧ p E[i] = true))) → (P ↔ ∃ j, j < i + 1 ∧ E.getD j 0 ≤ x ∧ x < E.getD (j + 1) 0 ∧ p (E.getD j 0) = true) := by
      intro P x hP
      rw [hP, i4]
      constructor
      · rintro (⟨j, hj, k⟩ | k)
        · exact ⟨j, by omega, k⟩
        · exact ⟨i, by omega, by rw [e0, e1]; exact k⟩
      · rintro ⟨j, hj, k⟩
        rcases Nat.lt_or_ge j i with h1 | h1
        · exact .inl ⟨j, h1, k⟩
        · obtain rfl : j = i := by omega
          rw [e0, e1] at k
          exact .inr k
    show Norm (cstep _ _ _ _) ∧ (∀ s ∈ cstep _ _ _ _, _) ∧ (cstep _ _ _ _).length ≤ _ ∧ _
    rw [e0, e1]
    cases hp : p E[i]
    · rw [cstep_no]
      refine ⟨i1, fun s hs => by have := i2 s hs; omega, by omega, fun x => more _ x ?_⟩
      show Mem (cstep _ _ _ _) x ↔ _
      rw [e0, hp, cstep_no]
      simp
    · have hm : ∀ x, Mem (cellsL E p (i + 1)) x ↔ Mem (cstep (cellsL E p i) E[i] E[i + 1] true) x := fun x => by
        show Mem (cstep _ _ _ _) x ↔ _
        rw [e0, e1, hp]
      rcases List.eq_nil_or_concat (cellsL E p i) with e | ⟨L, q, e⟩
      · rw [e] at hm
        rw [e, cstep_nil]
        refine ⟨norm_one ⟨by show 0 ≤ E[i]; omega, hlt, b1.2⟩, fun s hs => by simp at hs; subst hs; exact Int.le_refl _, by simp, fun x => more _ x ?_⟩
        rw [hm, e, cstep_nil]
        simp [Mem, hp]
      · rw [List.concat_eq_append] at e
        rw [e] at i1 i2 i3 hm
        rw [e, cstep_snoc]
        obtain ⟨n1, n2, n3⟩ := norm_snoc.1 i1
        have hq := i2 q (by simp)
        by_cases hqt : q.t = E[i]
        · rw [if_pos hqt]
          refine ⟨norm_snoc.2 ⟨n1, ⟨n2.1, by show q.f < E[i + 1]; have := n2.2.1; omega, b1.2⟩, n3⟩, fun s hs => ?_, by simpa using Nat.le_succ_of_le i3, fun x => more _ x ?_⟩
          · rcases List.mem_append.1 hs with hs | hs
            · have := i2 s (by simp [hs]); omega
            · simp at hs; subst hs; exact Int.le_refl _
          · rw [hm, cstep_snoc, if_pos hqt, e, mem_append, mem_append]
            have := n2.2.1
            simp only [Mem, List.mem_singleton, exists_eq_left]
            constructor
            · rintro (h | h)
              · exact .inl (.inl h)
              · by_cases hx : x < q.t
                · exact .inl (.inr ⟨h.1, hx⟩)
                · exact .inr ⟨by omega, h.2, hp⟩
            · rintro ((h | h) | h)
              · exact .inl h
              · exact .inr ⟨h.1, by show x < E[i + 1]; omega⟩
              · exact .inr ⟨by show q.f ≤ x; omega, h.2.1⟩
        · rw [if_neg hqt]
          refine ⟨norm_snoc.2 ⟨i1, ⟨by show 0 ≤ E[i]; omega, hlt, b1.2⟩, fun u hu => by show u.t < E[i]; have := norm_last i1 u hu; omega⟩, fun s hs => ?_, by simp at i3 ⊢; omega, fun x => more _ x ?_⟩
          · rcases List.mem_append.1 hs with hs | hs
            · have := i2 s hs; omega
            · simp at hs; subst hs; exact Int.le_refl _
          · rw [hm, cstep_snoc, if_neg hqt, e, mem_append (a := L ++ [q])]
            simp [Mem, hp]

theorem between (E : List Int) (x : Int) (m : Nat) (hm : m < E.length) (h0 : E.getD 0 0 ≤ x) (h1 : x < E[m]) : ∃ j, j < m ∧ E.getD j 0 ≤ x ∧ x < E.getD (j + 1) 0 := by
  induction m with
  | zero => simp [List.getD_eq_getElem?_getD, hm] at h0; omega
  | succ m ih =>
    by_cases h : x < E[m]
    · obtain ⟨j, hj, k⟩ := ih (by omega) h
      exact ⟨j, by omega, k⟩
    · exact ⟨m, by omega, by simp [List.getD_eq_getElem?_getD, show m < E.length by omega]; omega, by simp [List.getD_eq_getElem?_getD, hm]; exact h1⟩
theorem in_const (E : List Int) (h : Strict E) (l : List Sp) (hl : ∀ s ∈ l, s.rightP → s.f ∈ E ∧ s.t ∈ E) (j : Nat) (hj : j + 1 < E.length) (x : Int) (h0 : E[j] ≤ x) (h1 : x < E[j + 1]) : inB l E[j] = inB l x := by
  unfold inB
  rw [Bool.eq_iff_iff]
  simp only [List.any_eq_true, Bool.and_eq_true, decide_eq_true_eq]
  have key : ∀ s ∈ l, s.rightP → ((s.f ≤ E[j] ∧ E[j] < s.t) ↔ (s.f ≤ x ∧ x < s.t)) := by
    intro s hs hr
    obtain ⟨hf, ht⟩ := hl s hs hr
    obtain ⟨m, hm, ef⟩ := List.getElem_of_mem hf
    obtain ⟨n, hn, et⟩ := List.getElem_of_mem ht
    constructor
    · rintro ⟨a, b⟩
      refine ⟨by omega, ?_⟩
      rcases Nat.lt_or_ge j n with c | c
      · rcases Nat.lt_or_ge (j + 1) n with d | d
        · have := strict_lt h d hn; omega
        · obtain rfl : n = j + 1 := by omega
          omega
      · rcases Nat.lt_or_ge n j with d | d
        · have := strict_lt h d (by omega); omega
        · obtain rfl : n = j := by omega
          omega
    · rintro ⟨a, b⟩
      refine ⟨?_, by omega⟩
      rcases Nat.lt_or_ge j m with c | c
      · rcases Nat.lt_or_ge (j + 1) m with d | d
        · have := strict_lt h d hm; omega
        · obtain rfl : m = j + 1 := by omega
          omega
      · rcases Nat.lt_or_ge m j with d | d
        · have := strict_lt h d (by omega); omega
        · obtain rfl : m = j := by omega
          omega
  constructor
  · rintro ⟨s, hs, hr, k⟩; exact ⟨s, hs, hr, (key s hs hr).1 k⟩
  · rintro ⟨s, hs, hr, k⟩; exact ⟨s, hs, hr, (key s hs hr).2 k⟩

/-- What an operation of two sets says of a byte: 1 or, 2 and, 3 less. -/
def opB (op : Int) (x y : Bool) : Bool := (op == 1 && (x || y)) || (op == 2 && x && y) || (op == 3 && x && !y)
def ofP (op : Int) (a b : List Sp) (x : Int) : Bool := opB op (inB a x) (inB b x)
def ofL (op : Int) (a b : List Sp) : List Sp := cellsL (endsL (a ++ b)) (ofP op a b) ((endsL (a ++ b)).length - 1)
theorem ofL_inv (op : Int) (a b : List Sp) : Norm (ofL op a b) ∧ (∀ x, Mem (ofL op a b) x ↔ ofP op a b x = true) := by
  obtain ⟨e1, e2, _⟩ := ends_inv (a ++ b)
  have hb : ∀ x ∈ endsL (a ++ b), 0 ≤ x ∧ x ≤ 4611686018427387904 := fun x hx => by
    obtain ⟨s, _, hr, h⟩ := (e2 x).1 hx
    unfold Sp.rightP at hr
    omega
  have ha : ∀ s ∈ a, s.rightP → s.f ∈ endsL (a ++ b) ∧ s.t ∈ endsL (a ++ b) := fun s hs hr => ⟨(e2 _).2 ⟨s, by simp [hs], hr, .inl rfl⟩, (e2 _).2 ⟨s, by simp [hs], hr, .inr rfl⟩⟩
  have hbb : ∀ s ∈ b, s.rightP → s.f ∈ endsL (a ++ b) ∧ s.t ∈ endsL (a ++ b) := fun s hs hr => ⟨(e2 _).2 ⟨s, by simp [hs], hr, .inl rfl⟩, (e2 _).2 ⟨s, by simp [hs], hr, .inr rfl⟩⟩
  have some_in : ∀ x, ofP op a b x = true → ∃ s ∈ a ++ b, s.rightP ∧ s.f ≤ x ∧ x < s.t := by
    intro x hx
    have h1 : inB a x = true ∨ inB b x = true := by
      unfold ofP opB at hx
      cases h : inB a x <;> cases h' : inB b x <;> simp [h, h'] at hx ⊢
    rcases h1 with h1 | h1
    · unfold inB at h1
      simp only [List.any_eq_true, Bool.and_eq_true, decide_eq_true_eq] at h1
      obtain ⟨s, hs, k⟩ := h1
      exact ⟨s, by simp [hs], k⟩
    · unfold inB at h1
      simp only [List.any_eq_true, Bool.and_eq_true, decide_eq_true_eq] at h1
      obtain ⟨s, hs, k⟩ := h1
      exact ⟨s, by simp [hs], k⟩
  unfold ofL
  generalize endsL (a ++ b) = E at *
  rcases Nat.eq_zero_or_pos E.length with h0 | h0
  · have : E = [] := List.eq_nil_of_length_eq_zero h0
    subst this
    refine ⟨norm_nil, fun x => ⟨fun h => absurd h (mem_nil x), fun h => ?_⟩⟩
    obtain ⟨s, hs, hr, _⟩ := some_in x h
    rcases List.mem_append.1 hs with hs | hs
    · exact absurd (ha s hs hr).1 (by simp)
    · exact absurd (hbb s hs hr).1 (by simp)
  · obtain ⟨i1, _, _, i4⟩ := cells_inv E (ofP op a b) e1 hb (E.length - 1) (by omega)
    refine ⟨i1, fun x => ?_⟩
    rw [i4]
    have cst : ∀ j (hj : j + 1 < E.length), E[j] ≤ x → x < E[j + 1] → ofP op a b E[j] = ofP op a b x := fun j hj h1 h2 => by
      unfold ofP
      rw [in_const E e1 a ha j hj x h1 h2, in_const E e1 b hbb j hj x h1 h2]
    constructor
    · rintro ⟨j, hj, k1, k2, k3⟩
      have hj1 : j + 1 < E.length := by omega
      have q0 : E.getD j 0 = E[j] := getD_at (by omega)
      have q1 : E.getD (j + 1) 0 = E[j + 1] := getD_at hj1
      rw [q0] at k1 k3
      rw [q1] at k2
      rw [← cst j hj1 k1 k2]; exact k3
    · intro hx
      obtain ⟨s, hs, hr, k1, k2⟩ := some_in x hx
      have hft : s.f ∈ E ∧ s.t ∈ E := (List.mem_append.1 hs).elim (fun h => ha s h hr) (fun h => hbb s h hr)
      obtain ⟨m, hm, ef⟩ := List.getElem_of_mem hft.1
      obtain ⟨n, hn, et⟩ := List.getElem_of_mem hft.2
      have z : E.getD 0 0 ≤ x := by
        simp only [List.getD_eq_getElem?_getD, List.getElem?_eq_getElem h0, Option.getD_some]
        rcases Nat.eq_zero_or_pos m with c | c
        · subst c; omega
        · have := strict_lt e1 c hm; omega
      obtain ⟨j, hj, k3, k4⟩ := between E x n hn z (by omega)
      have hj1 : j + 1 < E.length := by omega
      have q0 : E.getD j 0 = E[j] := getD_at (by omega)
      have q1 : E.getD (j + 1) 0 = E[j + 1] := getD_at hj1
      refine ⟨j, by omega, k3, k4, ?_⟩
      rw [q0] at k3 ⊢
      rw [q1] at k4
      rw [cst j hj1 k3 k4]; exact hx
theorem ofL_one (a b : List Sp) : ofL 1 a b = ofS (a ++ b) := by
  obtain ⟨h1, h2⟩ := ofL_inv 1 a b
  refine norm_ext h1 (norm_of _) fun x => ?_
  rw [h2, mem_of]
  have ea := inB_iff a x
  have eb := inB_iff b x
  rw [mem_of] at ea eb
  unfold ofP opB
  simp only [show ((1 : Int) == 1) = true from rfl, show ((1 : Int) == 2) = false from rfl, show ((1 : Int) == 3) = false from rfl, Bool.true_and, Bool.false_and, Bool.or_false, Bool.or_eq_true, ea, eb, List.mem_append]
  constructor
  · rintro (⟨s, h, k⟩ | ⟨s, h, k⟩)
    · exact ⟨s, .inl h, k⟩
    · exact ⟨s, .inr h, k⟩
  · rintro ⟨s, h | h, k⟩
    · exact .inl ⟨s, h, k⟩
    · exact .inr ⟨s, h, k⟩
theorem ofL_two (a b : List Sp) : ofL 2 a b = andS (ofS a) (ofS b) := by
  obtain ⟨h1, h2⟩ := ofL_inv 2 a b
  refine norm_ext h1 (norm_and _ _) fun x => ?_
  rw [h2, mem_and (norm_of a) (norm_of b), ← inB_iff, ← inB_iff]
  unfold ofP opB
  simp
theorem ofL_three (a b : List Sp) : ofL 3 a b = lessS (ofS a) (ofS b) := by
  obtain ⟨h1, h2⟩ := ofL_inv 3 a b
  refine norm_ext h1 (norm_less _ _) fun x => ?_
  rw [h2, mem_less (norm_of a) (norm_of b), ← inB_iff, ← inB_iff]
  unfold ofP opB
  simp
end Go.Proofs.YtgcplndmhlideaaGreat
