/- Plain Lean: what acts make of a map is what the reference's Runs are. -/
import Derived.Test.YtjiabibnbpjhaaaPlain
import Derived.Test.YtjiabibnbpjhaaaIter
namespace Go.Proofs.Ytjiabibnbpjhaaa

/-- What an act makes of a map's runs. -/
def appStep (l : List Rn) (a : Ac) : List Rn := if goodB a.f a.t then (if a.d then dropTo a.f a.t l else putR a.f a.t a.v l) else l
def appR (l : List Ac) : List Rn := l.foldl appStep []
theorem appR_snoc (l : List Ac) (a : Ac) : appR (l ++ [a]) = appStep (appR l) a := by simp [appR]

/-- What is told of a place behind acts. -/
def toldO (l : List Ac) (x : Int) : Option Int := if toldB l x then some (toldV l x) else none
theorem toldO_snoc (l : List Ac) (a : Ac) (x : Int) : toldO (l ++ [a]) x = if hitB a x then (if a.d then none else some a.v) else toldO l x := by
  unfold toldO toldB toldV
  rw [lastHit_snoc]
  cases hitB a x
  · rfl
  · simp only [if_true]
    cases a.d <;> simp

theorem good_iff (f t : Int) : goodB f t = true ↔ 0 ≤ f ∧ f < t ∧ t ≤ OPEN := by
  simp only [goodB, rightB, Bool.and_eq_true, decide_eq_true_eq, OPEN]
  omega

theorem appR_spec (l : List Ac) : WF 0 none (appR l) ∧ ∀ x, tell (appR l) x = toldO l x := by
  suffices h : ∀ (n : Nat) (l : List Ac), l.length = n → WF 0 none (appR l) ∧ ∀ x, tell (appR l) x = toldO l x from h _ l rfl
  intro n
  induction n with
  | zero =>
    intro l hl
    obtain rfl : l = [] := List.eq_nil_of_length_eq_zero hl
    exact ⟨trivial, fun x => rfl⟩
  | succ n ih =>
    intro l hl
    rcases List.eq_nil_or_concat l with rfl | ⟨l0, a, rfl⟩
    · simp at hl
    · rw [List.concat_eq_append] at *
      obtain ⟨h1, h2⟩ := ih l0 (by simpa using hl)
      rw [appR_snoc]
      unfold appStep
      cases hg : goodB a.f a.t
      · simp only [Bool.false_eq_true, if_false]
        refine ⟨h1, fun x => ?_⟩
        rw [toldO_snoc, h2]
        simp [hitB, hg]
      · obtain ⟨g1, g2, g3⟩ := (good_iff _ _).1 hg
        simp only [if_true]
        cases hd : a.d
        · obtain ⟨p1, p2⟩ := putR_spec h1 a.v g1 g2 g3
          simp only [Bool.false_eq_true, if_false]
          refine ⟨p1, fun x => ?_⟩
          rw [p2, toldO_snoc, h2, hd]
          simp [hitB, hg]
        · obtain ⟨p1, p2⟩ := dropTo_spec h1 g2
          simp only [if_true]
          refine ⟨p1, fun x => ?_⟩
          rw [p2, toldO_snoc, h2, hd]
          simp [hitB, hg]

/-- ends, by recursion. -/
def insR : List Int → Int → List Int
  | [], n => [n]
  | x :: l, n => if x < n then x :: insR l n else if x = n then x :: l else n :: x :: l
theorem ins_eq (l : List Int) (n : Int) : ins l n = insR l n := by
  induction l with
  | nil => simp [ins, insR, idxOf]
  | cons x l ih =>
    unfold insR
    by_cases hx : x < n
    · have e : idxOf (x :: l) n = idxOf l n + 1 := by unfold idxOf; simp [hx]
      rw [if_pos hx, ← ih]
      unfold ins
      rw [e]
      simp only [List.getElem?_cons_succ, List.take_succ_cons, List.drop_succ_cons, List.cons_append]
      split <;> rfl
    · have e : idxOf (x :: l) n = 0 := by unfold idxOf; simp [hx]
      rw [if_neg hx]
      unfold ins
      rw [e]
      simp only [List.getElem?_cons_zero, Option.some.injEq, List.take_zero, List.drop_zero, List.nil_append]
      split <;> rfl
theorem mem_insR (l : List Int) (n y : Int) : y ∈ insR l n ↔ y = n ∨ y ∈ l := by
  induction l with
  | nil => simp [insR]
  | cons x l ih =>
    unfold insR
    split
    · simp only [List.mem_cons, ih]
      constructor
      · rintro (h | h | h) <;> simp [h]
      · rintro (h | h | h) <;> simp [h]
    · split
      · rename_i h
        subst h
        simp
      · simp
theorem insR_sorted (l : List Int) (n : Int) (h : l.Pairwise (· < ·)) : (insR l n).Pairwise (· < ·) := by
  induction l with
  | nil => simp [insR]
  | cons x l ih =>
    rw [List.pairwise_cons] at h
    unfold insR
    split
    · rw [List.pairwise_cons]
      refine ⟨fun y hy => ?_, ih h.2⟩
      rcases (mem_insR l n y).1 hy with rfl | hy
      · assumption
      · exact h.1 y hy
    · split
      · rw [List.pairwise_cons]; exact h
      · rw [List.pairwise_cons, List.pairwise_cons]
        refine ⟨fun y hy => ?_, h⟩
        rcases List.mem_cons.1 hy with rfl | hy
        · omega
        · have := h.1 y hy; omega

/-- The ends are rising, from 0 on, and each border of an act is among them. -/
theorem ends_spec (l : List Ac) : (endsR l).Pairwise (· < ·) ∧ (∀ y ∈ endsR l, 0 ≤ y ∧ y ≤ OPEN) ∧ (0 : Int) ∈ endsR l ∧ ∀ a ∈ l, goodB a.f a.t = true → a.f ∈ endsR l ∧ a.t ∈ endsR l := by
  suffices h : ∀ (l : List Ac) (s : List Int), s.Pairwise (· < ·) → (∀ y ∈ s, 0 ≤ y ∧ y ≤ OPEN) → (0 : Int) ∈ s →
      (l.foldl endsStep s).Pairwise (· < ·) ∧ (∀ y ∈ l.foldl endsStep s, 0 ≤ y ∧ y ≤ OPEN) ∧ (∀ y ∈ s, y ∈ l.foldl endsStep s) ∧ ∀ a ∈ l, goodB a.f a.t = true → a.f ∈ l.foldl endsStep s ∧ a.t ∈ l.foldl endsStep s by
    obtain ⟨a, b, c, d⟩ := h l [0] (by simp) (by simp [OPEN]) (by simp)
    exact ⟨a, b, c 0 (by simp), d⟩
  intro l
  induction l with
  | nil => intro s h1 h2 _; exact ⟨h1, h2, fun y hy => hy, fun a ha => by cases ha⟩
  | cons a l ih =>
    intro s h1 h2 h3
    rw [List.foldl_cons]
    cases hg : goodB a.f a.t
    · have e : endsStep s a = s := by unfold endsStep; rw [hg]; rfl
      rw [e]
      obtain ⟨p, q, r, t⟩ := ih s h1 h2 h3
      refine ⟨p, q, r, fun b hb hb2 => ?_⟩
      rcases List.mem_cons.1 hb with rfl | hb
      · rw [hg] at hb2; cases hb2
      · exact t b hb hb2
    · have e : endsStep s a = insR (insR s a.f) a.t := by unfold endsStep; rw [hg, if_pos rfl, ins_eq, ins_eq]
      obtain ⟨g1, g2, g3⟩ := (good_iff _ _).1 hg
      rw [e]
      have hm : ∀ y, y ∈ insR (insR s a.f) a.t ↔ y = a.t ∨ y = a.f ∨ y ∈ s := fun y => by rw [mem_insR, mem_insR]
      obtain ⟨p, q, r, t⟩ := ih (insR (insR s a.f) a.t) (insR_sorted _ _ (insR_sorted _ _ h1)) (fun y hy => by
        rcases (hm y).1 hy with rfl | rfl | hy
        · omega
        · omega
        · exact h2 y hy) ((hm 0).2 (.inr (.inr h3)))
      refine ⟨p, q, fun y hy => r y ((hm y).2 (.inr (.inr hy))), fun b hb hb2 => ?_⟩
      rcases List.mem_cons.1 hb with rfl | hb
      · exact ⟨r _ ((hm _).2 (.inr (.inl rfl))), r _ ((hm _).2 (.inl rfl))⟩
      · exact t b hb hb2

/-- Between two ends that are neighbours the same is told. -/
theorem told_same (l : List Ac) {a b x : Int} (hs : ∀ y ∈ endsR l, y ≤ a ∨ b ≤ y) (h1 : a ≤ x) (h2 : x < b) : toldO l x = toldO l a := by
  have hh : ∀ c ∈ l, hitB c x = hitB c a := fun c hc => by
    cases hg : goodB c.f c.t
    · simp [hitB, hg]
    · obtain ⟨hf, ht⟩ := (ends_spec l).2.2.2 c hc hg
      have h3 := hs _ hf
      have h4 := hs _ ht
      simp only [hitB, hg, Bool.true_and]
      rw [show decide (c.f ≤ x) = decide (c.f ≤ a) from decide_eq_decide.2 (by omega), show decide (x < c.t) = decide (a < c.t) from decide_eq_decide.2 (by omega)]
  have e : lastHit l x = lastHit l a := by
    unfold lastHit
    have : ∀ (m : List Ac), (∀ c ∈ m, hitB c x = hitB c a) → m.find? (fun c => hitB c x) = m.find? (fun c => hitB c a) := fun m => by
      induction m with
      | nil => intro _; rfl
      | cons c m ih =>
        intro h
        rw [List.find?_cons, List.find?_cons, h c (by simp), ih fun d hd => h d (by simp [hd])]
    exact this _ fun c hc => hh c (by simpa using hc)
  unfold toldO toldB toldV
  rw [e]
theorem told_none (l : List Ac) {x : Int} (h : x < 0 ∨ ∀ y ∈ endsR l, y ≤ x) : toldO l x = none := by
  have e : lastHit l x = none := by
    unfold lastHit
    rw [List.find?_eq_none]
    intro c hc
    have hc : c ∈ l := by simpa using hc
    cases hg : goodB c.f c.t
    · simp [hitB, hg]
    · obtain ⟨hf, ht⟩ := (ends_spec l).2.2.2 c hc hg
      obtain ⟨g1, g2, g3⟩ := (good_iff _ _).1 hg
      simp only [hitB, hg, Bool.true_and, Bool.and_eq_true, decide_eq_true_eq, not_and]
      intro h1
      rcases h with h | h
      · omega
      · have := h _ ht; omega
  unfold toldO toldB toldV
  rw [e]; rfl

theorem getD_at (l : List Int) {i : Nat} (h : i < l.length) : l.getD i 0 = l[i] := by simp [List.getD, h]

theorem runsTo_spec (l : List Ac) (k : Nat) (hk : k < (endsR l).length) : WF 0 none (runsTo l (endsR l) k) ∧ (endOf 0 none (runsTo l (endsR l) k)).1 ≤ (endsR l).getD k 0 ∧
    ∀ x, tell (runsTo l (endsR l) k) x = if x < (endsR l).getD k 0 then toldO l x else none := by
  obtain ⟨hs, hb, h0, _⟩ := ends_spec l
  have hsort : ∀ i j, i < j → j < (endsR l).length → (endsR l).getD i 0 < (endsR l).getD j 0 := fun i j hij hj => by
    rw [getD_at _ hj, getD_at _ (by omega)]
    exact List.pairwise_iff_getElem.1 hs i j (by omega) hj hij
  have hbd : ∀ i, i < (endsR l).length → 0 ≤ (endsR l).getD i 0 ∧ (endsR l).getD i 0 ≤ OPEN := fun i hi => by
    rw [getD_at _ hi]; exact hb _ (List.getElem_mem _)
  have hhead : (endsR l).getD 0 0 = 0 := by
    obtain ⟨i, hi, e⟩ := List.mem_iff_getElem.1 h0
    have h1 : (endsR l).getD i 0 = 0 := by rw [getD_at _ hi, e]
    rcases i with _ | i
    · exact h1
    · have h2 := hsort 0 (i + 1) (by omega) hi
      have h3 := (hbd 0 (by omega)).1
      omega
  induction k with
  | zero =>
    refine ⟨trivial, by rw [hhead]; exact Int.le_refl _, fun x => ?_⟩
    rw [hhead]
    split
    · rw [told_none l (.inl (by assumption))]; rfl
    · rfl
  | succ k ih =>
    obtain ⟨h1, h2, h3⟩ := ih (by omega)
    have hlt := hsort k (k + 1) (by omega) hk
    have hnb : ∀ y ∈ endsR l, y ≤ (endsR l).getD k 0 ∨ (endsR l).getD (k + 1) 0 ≤ y := fun y hy => by
      obtain ⟨i, hi, rfl⟩ := List.mem_iff_getElem.1 hy
      rw [← getD_at (endsR l) hi]
      rcases Nat.lt_trichotomy i k with c | c | c
      · have := hsort i k c (by omega); omega
      · subst c; omega
      · rcases Nat.lt_or_ge (k + 1) i with d | d
        · have := hsort (k + 1) i d hi; omega
        · obtain rfl : i = k + 1 := by omega
          omega
    have hsame := fun x h4 h5 => told_same l hnb (x := x) h4 h5
    unfold runsTo runStep
    cases ht : toldB l ((endsR l).getD k 0)
    · simp only [Bool.false_eq_true, if_false]
      refine ⟨h1, by omega, fun x => ?_⟩
      rw [h3]
      have h4 : toldO l ((endsR l).getD k 0) = none := by unfold toldO; rw [ht]; rfl
      by_cases c : x < (endsR l).getD k 0
      · rw [if_pos c, if_pos (by omega)]
      · rw [if_neg c]
        split
        · rw [hsame x (by omega) (by assumption), h4]
        · rfl
    · simp only [if_true]
      obtain ⟨p, q, r⟩ := push_wf (r := ⟨(endsR l).getD k 0, (endsR l).getD (k + 1) 0, toldV l ((endsR l).getD k 0)⟩) h1 h2 hlt (hbd _ hk).2
      simp only at q r
      refine ⟨p, Int.le_of_eq q, fun x => ?_⟩
      rw [r, h3]
      have h4 : toldO l ((endsR l).getD k 0) = some (toldV l ((endsR l).getD k 0)) := by unfold toldO; rw [ht]; rfl
      by_cases c : x < (endsR l).getD k 0
      · rw [if_pos c, if_neg (by omega), Option.or_none, if_pos (by omega)]
      · rw [if_neg c, Option.none_or]
        by_cases d : x < (endsR l).getD (k + 1) 0
        · rw [if_pos (by omega), if_pos d, hsame x (by omega) d, h4]
        · rw [if_neg (by omega), if_neg d]

/-- What acts make of a map, run by run, is what the reference says. -/
theorem appR_eq (l : List Ac) : appR l = runsR l := by
  obtain ⟨h1, h2⟩ := appR_spec l
  obtain ⟨hs, hb, h0, _⟩ := ends_spec l
  have hlen : 0 < (endsR l).length := List.length_pos_of_mem h0
  obtain ⟨k1, _, k3⟩ := runsTo_spec l ((endsR l).length - 1) (by omega)
  refine WF.unique h1 k1 fun x _ => ?_
  rw [h2, show runsR l = runsTo l (endsR l) ((endsR l).length - 1) from rfl, k3]
  split
  · rfl
  · rename_i hx
    refine told_none l (.inr fun y hy => ?_)
    obtain ⟨i, hi, rfl⟩ := List.mem_iff_getElem.1 hy
    rw [getD_at _ (by omega)] at hx
    rcases Nat.lt_or_ge i ((endsR l).length - 1) with c | c
    · have := List.pairwise_iff_getElem.1 hs i ((endsR l).length - 1) hi (by omega) c
      omega
    · have : (endsR l)[i] = (endsR l)[(endsR l).length - 1] := by congr 1; omega
      omega
theorem runsR_wf (l : List Ac) : WF 0 none (runsR l) := by rw [← appR_eq]; exact (appR_spec l).1
theorem appR_length (l : List Ac) : (appR l).length ≤ 2 * l.length := by
  rw [appR_eq]
  have h1 := runsTo_length l (endsR l) ((endsR l).length - 1)
  have h2 := endsR_length l
  show (runsTo l (endsR l) ((endsR l).length - 1)).length ≤ _
  omega

/-- All of a list lies from 0 on up to the end of all. -/
theorem meets_all {lo : Int} {lv : Option Int} {l : List Rn} (h : WF lo lv l) (h0 : 0 ≤ lo) : meetsR l 0 4611686018427387904 = l := by
  induction l generalizing lo lv with
  | nil => rfl
  | cons r l ih =>
    obtain ⟨h1, _, h3, h4, h5⟩ := h
    have e := ih h5 (by omega)
    have hm : meets r.f r.t 0 4611686018427387904 = true := by
      simp only [OPEN] at h4
      simp only [meets, rightB, Bool.and_eq_true, decide_eq_true_eq]
      omega
    simp only [OPEN] at h4
    unfold meetsR at e ⊢
    rw [List.filter_cons, hm, if_pos rfl, List.map_cons, e]
    congr 1
    exact Rn.same (by simp only; omega) (by simp only; omega) rfl
end Go.Proofs.Ytjiabibnbpjhaaa
