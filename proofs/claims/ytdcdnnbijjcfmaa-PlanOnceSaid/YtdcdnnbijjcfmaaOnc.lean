/- What PlanOnce claims, plain. -/
import Derived.Test.YtdcdnnbijjcfmaaRit
namespace Go.Proofs.Ytdcdnnbijjcfmaa

/-- All that is fetched, and how many bytes these are. -/
def uniS (l : List Sp) : List Sp := l.foldl (fun a s => orS a (ofS [s])) []
def bytS (l : List Sp) : Int := l.foldl (fun n s => if s.t < 4611686018427387904 then n + (s.t - s.f) else n) 0
theorem uni_snoc (l : List Sp) (s : Sp) : uniS (l ++ [s]) = orS (uniS l) (ofS [s]) := by simp [uniS]
theorem byt_snoc (l : List Sp) (s : Sp) : bytS (l ++ [s]) = if s.t < 4611686018427387904 then bytS l + (s.t - s.f) else bytS l := by simp [bytS]
theorem uni_norm (l : List Sp) : Norm (uniS l) := by
  refine snoc_ind (P := fun l => Norm (uniS l)) norm_nil (fun l s _ => ?_) l
  rw [uni_snoc]; exact norm_or _ _
theorem uni_len (l : List Sp) : (uniS l).length ≤ l.length := by
  refine snoc_ind (P := fun l => (uniS l).length ≤ l.length) (by simp [uniS]) (fun l s ih => ?_) l
  rw [uni_snoc, List.length_append]
  have h1 := or_length (uniS l) (ofS [s])
  have h2 := of_length [s]
  simp at h2 ⊢
  omega
theorem mem_uni (l : List Sp) (x : Int) : Mem (uniS l) x ↔ ∃ s ∈ l, s.ok ∧ s.f ≤ x ∧ x < s.t := by
  refine snoc_ind (P := fun l => Mem (uniS l) x ↔ ∃ s ∈ l, s.ok ∧ s.f ≤ x ∧ x < s.t) ?_ (fun l s ih => ?_) l
  · simp [uniS, Mem]
  · rw [uni_snoc, mem_or (uni_norm _) (norm_of _), ih, mem_of]
    constructor
    · rintro (⟨v, hv, h⟩ | ⟨v, hv, h⟩)
      · exact ⟨v, List.mem_append_left _ hv, h⟩
      · exact ⟨v, List.mem_append_right _ hv, h⟩
    · rintro ⟨v, hv, h⟩
      rcases List.mem_append.1 hv with hv | hv
      · exact .inl ⟨v, hv, h⟩
      · exact .inr ⟨v, hv, h⟩
theorem sum_or_n {A B : List Sp} (hA : Norm A) (hB : Norm B) (h : ∀ x, ¬ (Mem A x ∧ Mem B x)) (N : Nat) (bnd : ∀ {l : List Sp}, Norm l → ∀ s ∈ l, (0 : Int) ≤ s.f ∧ s.t ≤ 0 + (N : Int)) : sumS (orS A B) = sumS A + sumS B := by
  have hN := norm_or A B
  rw [sum_cnt _ hN 0 N (bnd hN), sum_cnt A hA 0 N (bnd hA), sum_cnt B hB 0 N (bnd hB)]
  have h1 := cnt_both (memB A) (memB B) N 0
  have h2 : cnt (fun z => memB A z && memB B z) 0 N = 0 := by
    refine Eq.trans (cnt_congr fun z _ _ => ?_) (cnt_false N 0)
    cases e : memB A z && memB B z
    · rfl
    · simp only [Bool.and_eq_true] at e
      exact absurd ⟨memB_iff.1 e.1, memB_iff.1 e.2⟩ (h z)
  have h3 : cnt (fun z => memB A z || memB B z) 0 N = cnt (memB (orS A B)) 0 N := cnt_congr fun z _ _ => by
    rw [Bool.eq_iff_iff, Bool.or_eq_true, memB_iff, memB_iff, memB_iff, mem_or hA hB]
  rw [h2, h3] at h1
  omega
theorem sum_or {A B : List Sp} (hA : Norm A) (hB : Norm B) (h : ∀ x, ¬ (Mem A x ∧ Mem B x)) : sumS (orS A B) = sumS A + sumS B :=
  sum_or_n hA hB h 4611686018427387904 fun hl s hs => by
    have h1 := (hl.1 s hs).1
    have h2 := (hl.1 s hs).2.2
    exact ⟨h1, by omega⟩
theorem of_one {s : Sp} (h : s.ok) : ofS [s] = [s] := of_norm (norm_one h)
/-- Rising spans, each right, that lie apart. -/
def Apart (l : List Sp) : Prop := (∀ s ∈ l, s.ok) ∧ l.Pairwise (fun s t => s.t ≤ t.f)
theorem apart_snoc {l : List Sp} {s : Sp} (h : Apart (l ++ [s])) : Apart l ∧ s.ok ∧ ∀ v ∈ l, v.t ≤ s.f := by
  obtain ⟨h1, h2⟩ := h
  obtain ⟨p1, _, p3⟩ := List.pairwise_append.1 h2
  exact ⟨⟨fun v hv => h1 v (List.mem_append_left _ hv), p1⟩, h1 s (by simp), fun v hv => p3 v hv s (by simp)⟩
theorem apart_not {l : List Sp} {s : Sp} (h : Apart (l ++ [s])) (x : Int) : ¬ (Mem (uniS l) x ∧ Mem (ofS [s]) x) := by
  obtain ⟨h1, h2, h3⟩ := apart_snoc h
  rintro ⟨a, b⟩
  obtain ⟨v, hv, _, v1, v2⟩ := (mem_uni _ _).1 a
  obtain ⟨u, hu, _, u1, u2⟩ := (mem_of _ _).1 b
  simp at hu
  subst hu
  have := h3 v hv
  omega
theorem uni_sum (l : List Sp) (h : Apart l) : sumS (uniS l) = sumS l := by
  revert h
  refine snoc_ind (P := fun l => Apart l → sumS (uniS l) = sumS l) (fun _ => rfl) (fun l s ih h => ?_) l
  obtain ⟨h1, h2, h3⟩ := apart_snoc h
  rw [uni_snoc, sum_or (uni_norm _) (norm_of _) (apart_not h), ih h1, of_one h2, sumS_snoc]
  have : sumS [s] = s.t - s.f := by simp [sumS]
  omega
theorem byt_sum (l : List Sp) (h : ∀ s ∈ l, s.t < 4611686018427387904) : bytS l = sumS l := by
  revert h
  refine snoc_ind (P := fun l => (∀ s ∈ l, s.t < 4611686018427387904) → bytS l = sumS l) (fun _ => rfl) (fun l s ih h => ?_) l
  rw [byt_snoc, if_pos (h s (by simp)), sumS_snoc, ih fun v hv => h v (List.mem_append_left _ hv)]
theorem byt_le (l : List Sp) (h : Apart l) : 0 ≤ bytS l ∧ bytS l ≤ sumS l := by
  revert h
  refine snoc_ind (P := fun l => Apart l → 0 ≤ bytS l ∧ bytS l ≤ sumS l) (fun _ => ⟨Int.le_refl _, Int.le_refl _⟩) (fun l s ih h => ?_) l
  obtain ⟨h1, h2, h3⟩ := apart_snoc h
  have := ih h1
  have := h2.2.1
  rw [byt_snoc, sumS_snoc]
  split <;> omega
theorem sum_bound {l : List Sp} (h : Norm l) : 0 ≤ sumS l ∧ sumS l ≤ 4611686018427387904 := by
  have := sumS_bound h l.length (Nat.le_refl _)
  rw [List.take_length] at this
  exact ⟨this.1, this.2.2.1⟩
theorem byt_bound (l : List Sp) (h : Apart l) : 0 ≤ bytS l ∧ bytS l ≤ 4611686018427387904 := by
  have h1 := byt_le l h
  have h2 := sum_bound (uni_norm l)
  rw [uni_sum l h] at h2
  omega
theorem len_nil : lenS [] = 0 := rfl
theorem apart_take {l : List Sp} (h : Apart l) (k : Nat) : Apart (l.take k) := ⟨fun s hs => h.1 s (List.mem_of_mem_take hs), h.2.sublist (List.take_sublist _ _)⟩
theorem once_step {P : List Sp} (h : Apart P) {k : Nat} (hk : k < P.length) : lenS (andS (uniS (P.take k)) (ofS [P[k]])) = 0 := by
  have h1 := apart_take h (k + 1)
  rw [List.take_succ_eq_append_getElem hk] at h1
  have : andS (uniS (P.take k)) (ofS [P[k]]) = [] := norm_empty (norm_and _ _) fun x hx => apart_not h1 x ((mem_and (uni_norm _) (norm_of _) x).1 hx)
  rw [this]
  rfl
theorem once_len {P : List Sp} (h : Apart P) : lenS (uniS P) = 4611686018427387904 ∨ lenS (uniS P) = bytS P := by
  unfold lenS
  by_cases ha : (uniS P).any (fun s => s.t == 4611686018427387904) = true
  · rw [if_pos ha]; exact .inl rfl
  · rw [if_neg ha]
    right
    rw [uni_sum P h, byt_sum P fun s hs => ?_]
    have hok := h.1 s hs
    rcases lt_or_ge s.t 4611686018427387904 with h5 | h5
    · exact h5
    · exfalso
      obtain ⟨v, hv, v1, v2⟩ := (mem_uni P 4611686018427387903).2 ⟨s, hs, hok, by have := hok.2.1; have := hok.2.2; omega, by omega⟩
      have := ((uni_norm P).1 v hv).2.2
      exact ha (List.any_eq_true.2 ⟨v, hv, by simp; omega⟩)
theorem holds_mem {F : List Sp} (hF : Norm F) {s : Sp} {U : List Sp} {n : Int} {c : Cf} (h : fetchB s U F n c = true) : ∀ x, s.f ≤ x → x < s.t → Mem F x := by
  have hok := fetch_ok h
  unfold fetchB at h
  simp only [Bool.and_eq_true] at h
  have h2 := h.1.1.2
  have hr : rightB s.f s.t = true := by simp [rightB]; have := hok.1; have := hok.2.1; have := hok.2.2; omega
  rw [← holds_eq hF hr hok.2.1] at h2
  unfold holdsS at h2
  rw [hr, show (s.f == s.t) = false from beq_eq_false_iff_ne.2 (by have := hok.2.1; omega)] at h2
  intro x h3 h4
  simp only [Bool.true_and, Bool.false_or] at h2
  cases hq : F[beh F s.f]? with
  | none => rw [hq] at h2; simp at h2
  | some v =>
    rw [hq] at h2
    simp at h2
    obtain ⟨hi, hs⟩ := List.getElem?_eq_some_iff.1 hq
    exact ⟨v, by rw [← hs]; exact List.getElem_mem hi, by omega, by omega⟩
/-- All that PlanOnce asks. -/
theorem once_all {n : Int} {c : Cf} {g F : List Sp} (hg : Norm g) (hF : Norm F) (hE : chkE n c (unitsS g n c.u) F = 0) (hs : SmallU (unitsS g n c.u) c.u) {P : List Sp} (hP : planP n c (unitsS g n c.u) F = P) :
    Apart P ∧ P.length ≤ 101 ∧ (∀ s ∈ P, wasteS s (unitsS g n c.u) ≤ c.wa) ∧ lenS (lessS (uniS P) F) = 0 ∧ lenS (lessS (andS g (boxS n)) (uniS P)) = 0 := by
  obtain ⟨r1, r2, _⟩ := plan_right hg hF hE hs
  rw [hP] at r1 r2
  obtain ⟨a1, a2⟩ := right_all _ _ r1
  have hap : Apart P := ⟨fun s hs => fetch_ok (a1 s hs).1, a2⟩
  have hp := ok_parts hE
  have hm2 := hp.1
  simp [measB] at hm2
  refine ⟨hap, ?_, fun s hs => fetch_waste (a1 s hs).1, ?_, ?_⟩
  · rw [← hP]
    unfold planP planL
    rw [if_pos hE]
    exact planF_len _ _ _ _
  · have : lessS (uniS P) F = [] := norm_empty (norm_less _ _) fun x hx => by
      rw [mem_less (uni_norm _) hF, mem_uni] at hx
      obtain ⟨⟨s, hs, _, s1, s2⟩, h2⟩ := hx
      exact h2 (holds_mem hF (a1 s hs).1 x s1 s2)
    rw [this]; rfl
  · obtain ⟨e1, e2, e3⟩ := end_bound hm2.2
    have : lessS (andS g (boxS n)) (uniS P) = [] := norm_empty (norm_less _ _) fun x hx => by
      rw [mem_less (norm_and _ _) (uni_norm _), mem_and hg (norm_box n), mem_box n x e2] at hx
      obtain ⟨⟨h1, h2, h3⟩, h4⟩ := hx
      have hU := (mem_units hg hp.1 x).2 ⟨h2, h3, x, h1, h2, h3, rfl⟩
      obtain ⟨s, hs, s1, s2⟩ := r2 x hU
      exact h4 ((mem_uni _ _).2 ⟨s, hs, hap.1 s hs, s1, s2⟩)
    rw [this]; rfl
end Go.Proofs.Ytdcdnnbijjcfmaa
