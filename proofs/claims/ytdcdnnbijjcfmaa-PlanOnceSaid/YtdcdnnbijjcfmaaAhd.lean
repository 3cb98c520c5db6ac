/- More waste or longer fetches: no more of them. Plain. -/
import Derived.Test.YtdcdnnbijjcfmaaLim
namespace Go.Proofs.Ytdcdnnbijjcfmaa
open Go.RowKit

def memB (l : List Sp) (x : Int) : Bool := l.any fun s => decide (s.f ≤ x) && decide (x < s.t)
theorem memB_iff {l : List Sp} {x : Int} : memB l x = true ↔ Mem l x := by simp [memB, Mem]
def b01 (b : Bool) : Int := match b with
  | true => 1
  | false => 0
/-- How many of so many numbers from one on are so. -/
def cnt (P : Int → Bool) : Int → Nat → Int
  | _, 0 => 0
  | F, n + 1 => b01 (P F) + cnt P (F + 1) n
theorem cnt_add (P : Int → Bool) (a b : Nat) (F : Int) : cnt P F (a + b) = cnt P F a + cnt P (F + a) b := by
  induction a generalizing F with
  | zero => simp [cnt]
  | succ a ih =>
    rw [show a + 1 + b = (a + b) + 1 by omega]
    simp only [cnt]
    rw [ih, show F + 1 + (a : Int) = F + ((a + 1 : Nat) : Int) by omega]
    omega
theorem cnt_congr {P Q : Int → Bool} {n : Nat} {F : Int} (h : ∀ z, F ≤ z → z < F + n → P z = Q z) : cnt P F n = cnt Q F n := by
  induction n generalizing F with
  | zero => rfl
  | succ n ih =>
    simp only [cnt]
    rw [h F (Int.le_refl _) (by omega), ih fun z h1 h2 => h z (by omega) (by omega)]
theorem cnt_false (n : Nat) (F : Int) : cnt (fun _ => false) F n = 0 := by
  induction n generalizing F with
  | zero => rfl
  | succ n ih => simp only [cnt]; rw [ih]; rfl
theorem cnt_true (n : Nat) (F : Int) : cnt (fun _ => true) F n = n := by
  induction n generalizing F with
  | zero => rfl
  | succ n ih => simp only [cnt]; rw [ih]; simp only [b01]; omega
theorem cnt_both (P Q : Int → Bool) (n : Nat) (F : Int) : cnt (fun z => P z || Q z) F n + cnt (fun z => P z && Q z) F n = cnt P F n + cnt Q F n := by
  induction n generalizing F with
  | zero => rfl
  | succ n ih =>
    simp only [cnt]
    have := ih (F + 1)
    cases P F <;> cases Q F <;> simp only [Bool.or_self, Bool.and_self, Bool.or_true, Bool.or_false, Bool.and_true, Bool.and_false, b01] <;> omega
theorem foldl_from (l : List Sp) (a : Int) : l.foldl (fun n s => n + (s.t - s.f)) a = a + sumS l := by
  induction l generalizing a with
  | nil => simp [sumS]
  | cons s l ih =>
    unfold sumS
    simp only [List.foldl_cons]
    rw [ih, ih (0 + (s.t - s.f))]
    omega
theorem sumS_cons (s : Sp) (l : List Sp) : sumS (s :: l) = (s.t - s.f) + sumS l := by
  show (s :: l).foldl _ 0 = _
  rw [List.foldl_cons, foldl_from]
  omega
theorem sum_cnt (l : List Sp) (hn : Norm l) (F : Int) (n : Nat) (h : ∀ s ∈ l, F ≤ s.f ∧ s.t ≤ F + n) : sumS l = cnt (memB l) F n := by
  induction l generalizing F n with
  | nil =>
    have : cnt (memB []) F n = cnt (fun _ => false) F n := cnt_congr fun _ _ _ => rfl
    rw [this, cnt_false]
    rfl
  | cons s l ih =>
    obtain ⟨h0, h1, h2⟩ := norm_cons.1 hn
    obtain ⟨b0, b1⟩ := h s (by simp)
    have hft := h0.2.1
    obtain ⟨a, ha⟩ : ∃ a : Nat, s.f - F = a := ⟨(s.f - F).toNat, by omega⟩
    obtain ⟨d, hd⟩ : ∃ d : Nat, s.t - s.f = d := ⟨(s.t - s.f).toNat, by omega⟩
    obtain ⟨r, hr⟩ : ∃ r : Nat, n = a + (d + r) := ⟨n - (a + d), by omega⟩
    rw [sumS_cons, ih h2 s.t r fun u hu => ⟨by have := h1 u hu; omega, by have := (h u (by simp [hu])).2; omega⟩, hr, cnt_add, cnt_add]
    have e1 : cnt (memB (s :: l)) F a = 0 := by
      rw [← cnt_false a F]
      refine cnt_congr fun z z1 z2 => ?_
      cases e : memB (s :: l) z
      · rfl
      · rcases mem_cons.1 (memB_iff.1 e) with hm | ⟨u, hu, hm⟩
        · omega
        · have := h1 u hu; omega
    have e2 : cnt (memB (s :: l)) (F + a) d = d := by
      rw [← cnt_true d (F + a)]
      rw [cnt_true]
      rw [← cnt_true d (F + a)]
      refine cnt_congr fun z z1 z2 => ?_
      exact memB_iff.2 (mem_cons.2 (.inl ⟨by omega, by omega⟩))
    have e3 : cnt (memB (s :: l)) (F + a + d) r = cnt (memB l) s.t r := by
      rw [show F + (a : Int) + d = s.t by omega]
      refine cnt_congr fun z z1 z2 => ?_
      rw [Bool.eq_iff_iff, memB_iff, memB_iff, mem_cons]
      constructor
      · rintro (hm | hm)
        · omega
        · exact hm
      · exact .inr
    rw [e1, e2, e3]
    omega
theorem cnt_mono {P Q : Int → Bool} {n : Nat} {F : Int} (h : ∀ z, P z = true → Q z = true) : cnt P F n ≤ cnt Q F n := by
  induction n generalizing F with
  | zero => exact Int.le_refl _
  | succ n ih =>
    simp only [cnt]
    have h1 := ih (F := F + 1)
    have h2 : b01 (P F) ≤ b01 (Q F) := by
      have := h F
      cases hp : P F <;> cases hq : Q F <;> simp [b01, hp, hq] at this ⊢
    omega
theorem sum_mono {A B : List Sp} (hA : Norm A) (hB : Norm B) (h : ∀ x, Mem A x → Mem B x) : sumS A ≤ sumS B := by
  have ha := fun s (hs : s ∈ A) => hA.1 s hs
  have hb := fun s (hs : s ∈ B) => hB.1 s hs
  rw [sum_cnt A hA 0 4611686018427387904 (fun s hs => ⟨(ha s hs).1, by have := (ha s hs).2.2; omega⟩), sum_cnt B hB 0 4611686018427387904 (fun s hs => ⟨(hb s hs).1, by have := (hb s hs).2.2; omega⟩)]
  exact cnt_mono fun z hz => memB_iff.2 (h z (memB_iff.1 hz))
/-- The one that lags has a fetch that ends no later than the other's greatest. -/
theorem ahead {L L' F : List Sp} {c c' : Cf} {E : Int} (h : Pok L F c E) (h' : Pok L' F c' E) (hu : c'.u = c.u) (hw : c.wa ≤ c'.wa) (hm : c.mo ≤ c'.mo) {a : Int} (hR : ∀ y, Mem L' y ↔ Mem L y ∧ a ≤ y) (h0 : 0 < L.length) (h0' : 0 < L'.length) :
    endC L (freeT F L[0].f) c ≤ endC L' (freeT F L'[0].f) c' := by
  have hN := h.lok.norm
  have hN' := h'.lok.norm
  obtain ⟨⟨j, hj⟩, hmax⟩ := endC_spec h.lok h.unit h.most h.wa h.norm h.free h0
  obtain ⟨⟨j1, hj1⟩, hmax'⟩ := endC_spec h'.lok h'.unit h'.most h'.wa h'.norm h'.free h0'
  have hg0 := hN.get h0
  have hg0' := hN'.get h0'
  have hf0' : Mem L' L'[0].f := mem_idx h0' (Int.le_refl _) hg0'.2.1
  have hf0 := (hR _).1 hf0'
  have hmin : ∀ {M : List Sp} (hM : Norm M) (hM0 : 0 < M.length) {x : Int}, Mem M x → M[0].f ≤ x := fun {M} hM hM0 {x} hx => by
    obtain ⟨s, hs, s1, s2⟩ := hx
    obtain ⟨k, hk, rfl⟩ := List.mem_iff_getElem.1 hs
    rcases Nat.eq_zero_or_pos k with h6 | h6
    · subst h6; exact s1
    · have := hM.lt h6 hk; have := hM.get hM0; omega
  have hle0 := hmin hN h0 hf0.1
  generalize hev : endC L (freeT F L[0].f) c = e at *
  have hjl := hj.hj
  have hlo := hj.lo
  have hhi := hj.hi
  have hal := hj.al
  have hfr := hj.fr
  rw [getD_i hjl] at hlo hhi hal hfr
  rcases lt_or_ge L'[0].f e with hlt | hge
  · have hme : Mem L (e - 1) := mem_idx hjl (by omega) (by omega)
    have hme' : Mem L' (e - 1) := (hR _).2 ⟨hme, by omega⟩
    obtain ⟨s, hs, s1, s2⟩ := hme'
    obtain ⟨j', hj', rfl⟩ := List.mem_iff_getElem.1 hs
    obtain ⟨f1, f2, f3, f4⟩ := free_upto h.norm (h.free _ (mem_idx h0 (Int.le_refl _) hg0.2.1))
    obtain ⟨g1, g2, g3, g4⟩ := free_upto h'.norm (h'.free _ hf0')
    have hefree : e ≤ freeT F L[0].f := by
      rcases lt_or_ge (freeT F L[0].f) e with h5 | h5
      · exact absurd (h.free _ (mem_idx hjl (show L[j].f ≤ freeT F L[0].f by omega) (by omega))) f3
      · exact h5
    have hgj' := hN'.get hj'
    have hlej' : L'[0].f ≤ L'[j'].f := hmin hN' h0' (mem_idx hj' (Int.le_refl _) hgj'.2.1)
    have hfr' : L'[j'].f ≤ freeT F L'[0].f := by
      rcases lt_or_ge (freeT F L'[0].f) L'[j'].f with h5 | h5
      · exact absurd (f2 _ (by omega) (by omega)) g3
      · exact h5
    have hal' : e = L'[j'].t ∨ e % c'.u = 0 := by
      rcases hal with h5 | h5
      · left
        rcases lt_or_ge e L'[j'].t with h6 | h6
        · have h7 := (hR e).1 (mem_idx hj' (by omega) h6)
          have h8 := norm_not_t hN (List.getElem_mem hjl)
          rw [← h5] at h8
          exact absurd h7.1 h8
        · omega
      · right; rw [hu]; exact h5
    have hlen' : e = 4611686018427387904 ∨ e - L'[0].f ≤ c'.mo := by
      rcases hj.len with h5 | h5
      · exact .inl h5
      · right; omega
    have hwst : wst L' j' ≤ wst L j := by
      obtain ⟨p1, p2, p3, p4⟩ := gaps_inv hN j hjl
      obtain ⟨q1, q2, q3, q4⟩ := gaps_inv hN' j' hj'
      rw [← p3, ← q3]
      refine sum_mono q1 p1 fun x hx => ?_
      obtain ⟨⟨_, x1⟩, x2, x3⟩ := (q4 x).1 hx
      have hxL : ¬ Mem L x := fun hm => x3 ((hR x).2 ⟨hm, by omega⟩)
      refine (p4 x).2 ⟨⟨h0, by omega⟩, ?_, hxL⟩
      rcases lt_or_ge x L[j].f with h5 | h5
      · exact h5
      · exact absurd (mem_idx hjl h5 (by omega)) hxL
    have := hj.wa
    exact hmax' j' e ⟨hj', by rw [getD_i hj']; omega, by rw [getD_i hj']; omega, by rw [getD_i hj']; exact hal', hlen', by omega, by rw [getD_i hj']; exact hfr'⟩
  · have h5 := hj1.lo
    have h6 := hj1.hj
    rw [getD_i h6] at h5
    have hg1 := hN'.get h6
    have := hmin hN' h0' (mem_idx h6 (Int.le_refl _) hg1.2.1)
    omega
theorem fewer {F : List Sp} {c c' : Cf} {E : Int} (hu : c'.u = c.u) (hw : c.wa ≤ c'.wa) (hm : c.mo ≤ c'.mo) : ∀ (k : Nat) (L L' : List Sp) (a : Int), Pok L F c E → Pok L' F c' E → (∀ y, Mem L' y ↔ Mem L y ∧ a ≤ y) → (planF F c' k L').length ≤ (planF F c k L).length := by
  intro k
  induction k with
  | zero => intro L L' a _ _ _; exact Nat.le_refl _
  | succ k ih =>
    intro L L' a h h' hR
    cases hL' : L' with
    | nil => exact Nat.zero_le _
    | cons s' l' =>
      subst hL'
      have hg := h'.lok.norm.get (i := 0) (by simp)
      have hm0 : Mem L s'.f := ((hR _).1 ⟨s', by simp, Int.le_refl _, hg.2.1⟩).1
      cases hL : L with
      | nil => subst hL; obtain ⟨_, hs, _⟩ := hm0; simp at hs
      | cons s l =>
        subst hL
        have h0 : 0 < (s :: l).length := by simp
        have h0' : 0 < (s' :: l').length := by simp
        have hah := ahead h h' hu hw hm hR h0 h0'
        obtain ⟨_, _, b3, b4, _⟩ := pok_step h h0 rfl
        obtain ⟨_, _, d3, d4, _⟩ := pok_step h' h0' rfl
        have := ih _ _ (endC (s' :: l') (freeT F s'.f) c') b3 d3 fun y => by
          rw [d4, b4, hR]
          show (Mem (s :: l) y ∧ a ≤ y) ∧ endC (s' :: l') (freeT F s'.f) c' ≤ y ↔ (Mem (s :: l) y ∧ endC (s :: l) (freeT F s.f) c ≤ y) ∧ endC (s' :: l') (freeT F s'.f) c' ≤ y
          have hah' : endC (s :: l) (freeT F s.f) c ≤ endC (s' :: l') (freeT F s'.f) c' := hah
          constructor
          · rintro ⟨⟨x1, x2⟩, x3⟩; exact ⟨⟨x1, by omega⟩, x3⟩
          · rintro ⟨⟨x1, x2⟩, x3⟩
            refine ⟨⟨x1, ?_⟩, x3⟩
            have hmy := d4 y
            have hst := pok_step h' h0' rfl
            have h1 : s'.f < endC (s' :: l') (freeT F s'.f) c' := hst.1
            have h2 := ((hR s'.f).1 ⟨s', by simp, Int.le_refl _, hg.2.1⟩).2
            omega
        show (_ :: planF F c' k _).length ≤ (_ :: planF F c k _).length
        rw [List.length_cons, List.length_cons]
        exact Nat.succ_le_succ this
end Go.Proofs.Ytdcdnnbijjcfmaa
