/- What flies behind any calls: plain, no program in sight. -/
import Derived.Test.YtaanbgagdanalaaFly
import Derived.Test.YtaanbgagdanalaaRuns
import Derived.Test.YtaanbgagdanalaaRgHas
namespace Go.Proofs.Ytaanbgagdanalaa.Rg
open Go.RowKit

def FrOk (f : Fl) : Prop := 0 ≤ f.fr ∧ f.to ≤ 4611686018427387904
def AllFr (t : Tab) : Prop := ∀ f ∈ t.l, FrOk f
theorem allFr_set {t : Tab} (h : AllFr t) (i : Nat) {f : Fl} (hf : FrOk f) (n : Int) : AllFr ⟨t.l.set i f, n⟩ := fun g hg => by
  rcases List.mem_or_eq_of_mem_set hg with hg | rfl
  · exact h g hg
  · exact hf
theorem AllFr.get {t : Tab} (h : AllFr t) {i : Nat} (hi : i < t.l.length) : FrOk t.l[i]! := by
  rw [getElem!_pos t.l i hi]
  exact h _ (List.getElem_mem hi)
theorem frOk_quit {f : Fl} (h : FrOk f) (q : Int) : FrOk (f.quit q).1 := by
  unfold Fl.quit
  split
  · exact h
  · exact h
theorem AllFr.step {t : Tab} (h : AllFr t) (a : Op) : AllFr (t.step a) := by
  unfold Tab.step
  repeat' split
  · unfold Tab.start
    cases hf : starts a.f
    · exact h
    · obtain ⟨_, _, _, _, _, h6, h7, h8⟩ := starts_yes a.f hf
      intro g hg
      simp only [if_true] at hg
      rcases List.mem_append.1 hg with hg | hg
      · exact h g hg
      · simp at hg; subst hg; exact ⟨h7, by show a.f.to ≤ _; omega⟩
  · unfold Tab.join
    cases hp : place t.l a.id with
    | none => exact h
    | some i =>
      dsimp only
      split
      · exact h
      · refine allFr_set h i ?_ _
        exact h.get (place_some hp).1
  · intro g hg
    obtain ⟨f, hf, rfl⟩ := List.mem_map.1 hg
    exact frOk_quit (h f hf) _
  · unfold Tab.quit
    cases hp : place t.l a.id with
    | none => exact h
    | some i => exact allFr_set h i (frOk_quit (h.get (place_some hp).1) _) _
  · unfold Tab.hear
    cases hp : place t.l a.id with
    | none => exact h
    | some i =>
      dsimp only
      repeat' split
      · exact h
      · exact h
      · exact h
      · refine allFr_set h i ?_ _
        exact h.get (place_some hp).1
  · unfold Tab.move
    cases hp : place t.l a.id with
    | none => exact h
    | some i =>
      dsimp only
      repeat' split
      · exact h
      · exact h
      · refine allFr_set h i ?_ _
        exact h.get (place_some hp).1
  · unfold Tab.end_
    cases hp : place t.l a.id with
    | none => exact h
    | some i => exact fun g hg => h g ((List.eraseIdx_sublist t.l i).subset hg)
theorem runs_fr (l : List Op) (k : Nat) (h : k ≤ l.length) : AllFr (runs l k) := by
  induction k with
  | zero => exact fun f hf => by simp [runs_zero, T0] at hf
  | succ k ih => rw [runs_succ (by omega)]; exact (ih (by omega)).step _

theorem com_ok {f : Fl} {k : Nat} (h : FineK k f) (hf : FrOk f) {y : Int} (h1 : (com f).f ≤ y) (h2 : y < (com f).t) : (com f).ok := by
  obtain ⟨_, _, b3, b4, b5, b6⟩ := h
  obtain ⟨d1, d2⟩ := hf
  cases hhe : f.he
  · by_cases hen : 0 < f.en
    · have e : com f = ⟨f.fr, f.to⟩ := by simp [com, hhe, hen]
      rw [e] at h1 h2 ⊢
      dsimp only at h1 h2
      exact ⟨d1, (by show f.fr < f.to; omega), d2⟩
    · have e : com f = ⟨0, 0⟩ := by simp [com, hhe, hen]
      rw [e] at h1 h2
      dsimp only at h1 h2
      omega
  · have e : com f = ⟨f.pl, f.stop⟩ := by simp [com, hhe]
    rw [e] at h1 h2 ⊢
    dsimp only at h1 h2
    exact ⟨b3, (by show f.pl < f.stop; omega), b6⟩
theorem com_right {f : Fl} {k : Nat} (h : FineK k f) (hf : FrOk f) {y : Int} (h1 : (com f).f ≤ y) (h2 : y < (com f).t) : rightB (com f).f (com f).t = true := by
  obtain ⟨a, b, c⟩ := com_ok h hf h1 h2
  simp only [rightB, Bool.and_eq_true, decide_eq_true_eq]
  omega
/-- A byte is served just if it flies. -/
theorem serves_flies {t : Tab} {k : Nat} (h : Upto k t) (hf : AllFr t) (en x : Int) : (srvF t en x).isSome = hasS (ofS (comL t en)) x := by
  rw [Bool.eq_iff_iff, has_mem (norm_of _), mem_of]
  unfold srvF comL
  rw [List.find?_isSome]
  constructor
  · rintro ⟨f, hm, hp⟩
    simp only [Bool.and_eq_true] at hp
    have h2 : (com f).f ≤ x ∧ x < (com f).t := by
      have := hp.2
      unfold hasB at this
      simp only [Bool.and_eq_true, decide_eq_true_eq] at this
      exact ⟨this.1.2, this.2⟩
    exact ⟨com f, List.mem_map.2 ⟨f, List.mem_filter.2 ⟨hm, hp.1⟩, rfl⟩, com_ok (h.2.2.2.2 f hm) (hf f hm) h2.1 h2.2, h2⟩
  · rintro ⟨s, hs, _, h2⟩
    obtain ⟨f, hf2, rfl⟩ := List.mem_map.1 hs
    obtain ⟨hm, hp⟩ := List.mem_filter.1 hf2
    refine ⟨f, hm, ?_⟩
    simp only [Bool.and_eq_true]
    refine ⟨hp, ?_⟩
    unfold hasB
    rw [com_right (h.2.2.2.2 f hm) (hf f hm) h2.1 h2.2]
    simp [h2.1, h2.2]
/-- A number is told just if there is one. -/
theorem served_id {t : Tab} {k : Nat} (h : Upto k t) (en x : Int) : (srvF t en x).isSome = (idO (srvF t en x) != 0) := by
  cases hs : srvF t en x with
  | none => rfl
  | some f =>
    have hm : f ∈ t.l := List.mem_of_find?_eq_some hs
    have := (h.2.2.2.1.2 f hm).1
    show true = (f.id != 0)
    have h0 : f.id ≠ 0 := by omega
    simp [h0]
theorem flies_right {t : Tab} {k : Nat} (h : Upto k t) (hf : AllFr t) (en : Int) : ∀ f ∈ t.l, ofEn en f = true → ∀ y, (com f).f ≤ y → y < (com f).t → rightB (com f).f (com f).t = true :=
  fun f hm _ _ h1 h2 => com_right (h.2.2.2.2 f hm) (hf f hm) h1 h2
end Go.Proofs.Ytaanbgagdanalaa.Rg
