/- What any calls make of a table: the plain law. -/
import Derived.Test.YtaanbgagdanalaaDo2
namespace Go.Proofs.Ytaanbgagdanalaa

def FineK (k : Nat) (f : Fl) : Prop := f.who.length ≤ k ∧ f.who.Nodup ∧ 0 ≤ f.pl ∧ f.pl ≤ 4611686018427387904 ∧ 0 ≤ f.stop ∧ f.stop ≤ 4611686018427387904
/-- A table after up to k calls. -/
def Upto (k : Nat) (t : Tab) : Prop := t.l.length ≤ k ∧ t.last ≤ k ∧ 0 ≤ t.last ∧ Rising t.l t.last ∧ ∀ f ∈ t.l, FineK k f
theorem FineK.mono {k j : Nat} {f : Fl} (h : FineK k f) (hj : k ≤ j) : FineK j f := ⟨Nat.le_trans h.1 hj, h.2⟩
theorem Upto.mono {k j : Nat} {t : Tab} (h : Upto k t) (hj : k ≤ j) : Upto j t := ⟨Nat.le_trans h.1 hj, by have := h.2.1; omega, h.2.2.1, h.2.2.2.1, fun f hf => (h.2.2.2.2 f hf).mono hj⟩
theorem Upto.small {k : Nat} {t : Tab} (h : Upto k t) (hk : k ≤ 1000) : Small t := ⟨Nat.le_trans h.1 hk, by have := h.2.1; omega, h.2.2.1, h.2.2.2.1, fun f hf => (h.2.2.2.2 f hf).mono hk⟩
theorem upto_zero : Upto 0 T0 := ⟨by simp [T0], by simp [T0], by simp [T0], ⟨by simp [T0], by simp [T0]⟩, by simp [T0]⟩
theorem rising_ids {l l' : List Fl} {last : Int} (h : Rising l last) (e : l'.map Fl.id = l.map Fl.id) : Rising l' last := by
  refine ⟨by rw [e]; exact h.1, fun f hf => ?_⟩
  have : f.id ∈ l.map Fl.id := by rw [← e]; exact List.mem_map_of_mem hf
  obtain ⟨g, hg, e2⟩ := List.mem_map.1 this
  rw [← e2]; exact h.2 g hg
theorem set_ids {l : List Fl} {i : Nat} (hi : i < l.length) {f : Fl} (e : f.id = l[i]!.id) : (l.set i f).map Fl.id = l.map Fl.id := by
  rw [List.map_set, e, getElem!_pos l i hi]
  refine List.ext_getElem (by simp) fun j h1 h2 => ?_
  rw [List.getElem_set]
  split
  · subst i; simp
  · rfl
theorem Upto.set {k : Nat} {t : Tab} (h : Upto k t) {i : Nat} (hi : i < t.l.length) {f : Fl} (e : f.id = t.l[i]!.id) (hf : FineK (k + 1) f) : Upto (k + 1) ⟨t.l.set i f, t.last⟩ := by
  refine ⟨by simpa using Nat.le_succ_of_le h.1, by have := h.2.1; simp; omega, h.2.2.1, rising_ids h.2.2.2.1 (set_ids hi e), fun g hg => ?_⟩
  rcases List.mem_or_eq_of_mem_set hg with hg | rfl
  · exact (h.2.2.2.2 g hg).mono (Nat.le_succ k)
  · exact hf
theorem Upto.fine {k : Nat} {t : Tab} (h : Upto k t) {i : Nat} (hi : i < t.l.length) : FineK k t.l[i]! := by rw [getElem!_pos t.l i hi]; exact h.2.2.2.2 _ (List.getElem_mem hi)
theorem fineK_quit {k : Nat} {f : Fl} (h : FineK k f) (q : Int) : FineK k (f.quit q).1 := by
  unfold Fl.quit
  split
  · exact ⟨Nat.le_trans (List.length_erase_le ..) h.1, h.2.1.erase q, h.2.2⟩
  · exact h
theorem Upto.start {k : Nat} {t : Tab} (h : Upto k t) (f : Fl) : Upto (k + 1) (t.start f).1 := by
  unfold Tab.start
  cases hf : starts f
  · exact h.mono (Nat.le_succ k)
  · obtain ⟨_, _, _, _, _, h6, h7, h8⟩ := starts_yes f hf
    obtain ⟨a1, a2, a3, a4, a5⟩ := h
    refine ⟨by simpa using a1, by simp; omega, by simp; omega, ⟨?_, ?_⟩, ?_⟩
    · simp only [if_true, List.map_append, List.map_cons, List.map_nil]
      refine List.pairwise_append.2 ⟨a4.1, by simp, fun x hx y hy => ?_⟩
      obtain ⟨g, hg, rfl⟩ := List.mem_map.1 hx
      simp at hy
      have := (a4.2 g hg).2
      omega
    · intro g hg
      simp only [if_true] at hg ⊢
      rcases List.mem_append.1 hg with hg | hg
      · have := a4.2 g hg; exact ⟨this.1, by omega⟩
      · simp at hg; subst hg; exact ⟨by simp; omega, by simp⟩
    · intro g hg
      simp only [if_true] at hg
      rcases List.mem_append.1 hg with hg | hg
      · exact (a5 g hg).mono (Nat.le_succ k)
      · simp at hg; subst hg; exact ⟨by simp, by simp, h7, by simp; omega, by simp, by simp⟩
theorem Upto.join {k : Nat} {t : Tab} (h : Upto k t) (id q : Int) : Upto (k + 1) (t.join id q).1 := by
  unfold Tab.join
  cases hp : place t.l id with
  | none => exact h.mono (Nat.le_succ k)
  | some i =>
    obtain ⟨p1, p2⟩ := place_some hp
    dsimp only
    split
    · exact h.mono (Nat.le_succ k)
    · rename_i hn
      obtain ⟨b1, b2, b3⟩ := h.fine p1
      exact h.set p1 rfl ⟨by simpa using b1, List.nodup_append.2 ⟨b2, by simp, fun a ha b hb e => by simp at hb; subst hb; subst e; exact hn ha⟩, b3⟩
theorem Upto.quit {k : Nat} {t : Tab} (h : Upto k t) (id q : Int) : Upto (k + 1) (t.quit id q).1 := by
  unfold Tab.quit
  cases hp : place t.l id with
  | none => exact h.mono (Nat.le_succ k)
  | some i =>
    obtain ⟨p1, p2⟩ := place_some hp
    exact h.set p1 (quit_id _ q) ((fineK_quit (h.fine p1) q).mono (Nat.le_succ k))
theorem Upto.leave {k : Nat} {t : Tab} (h : Upto k t) (q : Int) : Upto (k + 1) (t.leave q).1 := by
  refine ⟨by simpa [Tab.leave] using Nat.le_succ_of_le h.1, by have := h.2.1; simp [Tab.leave]; omega, h.2.2.1, rising_ids h.2.2.2.1 ?_, fun g hg => ?_⟩
  · have e : (Fl.id ∘ fun f : Fl => (f.quit q).1) = Fl.id := by funext f; exact quit_id f q
    simp only [Tab.leave, List.map_map, e]
  · obtain ⟨f, hf, rfl⟩ := List.mem_map.1 hg
    exact (fineK_quit (h.2.2.2.2 f hf) q).mono (Nat.le_succ k)
theorem Upto.hear {k : Nat} {t : Tab} (h : Upto k t) (id en pl st : Int) : Upto (k + 1) (t.hear id en pl st).1 := by
  unfold Tab.hear
  cases hp : place t.l id with
  | none => exact h.mono (Nat.le_succ k)
  | some i =>
    obtain ⟨p1, p2⟩ := place_some hp
    dsimp only
    split
    · exact h.mono (Nat.le_succ k)
    · split
      · exact h.mono (Nat.le_succ k)
      · rename_i hb
        split
        · exact h.mono (Nat.le_succ k)
        · obtain ⟨b1, b2, b3⟩ := h.fine p1
          exact h.set p1 rfl ⟨Nat.le_succ_of_le b1, b2, by simp; omega, by simp; omega, by simp; omega, by simp; omega⟩
theorem Upto.move {k : Nat} {t : Tab} (h : Upto k t) (id n : Int) : Upto (k + 1) (t.move id n).1 := by
  unfold Tab.move
  cases hp : place t.l id with
  | none => exact h.mono (Nat.le_succ k)
  | some i =>
    obtain ⟨p1, p2⟩ := place_some hp
    dsimp only
    split
    · exact h.mono (Nat.le_succ k)
    · split
      · exact h.mono (Nat.le_succ k)
      · rename_i hb
        obtain ⟨b1, b2, b3, b4, b5, b6⟩ := h.fine p1
        exact h.set p1 rfl ⟨Nat.le_succ_of_le b1, b2, by show 0 ≤ t.l[i]!.pl + n; omega, by show t.l[i]!.pl + n ≤ _; omega, b5, b6⟩
theorem Upto.end_ {k : Nat} {t : Tab} (h : Upto k t) (id : Int) : Upto (k + 1) (t.end_ id).1 := by
  unfold Tab.end_
  cases hp : place t.l id with
  | none => exact h.mono (Nat.le_succ k)
  | some i =>
    obtain ⟨a1, a2, a3, a4, a5⟩ := h
    have hsub : (t.l.eraseIdx i).Sublist t.l := List.eraseIdx_sublist t.l i
    refine ⟨Nat.le_trans hsub.length_le (Nat.le_succ_of_le a1), by simp; omega, a3, ⟨?_, fun g hg => a4.2 g (hsub.subset hg)⟩, fun g hg => (a5 g (hsub.subset hg)).mono (Nat.le_succ k)⟩
    exact a4.1.sublist (hsub.map Fl.id)
theorem Upto.step {k : Nat} {t : Tab} (h : Upto k t) (a : Op) : Upto (k + 1) (t.step a) := by
  unfold Tab.step
  repeat' split
  · exact h.start _
  · exact h.join _ _
  · exact h.leave _
  · exact h.quit _ _
  · exact h.hear _ _ _ _
  · exact h.move _ _
  · exact h.end_ _
end Go.Proofs.Ytaanbgagdanalaa
