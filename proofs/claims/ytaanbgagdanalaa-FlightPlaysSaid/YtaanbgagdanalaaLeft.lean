/- Who has left: the plain law. -/
import Derived.Test.YtaanbgagdanalaaSame
namespace Go.Proofs.Ytaanbgagdanalaa

def others (f : Fl) (q : Int) : List Int := f.who.filter (· != q)
theorem filter_out {l : List Int} {q : Int} (h : q ∉ l) : l.filter (· != q) = l := List.filter_eq_self.2 fun x hx => by simp; exact fun e => h (e ▸ hx)
theorem quit_who {f : Fl} (hn : f.who.Nodup) (q : Int) : (f.quit q).1.who = others f q := by
  by_cases h : q ∈ f.who
  · rw [quit_in h hn]; rfl
  · rw [quit_out h]; exact (filter_out h).symm
theorem quit_flag {f : Fl} (hn : f.who.Nodup) (q : Int) : (f.quit q).2 = (decide (0 < f.who.length) && decide ((others f q).length = 0)) := by
  by_cases h : q ∈ f.who
  · rw [quit_in h hn]
    have : 0 < f.who.length := List.length_pos_of_mem h
    simp [others, this]
  · rw [quit_out h]
    unfold others
    rw [filter_out h]
    by_cases h0 : 0 < f.who.length
    · have : ¬ f.who.length = 0 := by omega
      simp [this]
    · simp [h0]
theorem agF_quit (f : Fl) (q : Int) : agF (f.quit q).1 = agF f := by unfold Fl.quit; split <;> rfl
theorem headOf_quit (f : Fl) (q : Int) : headOf (f.quit q).1 = headOf f := by unfold Fl.quit; split <;> rfl
theorem quit_twice {f : Fl} (hn : f.who.Nodup) (q : Int) : (f.quit q).1.quit q = ((f.quit q).1, false) := by
  refine quit_out ?_
  rw [quit_who hn]
  unfold others
  intro e
  have := (List.mem_filter.1 e).2
  simp at this
section
variable {t : Tab} {q : Int}
theorem leave_of (hs : Small t) : (t.leave q).1.of q = [] := by
  unfold Tab.of Tab.leave
  dsimp only
  rw [List.map_eq_nil_iff, List.filter_eq_nil_iff]
  intro f hf
  obtain ⟨g, hg, rfl⟩ := List.mem_map.1 hf
  have hn := (hs.2.2.2.2 g hg).2.1
  rw [quit_who hn]
  simp [others]
theorem leave_twice (hs : Small t) : (t.leave q).1.leave q = ((t.leave q).1, []) := by
  have hq : ∀ f ∈ (t.leave q).1.l, f.quit q = (f, false) := fun f hf => by
    obtain ⟨g, hg, rfl⟩ := List.mem_map.1 hf
    exact quit_twice (hs.2.2.2.2 g hg).2.1 q
  have e1 : ((t.leave q).1.l.map fun f => (f.quit q).1) = (t.leave q).1.l := by
    have : ((t.leave q).1.l.map fun f => (f.quit q).1) = (t.leave q).1.l.map id := List.map_congr_left fun f hf => by rw [hq f hf]; rfl
    rw [this, List.map_id]
  have e2 : ((t.leave q).1.l.filter fun f => (f.quit q).2) = [] := List.filter_eq_nil_iff.2 fun f hf => by rw [hq f hf]; simp
  unfold Tab.leave at e1 e2 ⊢
  rw [e1, e2]
  rfl
theorem leave_len : (t.leave q).1.l.length = t.l.length := by simp [Tab.leave]
theorem leave_get {k : Nat} (hk : k < t.l.length) : (t.leave q).1.l[k]'(by rw [leave_len]; exact hk) = (t.l[k].quit q).1 := by simp [Tab.leave]
theorem leave_who (hs : Small t) {k : Nat} (hk : k < t.l.length) : (t.leave q).1.who t.l[k].id = others t.l[k] q := by
  have e1 : (t.leave q).1.l.map Fl.id = t.l.map Fl.id := by
    have e : (Fl.id ∘ fun f : Fl => (f.quit q).1) = Fl.id := by funext f; exact quit_id f q
    simp only [Tab.leave, List.map_map, e]
  have hp : place (t.leave q).1.l t.l[k].id = some k := by rw [place_ids, e1, ← place_ids, place_at hs.2.2.2.1 hk]
  unfold Tab.who
  rw [hp]
  dsimp only
  rw [getElem!_pos _ k (by rw [leave_len]; exact hk), leave_get hk, quit_who (hs.2.2.2.2 _ (List.getElem_mem hk)).2.1]
/-- How many were alone in the first k flights. -/
def alones (l : List Fl) (q : Int) (k : Nat) : List Int := ((l.take k).filter fun f => (f.quit q).2).map Fl.id
theorem alones_zero (l : List Fl) (q : Int) : alones l q 0 = [] := rfl
theorem alones_all (l : List Fl) (q : Int) : alones l q l.length = (l.filter fun f => (f.quit q).2).map Fl.id := by unfold alones; rw [List.take_length]
theorem alones_succ {l : List Fl} {k : Nat} (h : k < l.length) : alones l q (k + 1) = if (l[k].quit q).2 then alones l q k ++ [l[k].id] else alones l q k := take_filter h _
theorem alones_get {l : List Fl} {k : Nat} (h : k < l.length) (hf : (l[k].quit q).2 = true) : ∃ hn : (alones l q k).length < (alones l q l.length).length, (alones l q l.length)[(alones l q k).length] = l[k].id := by
  have e : alones l q l.length = alones l q k ++ (l[k].id :: ((l.drop (k + 1)).filter fun f => (f.quit q).2).map Fl.id) := by
    rw [alones_all]
    conv => lhs; rw [← List.take_append_drop k l, List.drop_eq_getElem_cons h]
    rw [List.filter_append, List.filter_cons_of_pos (p := fun f => (Fl.quit f q).2) hf, List.map_append, List.map_cons]
    rfl
  have hl : (alones l q k).length < (alones l q l.length).length := by rw [e]; simp
  refine ⟨hl, ?_⟩
  have : (alones l q l.length)[(alones l q k).length]? = some l[k].id := by rw [e]; simp
  rw [List.getElem?_eq_getElem hl] at this
  exact Option.some.inj this
theorem alones_le (l : List Fl) (q : Int) (k : Nat) : (alones l q k).length ≤ l.length := by
  unfold alones
  rw [List.length_map]
  exact Nat.le_trans (List.length_filter_le _ _) (by simp; omega)
end
end Go.Proofs.Ytaanbgagdanalaa
