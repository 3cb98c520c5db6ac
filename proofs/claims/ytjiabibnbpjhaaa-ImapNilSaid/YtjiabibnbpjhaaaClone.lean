/- The contracts of Map.Clone and of ImapApart's second function. -/
import Derived.Test.YtjiabibnbpjhaaaMade
import Derived.Test.YtjiabibnbpjhaaaWords
namespace Go.Proofs.Ytjiabibnbpjhaaa
open Go.RowKit

theorem flat_one' (l : List Rn) : ∀ u ∈ flat l, u.oneCell' = true := by
  intro u hu
  simp only [flat, List.mem_flatMap] at hu
  obtain ⟨r, _, hr⟩ := hu
  simp only [Rn.cells, List.mem_cons, List.not_mem_nil, or_false] at hr
  rcases hr with rfl | rfl | rfl <;> rfl

theorem add_plain (b o j : Nat) : (⟨b, o, none⟩ : Addr).add j = ⟨b, o + j, none⟩ := by
  cases j <;> simp [Addr.add]

def ClonePost (w : World) (l : List Rn) (e : Ending) (w' : World) : Prop := ∃ cb, e = .returned (.pointer (some ⟨cb, 0, none⟩)) ∧ Holds w' cb l ∧ w.heap.size ≤ cb ∧ Ext w w'

set_option maxRecDepth 100000 in
theorem clone_calls (mb : Nat) (l : List Rn) (w : World) (hm : Holds w mb l) (hl : l.length ≤ 100000) :
    Calls Try.prog 21 #[.pointer (some ⟨mb, 0, none⟩)] w (ClonePost w l) := by
  obtain ⟨A, c, hmb, hlc, hcell⟩ := hm
  have hm0 : w.cell? ⟨mb, 0, none⟩ = some (.slice A l.length c) := by rw [cell_of_row w mb 0 _ _ _ hmb]; rfl
  have hR : Reads w w.heap.size 3 A l.length (flat l) := by
    refine ⟨flat_length l, fun h0 => ?_⟩
    obtain ⟨b, hA, _, p0, _, _⟩ := holds_at hcell h0
    refine ⟨_, hA, block_of_cell p0, fun j u hu => ?_⟩
    obtain ⟨b', hA', _, pj⟩ := hcell j u hu
    rw [hA] at hA'
    injection hA' with hA'
    rw [hA', add_plain, Nat.zero_add]
    exact pj
  have hown0 : w.ownsRow w.heap.size 80 3 (.slice none 0 0) 0 [] := World.ownsRow_nil _ _ _ _
  have hx0 : Ext w w := Ext.refl w
  clear hcell hmb
  go_enter Try.func21, Try.ntmps21
  go_wp2_with (at_builtin; refine wpList_append_src _ rfl _ _ 71 rfl w.heap.size 80 _ 3 24 Try.underlying71 info80 rfl (by omega) (.slice none 0 0) 0 [] rfl hown0 _ _ _ _ _ rfl hR (flat_one' l) (by simp [maxLen]; omega) (by omega) (Nat.le_refl _) ?_; intro v1 w2 hown2 hm1; have hx2 := ext_moved hx0 hown0 hm1; rw [Nat.zero_add, List.nil_append] at hown2; obtain ⟨A1, c1, rfl, hlc1⟩ := own_shape hown2)
  have hx3 : Ext w (w2.alloc (.cells #[.slice A1 l.length c1] 73)) := hx2.alloc _
  have hown3 := ownsRow_ext hown2 ((Ext.refl w2).alloc (.cells #[.slice A1 l.length c1] 73))
  go_ret
  refine ⟨w2.heap.size, rfl, ⟨A1, c1, heap_alloc_new w2 _, hlc1, fun j u hu => ?_⟩, hx2.size, hx3⟩
  have hj : j < l.length * 3 := by rw [← flat_length]; exact (List.getElem?_eq_some_iff.1 hu).1
  obtain ⟨g, cap, hv, _, _⟩ := hown3.form (by omega)
  cases hv
  refine ⟨g, rfl, ?_, ?_⟩
  · have := (own_lt hown2 (g := g) rfl).2; omega
  · rw [hown3.cellAt _ (by omega)]; exact hu

def Ac.cells (a : Ac) : List Value := [.bool a.d, .int .i64 a.f, .int .i64 a.t, .int .i64 a.v]
def acells (l : List Ac) : List Value := l.flatMap Ac.cells
theorem acells_length (l : List Ac) : (acells l).length = l.length * 4 := by
  induction l with
  | nil => rfl
  | cons a l ih => simp [acells, Ac.cells] at ih ⊢; omega
theorem acells_append (a b : List Ac) : acells (a ++ b) = acells a ++ acells b := by simp [acells]
theorem acells_get (l : List Ac) (k j : Nat) (hk : k < l.length) (hj : j < 4) : (acells l)[k * 4 + j]? = (Ac.cells l[k])[j]? := by
  induction l generalizing k with
  | nil => simp at hk
  | cons a l ih =>
    have hc : acells (a :: l) = Ac.cells a ++ acells l := rfl
    have hl : (Ac.cells a).length = 4 := rfl
    cases k with
    | zero => rw [hc, List.getElem?_append_left (by rw [hl]; omega)]; simp
    | succ k =>
      rw [hc, List.getElem?_append_right (by rw [hl]; omega), hl, show (k + 1) * 4 + j - 4 = k * 4 + j from by omega, ih k (by simpa using hk)]
      rfl
theorem acells_one (l : List Ac) : ∀ u ∈ acells l, u.oneCell' = true := by
  intro u hu
  simp only [acells, List.mem_flatMap] at hu
  obtain ⟨r, _, hr⟩ := hu
  simp only [Ac.cells, List.mem_cons, List.not_mem_nil, or_false] at hr
  rcases hr with rfl | rfl | rfl | rfl <;> rfl
theorem acts_reads {w : World} {A : Option Addr} {l : List Ac} (h : Acts w A l) : Reads w w.heap.size 4 A l.length (acells l) := by
  refine ⟨acells_length l, fun h0 => ?_⟩
  obtain ⟨b, o, hA, p0, _⟩ := h 0 h0
  refine ⟨_, hA, block_of_cell p0, fun j u hu => ?_⟩
  have hj : j < l.length * 4 := by rw [← acells_length]; exact (List.getElem?_eq_some_iff.1 hu).1
  have hk : j / 4 < l.length := by omega
  obtain ⟨b', o', hA', q0, q1, q2, q3⟩ := h (j / 4) hk
  rw [hA] at hA'
  injection hA' with hA'
  injection hA' with e1 e2 _
  subst e1 e2
  rw [show j = j / 4 * 4 + j % 4 from by omega, acells_get l _ _ hk (by omega)] at hu
  have hr : j % 4 < 4 := by omega
  have hjj : j = j / 4 * 4 + j % 4 := by omega
  rw [add_plain]
  generalize j / 4 = k at *
  generalize j % 4 = r at *
  subst hjj
  rcases r with _ | _ | _ | _ | r
  · simp [Ac.cells] at hu; subst hu; exact q0
  · simp [Ac.cells] at hu; subst hu; exact q1
  · simp [Ac.cells] at hu; subst hu; exact q2
  · simp [Ac.cells] at hu; subst hu; exact q3
  · omega
theorem acts_own {w : World} {base : Nat} {e : TypeId} {A : Option Addr} {c : Nat} {l : List Ac} (h : w.ownsRow base e 4 (.slice A l.length c) l.length (acells l)) : Acts w A l := fun k hk => by
  obtain ⟨g, cap, hv, _, _⟩ := h.form (by omega)
  cases hv
  refine ⟨g, 0, rfl, ?_, ?_, ?_, ?_⟩
  all_goals rw [Nat.zero_add]
  · rw [h.cellAt _ (by omega)]; exact (acells_get l k 0 hk (by omega)).trans rfl
  · rw [h.cellAt _ (by omega)]; exact (acells_get l k 1 hk (by omega)).trans rfl
  · rw [h.cellAt _ (by omega)]; exact (acells_get l k 2 hk (by omega)).trans rfl
  · rw [h.cellAt _ (by omega)]; exact (acells_get l k 3 hk (by omega)).trans rfl

theorem info45 : (Try.prog.info? 45).map (fun i => (i.zero, i.size, i.bytes)) = some (some (.agg #[.bool false, .int .i64 0, .int .i64 0, .int .i64 0]), 4, 32) := by kernel_rfl

def WithPost (w : World) (l : List Ac) (e : Ending) (w' : World) : Prop := ∃ A c, e = .returned (.slice A l.length c) ∧ Acts w' A l ∧ Ext w w'

set_option maxRecDepth 100000 in
theorem with_calls (A : Option Addr) (c : Nat) (l : List Ac) (B : Option Addr) (d : Nat) (x : List Ac) (p : Nat) (w : World) (ha : Acts w A l) (hb : Acts w B x) (hp : w.cell? ⟨p, 0, none⟩ = some (.slice A l.length c)) (hl : l.length ≤ 10000) (hl2 : x.length ≤ 10000) :
    Calls Try.prog 25 #[.slice B x.length d, .pointer (some ⟨p, 0, none⟩)] w (WithPost w (l ++ x)) := by
  have hx1 : Ext w (w.alloc (.cells #[] 45)) := (Ext.refl w).alloc _
  have hown0 : (w.alloc (.cells #[] 45)).ownsRow w.heap.size 45 4 (.slice (some ⟨w.heap.size, 0, none⟩) 0 0) 0 [] :=
    ⟨rfl, .inr ⟨w.heap.size, 0, #[], rfl, Nat.le_refl _, heap_alloc_new w _, Nat.le_refl _, Nat.zero_le _, rfl, rfl⟩⟩
  have hR1 := acts_reads (ha.ext hx1)
  have HB := hide hb
  have hpp := hx1.cell hp
  clear ha hb
  go_enter Try.func25, Try.ntmps25
  go_wp2_with (first | (at_builtin; refine wpList_append_src _ rfl (.tmp 4) (.tmp 5) 22 rfl w.heap.size 45 _ 4 32 Try.underlying22 info45 rfl (by omega) (.slice (some ⟨w.heap.size, 0, none⟩) 0 0) 0 [] rfl hown0 _ _ _ _ _ rfl hR1 (acells_one l) (by simp [maxLen]; omega) (by omega) hx1.size ?_; intro v1 w2 hown2 hm1; have hx2 := ext_moved hx1 hown0 hm1) | (at_builtin; refine wpList_append_src _ rfl (.tmp 6) (.tmp 7) 22 rfl w.heap.size 45 _ 4 32 Try.underlying22 info45 rfl (by omega) v1 _ _ rfl hown2 _ _ _ _ _ rfl (acts_reads ((unhide HB).ext hx2)) (acells_one x) (by simp [maxLen]; omega) (by omega) hx2.size ?_; intro v2 w3 hown3 hm2; have hx3 := ext_moved hx2 hown2 hm2))
  have hlen : (l ++ x).length = 0 + l.length + x.length := by simp
  have hown : w3.ownsRow w.heap.size 45 4 v2 (l ++ x).length (acells (l ++ x)) := by
    rw [hlen, acells_append]; simpa using hown3
  obtain ⟨A2, c2, rfl, _⟩ := own_shape hown
  go_ret
  exact ⟨A2, c2, rfl, acts_own hown, hx3⟩
end Go.Proofs.Ytjiabibnbpjhaaa
