/- The contracts of New and of awake, and the acts once more on a table of one's own. -/
import Derived.Test.YtaanbgagdanalaaStarY
import Derived.Test.YtaanbgagdanalaaAllT
namespace Go.Proofs.Ytaanbgagdanalaa
open Go.RowKit

def T0 : Tab := ⟨[], 0⟩
/-- The table at tb is t, and nothing that lay in w0 has turned. -/
def St (w0 w : World) (tb : Nat) (O : List Nat) (t : Tab) : Prop := TabR w0.heap.size w tb O t ∧ Ext w0 w
section
variable {w0 w w' : World} {tb : Nat} {O O' : List Nat} {t t' : Tab} {v : Value} {e : Ending}
theorem St.next (h : St w0 w tb O t) (k : TabR w0.heap.size w' tb O' t') (ht : Turn O w w') : St w0 w' tb O' t' :=
  ⟨k, Below.trans h.2 (ht.below (fun x hx => (h.1.lies x hx).1) h.2.size)⟩
theorem St.ext (h : St w0 w tb O t) (hx : Ext w w') : St w0 w' tb O t := ⟨h.1.ext hx, h.2.trans hx⟩
theorem St.act (h : St w0 w tb O t) (k : Act w0.heap.size w tb O t' v e w') : e = .returned v ∧ ∃ O', St w0 w' tb O' t' ∧ Turn O w w' ∧ Of O O' w := by
  obtain ⟨h1, O', h2, h3, h4⟩ := k
  exact ⟨h1, O', h.next h2 h3, h3, h4⟩
end
theorem small_T0 : Small T0 := ⟨by decide, by decide, by decide, ⟨by decide, by simp [T0]⟩, by simp [T0]⟩

theorem new_calls (w : World) : Calls Try.prog 10 #[] w fun e w' => e = .returned (.pointer (some ⟨w.heap.size, 0, none⟩)) ∧ St w w' w.heap.size [w.heap.size] T0 := by
  go_enter Try.func10, Try.ntmps10
  go_wp2
  go_ret
  refine ⟨rfl, ⟨.slice none 0 0, [], ⟨Nat.le_refl _, heap_alloc_new w _, World.ownsRow_nil _ _ _ _, fun i h => by simp at h, by simp [ob, Value.ownBlock], fun i h => by simp at h, fun i j h => by simp at h⟩, rfl, rfl⟩, (Ext.refl w).alloc _⟩

def F1 (l : List Int) : Fl := ⟨1, ⟨#[47, 97]⟩, 0, 8, ⟨#[]⟩, false, ⟨#[]⟩, false, 0, 0, 0, 0, 0, false, 0, l⟩
def F0 : Fl := ⟨0, ⟨#[47, 97]⟩, 0, 8, ⟨#[]⟩, false, ⟨#[]⟩, false, 0, 0, 0, 0, 0, false, 0, []⟩
theorem aw0 : T0.start F0 = (⟨[F1 []], 1⟩, 1, 0) := by rfl
theorem aw1 : (Tab.mk [F1 []] 1).join 1 5 = (⟨[F1 [5]], 1⟩, 0) := by rfl
theorem aw2 : (Tab.mk [F1 [5]] 1).join 1 6 = (⟨[F1 [5, 6]], 1⟩, 0) := by rfl
theorem aw3 : (Tab.mk [F1 [5, 6]] 1).leave 5 = (⟨[F1 [6]], 1⟩, []) := by rfl
theorem aw4 : (Tab.mk [F1 [6]] 1).leave 6 = (⟨[F1 []], 1⟩, [1]) := by rfl
theorem small_aw (l : List Int) (h1 : l.length ≤ 1000) (h2 : l.Nodup) : Small ⟨[F1 l], 1⟩ :=
  ⟨by simp, by simp, by simp, ⟨by simp, by simp [F1]⟩, by simp only [List.mem_singleton, forall_eq]; exact ⟨h1, h2, by simp [F1], by simp [F1], by simp [F1], by simp [F1]⟩⟩

set_option maxRecDepth 100000 in
theorem awake_calls (w : World) : Calls Try.prog 9 #[] w fun e w' => e = .returned (.bool true) ∧ Ext w w' := by
  go_enter Try.func9, Try.ntmps9
  go_wp2_with fail
  refine (new_calls w).mono ?_
  rintro e w1 ⟨rfl, h1⟩
  go_wp2_with fail
  refine (start_calls w.heap.size w.heap.size _ T0 F0 w1 h1.1 h1.2.size small_T0).mono ?_
  intro e w2 h2
  rw [aw0] at h2
  obtain ⟨rfl, O2, h2, _, _⟩ := h1.act h2
  clear h1
  go_wp2_with fail
  refine (join_calls w.heap.size w.heap.size _ _ 1 5 w2 h2.1 h2.2.size (small_aw [] (by simp) (by simp))).mono ?_
  intro e w3 h3
  rw [aw1] at h3
  obtain ⟨rfl, O3, h3, _, _⟩ := h2.act h3
  clear h2
  go_wp2_with fail
  refine (join_calls w.heap.size w.heap.size _ _ 1 6 w3 h3.1 h3.2.size (small_aw [5] (by simp) (by simp))).mono ?_
  intro e w4 h4
  rw [aw2] at h4
  obtain ⟨rfl, O4, h4, _, _⟩ := h3.act h4
  clear h3
  go_wp2_with fail
  refine (leave_calls w.heap.size w.heap.size _ _ 5 w4 h4.1 (small_aw [5, 6] (by simp) (by simp))).mono ?_
  intro e w5 h5
  rw [aw3] at h5
  obtain ⟨v5, O5, rfl, r5, h5, t5, _, _⟩ := h5
  replace h5 := h4.next h5 t5
  clear h4 t5
  obtain ⟨A5, c5, rfl, _⟩ := own_shape r5
  clear r5
  go_wp2_with fail
  refine (leave_calls w.heap.size w.heap.size _ _ 6 w5 h5.1 (small_aw [6] (by simp) (by simp))).mono ?_
  intro e w6 h6
  rw [aw4] at h6
  obtain ⟨v6, O6, rfl, r6, h6, t6, _, _⟩ := h6
  replace h6 := h5.next h6 t6
  clear h5 t6
  obtain ⟨_, A6, c6, rfl, _, p6⟩ := row_ints r6
  obtain ⟨g, rfl, p7⟩ := p6 0 (by simp)
  clear r6 p6
  simp only [List.getElem_cons_zero] at p7
  have HX := Lib.hid h6.2
  clear h6
  go_wp2
  go_ret
  exact ⟨rfl, HX.out⟩
end Go.Proofs.Ytaanbgagdanalaa
