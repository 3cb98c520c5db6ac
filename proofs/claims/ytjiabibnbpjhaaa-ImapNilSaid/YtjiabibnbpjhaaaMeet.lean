/- The contracts of span.Meet, span.Has, and the small methods of a map: New, Len, In, All, Clone. -/
import Derived.Test.YtjiabibnbpjhaaaPut
namespace Go.Proofs.Ytjiabibnbpjhaaa
open Go.RowKit

/-- What two spans have: span.Meet. -/
def meets (a b c d : Int) : Bool := rightB a b && rightB c d && decide (max a c < min b d)
def meetV (a b c d : Int) : Value := if meets a b c d then .agg #[.int .i64 (max a c), .int .i64 (min b d)] else .agg #[.int .i64 0, .int .i64 0]

set_option maxRecDepth 100000 in
theorem meet_calls (a b c d : Int) (w : World) :
    Calls Try.prog 48 #[.agg #[.int .i64 a, .int .i64 b], .agg #[.int .i64 c, .int .i64 d]] w fun e w' => e = .returned (.tuple #[meetV a b c d, .bool (meets a b c d)]) ∧ Ext w w' := by
  have hw3 : Ext w (((w.alloc (.cells #[.int .i64 a, .int .i64 b] 34)).alloc (.cells #[.int .i64 c, .int .i64 d] 34)).alloc (.cells #[.int .i64 0, .int .i64 0] 34)) := (((Ext.refl w).alloc _).alloc _).alloc _
  go_enter Try.func48, Try.ntmps48
  go_wp2_with fail
  refine (right_calls _ _ _).mono ?_
  rintro e w1 ⟨rfl, hx⟩
  have f0 : w1.cell? ⟨w.heap.size + 1 + 1, 0, none⟩ = some (.int .i64 0) := hx.cell (by simp [go_sem])
  have f1 : w1.cell? ⟨w.heap.size + 1 + 1, 1, none⟩ = some (.int .i64 0) := hx.cell (by simp [go_sem])
  have g0 : w1.frozen? ⟨w.heap.size + 1 + 1, 0, none⟩ = false := (hx.frozen (by simp)).trans (by simp [go_sem])
  have g1 : w1.frozen? ⟨w.heap.size + 1 + 1, 1, none⟩ = false := (hx.frozen (by simp)).trans (by simp [go_sem])
  have z1 : w.heap.size + 1 + 1 < w1.heap.size := by have := hx.size; simp at this; omega
  have a0 : w1.cell? ⟨w.heap.size, 0, none⟩ = some (.int .i64 a) := hx.cell (by simp [go_sem])
  have a1 : w1.cell? ⟨w.heap.size, 1, none⟩ = some (.int .i64 b) := hx.cell (by simp [go_sem])
  have b0 : w1.cell? ⟨w.heap.size + 1, 0, none⟩ = some (.int .i64 c) := hx.cell (by simp [go_sem])
  have b1 : w1.cell? ⟨w.heap.size + 1, 1, none⟩ = some (.int .i64 d) := hx.cell (by simp [go_sem])
  replace hx := hw3.trans hx
  clear hw3
  cases e1 : rightB a b
  · have hv : meets a b c d = false := by simp [meets, e1]
    have hw : meetV a b c d = .agg #[.int .i64 0, .int .i64 0] := by simp [meetV, hv]
    go_wp2
    refine bodyPost_ret (v := .tuple #[.agg #[.int .i64 0, .int .i64 0], .bool false]) (by simp [results, Try.results48, go_sem, f0, f1]) rfl ⟨by rw [hw, hv], ?_⟩
    exact (hx.setCell (by show w.heap.size ≤ w.heap.size + 1 + 1; omega) _).setCell (by show w.heap.size ≤ w.heap.size + 1 + 1; omega) _
  · go_wp2_with fail
    refine (right_calls _ _ _).mono ?_
    rintro e w2 ⟨rfl, hx2⟩
    replace f0 := hx2.cell f0
    replace f1 := hx2.cell f1
    replace g0 := (hx2.frozen (by simpa using z1)).trans g0
    replace g1 := (hx2.frozen (by simpa using z1)).trans g1
    replace z1 := Nat.lt_of_lt_of_le z1 hx2.size
    replace a0 := hx2.cell a0
    replace a1 := hx2.cell a1
    replace b0 := hx2.cell b0
    replace b1 := hx2.cell b1
    replace hx := hx.trans hx2
    clear hx2
    cases e2 : rightB c d
    · have hv : meets a b c d = false := by simp [meets, e2]
      have hw : meetV a b c d = .agg #[.int .i64 0, .int .i64 0] := by simp [meetV, hv]
      go_wp2
      refine bodyPost_ret (v := .tuple #[.agg #[.int .i64 0, .int .i64 0], .bool false]) (by simp [results, Try.results48, go_sem, f0, f1]) rfl ⟨by rw [hw, hv], ?_⟩
      exact (hx.setCell (by show w.heap.size ≤ w.heap.size + 1 + 1; omega) _).setCell (by show w.heap.size ≤ w.heap.size + 1 + 1; omega) _
    · have z2 : w.heap.size + 1 + 1 < w2.heap.size + 1 := by omega
      cases e3 : decide (max a c < min b d)
      · have hv : meets a b c d = false := by simp only [meets, e3, Bool.and_false]
        have hw : meetV a b c d = .agg #[.int .i64 0, .int .i64 0] := by simp [meetV, hv]
        have e4 : ¬ max a c < min b d := by simpa using e3
        clear e3
        go_wp2
        refine bodyPost_ret (v := .tuple #[.agg #[.int .i64 0, .int .i64 0], .bool false]) (by simp [results, Try.results48, go_sem, f0, f1, z1]) rfl ⟨by rw [hw, hv], ?_⟩
        refine Ext.alloc (Ext.setCell (Ext.setCell hx ?_ _) ?_ _) _ <;> (show w.heap.size ≤ w.heap.size + 1 + 1; omega)
      · have hv : meets a b c d = true := by simp only [meets, e1, e2, e3, Bool.and_true]
        have hw : meetV a b c d = .agg #[.int .i64 (max a c), .int .i64 (min b d)] := by simp [meetV, hv]
        have e4 : max a c < min b d := by simpa using e3
        clear e3
        go_wp2
        refine bodyPost_ret (v := .tuple #[.agg #[.int .i64 (max a c), .int .i64 (min b d)], .bool true]) (by simp [results, Try.results48, go_sem, f0, f1, z1]) rfl ⟨by rw [hw, hv], ?_⟩
        refine Ext.alloc (Ext.setCell (Ext.setCell hx ?_ _) ?_ _) _ <;> (show w.heap.size ≤ w.heap.size + 1 + 1; omega)

theorem len_calls (mb : Nat) (l : List Rn) (w : World) (hm : Holds w mb l) (_hl : l.length ≤ 1000000) :
    Calls Try.prog 14 #[.pointer (some ⟨mb, 0, none⟩)] w fun e w' => e = .returned (.int .i64 l.length) ∧ w = w' := by
  obtain ⟨A, c, hmb, _, _⟩ := hm
  have hm0 : w.cell? ⟨mb, 0, none⟩ = some (.slice A l.length c) := by rw [cell_of_row w mb 0 _ _ _ hmb]; rfl
  clear hmb
  go_enter Try.func14, Try.ntmps14
  go_wp2
  go_ret
  exact ⟨rfl, rfl⟩

theorem new_calls (w : World) :
    Calls Try.prog 34 #[] w fun e w' => e = .returned (.pointer (some ⟨w.heap.size, 0, none⟩)) ∧ Holds w' w.heap.size [] ∧ Ext w w' ∧ w'.heap.size = w.heap.size + 1 := by
  go_enter Try.func34, Try.ntmps34
  go_wp2
  go_ret
  refine ⟨rfl, ⟨none, 0, ?_, Nat.le_refl _, by simp [flat]⟩, (Ext.refl w).alloc _, by simp⟩
  exact heap_alloc_new w _

end Go.Proofs.Ytjiabibnbpjhaaa
