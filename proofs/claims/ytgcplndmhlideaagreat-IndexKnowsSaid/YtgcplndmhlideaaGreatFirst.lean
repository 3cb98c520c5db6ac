/- The contracts of Set.behind, First, Has, Holds, Spans, Len. -/
import Derived.Test.YtgcplndmhlideaaGreatSpn
import Derived.BigRegion
namespace Go.Proofs.YtgcplndmhlideaaGreat
open Go.RowKit

/-- The place of the first span that ends behind a byte. -/
def beh (l : List Sp) (x : Int) : Nat := (l.takeWhile fun s => decide (s.t ≤ x)).length
theorem beh_of {l : List Sp} {x : Int} {r : Nat} (hr : r ≤ l.length) (h1 : ∀ i (hi : i < l.length), i < r → l[i].t ≤ x) (h2 : ∀ i (hi : i < l.length), r ≤ i → x < l[i].t) : beh l x = r := by
  unfold beh
  induction l generalizing r with
  | nil => simp at hr ⊢; omega
  | cons s l ih =>
    rw [List.takeWhile_cons]
    rcases r with _ | r
    · have := h2 0 (by simp) (Nat.zero_le _)
      simp at this
      rw [if_neg (by simp; omega)]
      rfl
    · have := h1 0 (by simp) (by omega)
      simp at this
      rw [if_pos (by simp; omega), List.length_cons, ih (by simpa using hr) (fun i hi hir => h1 (i + 1) (by simp; omega) (by omega)) (fun i hi hir => h2 (i + 1) (by simp; omega) (by omega))]
theorem beh_le (l : List Sp) (x : Int) : beh l x ≤ l.length := List.Sublist.length_le (List.takeWhile_sublist _)
theorem beh_lo {l : List Sp} {x : Int} {i : Nat} (hi : i < l.length) (h : i < beh l x) : l[i].t ≤ x := by
  unfold beh at h
  induction l generalizing i with
  | nil => simp at hi
  | cons s l ih =>
    rw [List.takeWhile_cons] at h
    split at h
    · rename_i hs
      rcases i with _ | i
      · simpa using hs
      · simpa using ih (by simpa using hi) (by simpa using h)
    · simp at h
theorem beh_at {l : List Sp} {x : Int} (h : beh l x < l.length) : x < l[beh l x].t := by
  unfold beh at h
  suffices hh : ∀ (l : List Sp) (r : Nat) (hr : r = (l.takeWhile fun s => decide (s.t ≤ x)).length) (hlt : r < l.length), x < l[r].t from hh l _ rfl h
  intro l
  induction l with
  | nil => intro r _ hlt; simp at hlt
  | cons s l ih =>
    intro r hr hlt
    rw [List.takeWhile_cons] at hr
    split at hr
    · rename_i hs
      subst hr
      simpa using ih _ rfl (by simpa using hlt)
    · rename_i hs
      subst hr
      simp at hs ⊢
      exact hs


/-- The first span from a byte on. -/
def firstS (l : List Sp) (x : Int) : Option Sp := (l[beh l x]?).map fun s => ⟨max x s.f, s.t⟩
def Sp.val (s : Sp) : Value := .agg #[.int .i64 s.f, .int .i64 s.t]
def optV (s : Option Sp) : Value := (s.getD ⟨0, 0⟩).val

set_option maxRecDepth 100000 in
theorem spans_calls (A : Option Addr) (c : Nat) (l : List Sp) (w : World) (h : SAt w A l) (hl : l.length ≤ 1000000) :
    Calls Tryz.prog 13 #[.agg #[.slice A l.length c]] w (RowPost w l) := by
  have hx0 : Ext w (w.alloc (.cells #[.slice A l.length c] 39)) := (Ext.refl w).alloc _
  have hR := (h.ext hx0).reads
  have hown0 : (w.alloc (.cells #[.slice A l.length c] 39)).ownsRow w.heap.size 53 2 (.slice none 0 0) 0 [] := World.ownsRow_nil _ _ _ _
  have hb := hx0.size
  clear h
  go_enter Tryz.func13, Tryz.ntmps13
  go_wp2_with (at_builtin; refine wpList_append_src _ rfl _ _ 37 rfl w.heap.size 53 _ 2 16 Tryz.underlying37 infoSpan rfl (by omega) (.slice none 0 0) 0 [] rfl hown0 _ _ _ _ _ rfl hR (spans_plain l) (by simp [maxLen]; omega) (by omega) hb ?_; intro v1 w2 hown2 hm1; have hx2 := ext_moved hx0 hown0 hm1; rw [Nat.zero_add, List.nil_append] at hown2)
  go_ret
  exact ⟨v1, rfl, hown2, hx2⟩
end Go.Proofs.YtgcplndmhlideaaGreat
