/- The contract of Set.Has: is a byte one of a set's? -/
import Derived.Test.YtaanbgagdanalaaRgFirst
namespace Go.Proofs.Ytaanbgagdanalaa.Rg
open Go.RowKit

def hasS (l : List Sp) (x : Int) : Bool := match l[beh l x]? with
  | some s => decide (s.f ≤ x)
  | none => false
theorem has_mem {l : List Sp} (hn : Norm l) (x : Int) : hasS l x = true ↔ Mem l x := by
  unfold hasS
  constructor
  · intro h
    cases hq : l[beh l x]? with
    | none => rw [hq] at h; simp at h
    | some s =>
      rw [hq] at h
      obtain ⟨hi, hs⟩ := List.getElem?_eq_some_iff.1 hq
      have h2 := beh_at hi
      rw [hs] at h2
      exact ⟨s, by rw [← hs]; exact List.getElem_mem hi, by simpa using h, h2⟩
  · rintro ⟨s, hs, h1, h2⟩
    obtain ⟨i, hi, rfl⟩ := List.mem_iff_getElem.1 hs
    have hb : beh l x = i := beh_of (Nat.le_of_lt hi) (fun j hj hji => by have := hn.lt hji hi; omega) (fun j hj hij => by
      rcases Nat.eq_or_lt_of_le hij with e | e
      · subst e; exact h2
      · have := hn.lt e hj; have := hn.get hj; have := hn.get hi; omega)
    rw [hb, List.getElem?_eq_getElem hi]
    simpa using h1
set_option maxHeartbeats 2000000 in
set_option maxRecDepth 100000 in
theorem sethas_calls (A : Option Addr) (c : Nat) (l : List Sp) (x : Int) (w : World) (h : SAt w A l) (hn : Norm l) (hl : l.length ≤ 1000000) :
    Calls Try.prog 39 #[.agg #[.slice A l.length c], .int .i64 x] w fun e w' => e = .returned (.bool (hasS l x)) ∧ Ext w w' := by
  have hx0 : Ext w (w.alloc (.cells #[.slice A l.length c] 74)) := (Ext.refl w).alloc _
  have a0 : (w.alloc (.cells #[.slice A l.length c] 74)).cell? ⟨w.heap.size, 0, none⟩ = some (.slice A l.length c) := by simp
  have hdef : hasS l x = (match l[beh l x]? with
    | some s => decide (s.f ≤ x)
    | none => false) := rfl
  have hb0 := beh_le l x
  generalize hasS l x = R at *
  have HB := Lib.hid (behind_calls A c l x _ (h.ext hx0) hn hl)
  go_enter Try.func39, Try.ntmps39
  go_wp2_with fail
  generalize (w.alloc (.cells #[.slice A l.length c] 74)) = w1 at *
  refine HB.out.mono ?_
  rintro e w2 ⟨rfl, hx2⟩
  replace a0 := hx2.cell a0
  have hx := hx0.trans hx2
  clear HB hx0 hx2
  by_cases hlt : beh l x < l.length
  · obtain ⟨b, o, rfl, p0, p1⟩ := h.ext hx _ hlt
    rw [List.getElem?_eq_getElem hlt] at hdef
    generalize l[beh l x] = s at *
    generalize beh l x = k at *
    have HQ : Hid (R = decide (s.f ≤ x)) := Lib.hid hdef
    have i0 : (0 : Int) ≤ (k : Int) := by omega
    have i1 : (k : Int) < (l.length : Int) := by omega
    clear hdef h
    go_wp2
    go_ret
    exact ⟨by rw [HQ.out]; rfl, hx⟩
  · have hR : Hid (R = false) := Lib.hid (by rw [hdef, List.getElem?_eq_none (by omega)])
    have hk : ¬ ((beh l x : Int) < (l.length : Int)) := by omega
    clear hdef h
    generalize beh l x = k at *
    go_wp2
    go_ret
    exact ⟨by rw [hR.out]; rfl, hx⟩
end Go.Proofs.Ytaanbgagdanalaa.Rg
