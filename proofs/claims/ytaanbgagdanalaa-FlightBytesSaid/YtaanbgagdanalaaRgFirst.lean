/- The contracts of Set.behind, First, Has, Holds, Spans, Len. -/
import Derived.Test.YtaanbgagdanalaaRgSpn
import Derived.BigRegion
namespace Go.Proofs.Ytaanbgagdanalaa.Rg
open Go.RowKit

/-- The place of the first span that ends behind a byte. -/
def beh (l : List Sp) (x : Int) : Nat := (l.takeWhile fun s => decide (s.t ≤ x)).length
theorem beh_of {l : List Sp} {x : Int} {r : Nat} (hr : r ≤ l.length) (h1 : ∀ i (hi : i < l.length), i < r → l[i].t ≤ x) (h2 : ∀ i (hi : i < l.length), r ≤ i → x < l[i].t) : beh l x = r := by
  unfold beh
  induction l generalizing r with
  | nil => simp at hr ⊢; omega
  | cons s l ih =>
    rw [List.takeWhile_cons]
    rcases r with _ | r
    · have := h2 0 (by simp) (Nat.zero_le _)
      simp at this
      rw [if_neg (by simp; omega)]
      rfl
    · have := h1 0 (by simp) (by omega)
      simp at this
      rw [if_pos (by simp; omega), List.length_cons, ih (by simpa using hr) (fun i hi hir => h1 (i + 1) (by simp; omega) (by omega)) (fun i hi hir => h2 (i + 1) (by simp; omega) (by omega))]
theorem beh_le (l : List Sp) (x : Int) : beh l x ≤ l.length := List.Sublist.length_le (List.takeWhile_sublist _)
theorem beh_lo {l : List Sp} {x : Int} {i : Nat} (hi : i < l.length) (h : i < beh l x) : l[i].t ≤ x := by
  unfold beh at h
  induction l generalizing i with
  | nil => simp at hi
  | cons s l ih =>
    rw [List.takeWhile_cons] at h
    split at h
    · rename_i hs
      rcases i with _ | i
      · simpa using hs
      · simpa using ih (by simpa using hi) (by simpa using h)
    · simp at h
theorem beh_at {l : List Sp} {x : Int} (h : beh l x < l.length) : x < l[beh l x].t := by
  unfold beh at h
  suffices hh : ∀ (l : List Sp) (r : Nat) (hr : r = (l.takeWhile fun s => decide (s.t ≤ x)).length) (hlt : r < l.length), x < l[r].t from hh l _ rfl h
  intro l
  induction l with
  | nil => intro r _ hlt; simp at hlt
  | cons s l ih =>
    intro r hr hlt
    rw [List.takeWhile_cons] at hr
    split at hr
    · rename_i hs
      subst hr
      simpa using ih _ rfl (by simpa using hlt)
    · rename_i hs
      subst hr
      simp at hs ⊢
      exact hs

set_option maxHeartbeats 1000000 in
set_option maxRecDepth 100000 in
theorem behind_calls (A : Option Addr) (c : Nat) (l : List Sp) (x : Int) (w : World) (h : SAt w A l) (hn : Norm l) (hl : l.length ≤ 1000000) :
    Calls Try.prog 60 #[.agg #[.slice A l.length c], .int .i64 x] w fun e w' => e = .returned (.int .i64 (beh l x)) ∧ Ext w w' := by
  go_enter Try.func60, Try.ntmps60
  go_wp2
  refine wp_region_ext_lit (by kernel_rfl) (by kernel_rfl) ?_
  intro X _ g hg hg'
  have c0 : ∀ n, (g n).cell? ⟨w.heap.size, 0, none⟩ = some (.slice A l.length c) := fun n => (hg n).cell (by simp)
  repeat (go_big_quiet_step (fail))
  refine wpQuiet_nil ?_
  rintro w' ⟨n, rfl⟩
  replace c0 := c0 n
  have hx := ((Ext.refl w).alloc (.cells #[.slice A l.length c] 74)).trans (hg n)
  clear hg hg'
  generalize g n = wg at *
  generalize w.heap.size = xb at *
  go_wp2
  go_loop [5, 6] (fun lo hi => ∃ p q : Nat, p ≤ q ∧ q ≤ l.length ∧ lo = .int .i64 p ∧ hi = .int .i64 q ∧ (∀ i (hi : i < l.length), i < p → l[i].t ≤ x) ∧ (∀ i (hi : i < l.length), q ≤ i → x < l[i].t)) (fun lo hi => (intOf hi - intOf lo).toNat)
  case atStart => exact ⟨0, l.length, Nat.zero_le _, Nat.le_refl _, rfl, rfl, fun i hi h0 => absurd h0 (by omega), fun i hi h0 => absurd hi (by omega)⟩
  case round =>
    obtain ⟨p, q, hpq, hq, rfl, rfl, h1, h2⟩ := hrel
    by_cases hlt : p < q
    · obtain ⟨m, hm⟩ : ∃ m, p + (q - p) / 2 = m := ⟨_, rfl⟩
      have hmi : ((p : Int) + ((q : Int) - (p : Int)) / 2) = (m : Int) := by omega
      have hm1 : m < l.length := by omega
      have hm2 : p ≤ m := by omega
      have hm3 : m < q := by omega
      obtain ⟨b, o, rfl, p0, p1⟩ := h.ext hx m hm1
      have HN := Lib.hid hn
      have H1 := Lib.hid h1
      have H2 := Lib.hid h2
      obtain ⟨s, hs⟩ : ∃ s, l[m] = s := ⟨_, rfl⟩
      rw [hs] at p0 p1
      have HS := Lib.hid hs
      have q0 : ((p : Int) + ((q : Int) - (p : Int)) / 2).toNat = m := by omega
      clear h1 h2 hn hs hm h
      cases e1 : decide (x < s.t)
      · have e2 : ¬ x < s.t := by simpa using e1
        clear e1
        go_wp2
        go_round
        case rel =>
          refine ⟨m + 1, q, hm3, hq, by go_num, rfl, fun i hi him => ?_, H2.out⟩
          rcases Nat.lt_or_ge i m with h3 | h3
          · have h4 := HN.out.lt h3 hm1
            have h5 := (HN.out.get hm1).2.1
            rw [HS.out] at h4 h5
            omega
          · have h4 : i = m := by omega
            subst h4
            rw [HS.out]; omega
        case measure => simp [intOf]; omega
      · have e2 : x < s.t := by simpa using e1
        clear e1
        go_wp2
        go_round
        case rel =>
          refine ⟨p, m, hm2, by omega, rfl, rfl, H1.out, fun i hi him => ?_⟩
          rcases Nat.lt_or_ge m i with h3 | h3
          · have h4 := HN.out.lt h3 hi
            have h5 := (HN.out.get hi).2.1
            rw [HS.out] at h4
            omega
          · have h4 : i = m := by omega
            subst h4
            rw [HS.out]; omega
        case measure => simp [intOf]; omega
    · obtain rfl : p = q := by omega
      have hr := beh_of hq h1 h2
      clear h1 h2 hn h
      have HR := Lib.hid hr
      clear hr
      go_wp2
      go_ret
      exact ⟨by rw [HR.out]; rfl, hx⟩

/-- The first span from a byte on. -/
def firstS (l : List Sp) (x : Int) : Option Sp := (l[beh l x]?).map fun s => ⟨max x s.f, s.t⟩
def Sp.val (s : Sp) : Value := .agg #[.int .i64 s.f, .int .i64 s.t]
def optV (s : Option Sp) : Value := (s.getD ⟨0, 0⟩).val

set_option maxRecDepth 100000 in
theorem spans_calls (A : Option Addr) (c : Nat) (l : List Sp) (w : World) (h : SAt w A l) (hl : l.length ≤ 1000000) :
    Calls Try.prog 34 #[.agg #[.slice A l.length c]] w (RowPost w l) := by
  have hx0 : Ext w (w.alloc (.cells #[.slice A l.length c] 74)) := (Ext.refl w).alloc _
  have hR := (h.ext hx0).reads
  have hown0 : (w.alloc (.cells #[.slice A l.length c] 74)).ownsRow w.heap.size 24 2 (.slice none 0 0) 0 [] := World.ownsRow_nil _ _ _ _
  have hb := hx0.size
  clear h
  go_enter Try.func34, Try.ntmps34
  go_wp2_with (at_builtin; refine wpList_append_src _ rfl _ _ 72 rfl w.heap.size 24 _ 2 16 Try.underlying72 infoSpan rfl (by omega) (.slice none 0 0) 0 [] rfl hown0 _ _ _ _ _ rfl hR (spans_plain l) (by simp [maxLen]; omega) (by omega) hb ?_; intro v1 w2 hown2 hm1; have hx2 := ext_moved hx0 hown0 hm1; rw [Nat.zero_add, List.nil_append] at hown2)
  go_ret
  exact ⟨v1, rfl, hown2, hx2⟩
end Go.Proofs.Ytaanbgagdanalaa.Rg
