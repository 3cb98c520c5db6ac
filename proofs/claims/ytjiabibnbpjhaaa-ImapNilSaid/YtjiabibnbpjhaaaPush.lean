/- The contract of imap.push: a run put behind others, onto a row of the call's own. -/
import Derived.Test.YtjiabibnbpjhaaaAlike
namespace Go.Proofs.Ytjiabibnbpjhaaa
open Go.RowKit

/-- A run: a span and what is told of it. -/
structure Rn where
  f : Int
  t : Int
  v : Int
  deriving DecidableEq

def Rn.cells (r : Rn) : List Value := [.int .i64 r.f, .int .i64 r.t, .int .i64 r.v]
def flat (l : List Rn) : List Value := l.flatMap Rn.cells

theorem flat_length (l : List Rn) : (flat l).length = l.length * 3 := by
  induction l with
  | nil => rfl
  | cons r l ih => simp [flat, Rn.cells] at ih ⊢; omega
theorem flat_append (a b : List Rn) : flat (a ++ b) = flat a ++ flat b := by simp [flat]
theorem flat_get (l : List Rn) (k j : Nat) (h : k < l.length) (hj : j < 3) : (flat l)[k * 3 + j]? = (Rn.cells l[k])[j]? := by
  induction l generalizing k with
  | nil => simp at h
  | cons r l ih =>
    have e : flat (r :: l) = Rn.cells r ++ flat l := by simp [flat]
    have hl : (Rn.cells r).length = 3 := rfl
    rw [e]
    rcases k with _ | k
    · rw [List.getElem?_append_left (by rw [hl]; omega)]
      simp
    · rw [List.getElem?_append_right (by rw [hl]; omega), hl, show (k + 1) * 3 + j - 3 = k * 3 + j from by omega, ih k (by simpa using h)]
      simp
theorem flat_one (r : Rn) : flat [r] = [.int .i64 r.f, .int .i64 r.t, .int .i64 r.v] := rfl

/-- A list of runs in memory of the call's own. -/
def ListPost (w : World) (l : List Rn) (e : Ending) (w' : World) : Prop := ∃ v, e = .returned v ∧ w'.ownsRow w.heap.size 50 3 v l.length (flat l) ∧ Ext w w'

/-- What push does. -/
def joins (q r : Rn) : Bool := q.t == r.f && q.v == r.v
def pushR (l : List Rn) (r : Rn) : List Rn :=
  match l.getLast? with
  | some q => if joins q r then l.dropLast ++ [⟨q.f, r.t, q.v⟩] else l ++ [r]
  | none => [r]

theorem info80 : (Try.prog.info? 80).map (fun i => (i.zero, i.size, i.bytes)) = some (some (.agg #[.int .i64 0, .int .i64 0, .int .i64 0]), 3, 24) := by kernel_rfl

set_option maxRecDepth 100000 in
/-- Onto a row that is nil or empty. -/
theorem push_nil (base : Nat) (v : Value) (f t x : Int) (w : World) (hown : w.ownsRow base 80 3 v 0 []) (hb : base ≤ w.heap.size) :
    Calls Try.prog 42 #[v, .agg #[.int .i64 f, .int .i64 t, .int .i64 x]] w fun e w' => ∃ v', e = .returned v' ∧ w'.ownsRow base 80 3 v' 1 (flat [⟨f, t, x⟩]) ∧ Moved w w' v v' := by
  obtain ⟨i0, hi, hz0, hz1, hz2⟩ := info_parts info80
  have hform : ∃ A c, v = .slice A 0 c := by
    rcases hown.2 with ⟨h, _⟩ | ⟨g, cap, cur, h, _⟩
    · exact ⟨_, _, h⟩
    · exact ⟨_, _, h⟩
  obtain ⟨A, c, rfl⟩ := hform
  go_enter Try.func42, Try.ntmps42
  go_wp2
  refine wp_region_ext_lit (by kernel_rfl) (by kernel_rfl) ?_
  intro X _ g hg hg'
  repeat (go_big_quiet_step (fail))
  refine wpQuiet_nil ?_
  rintro w' ⟨n, rfl⟩
  have c0 := (hg n).cell (p := ⟨w.heap.size, 0, none⟩) (u := .int .i64 f) (by simp)
  have c1 := (hg n).cell (p := ⟨w.heap.size, 1, none⟩) (u := .int .i64 t) (by simp)
  have c2 := (hg n).cell (p := ⟨w.heap.size, 2, none⟩) (u := .int .i64 x) (by simp)
  have hw1 := (Ext.refl w).alloc (.cells #[.int .i64 f, .int .i64 t, .int .i64 x] 80)
  have hw2 := hw1.trans (hg n)
  have hown1 : (g n).ownsRow base 80 3 (.slice A 0 c) 0 [] := ownsRow_ext hown hw2
  have hb2 : base ≤ (g n).heap.size := Nat.le_trans hb hw2.size
  clear hg hg' hw1 hown hb hi hz0 hz1 hz2
  go_wp2_with (at_builtin; refine wpList_append_new _ rfl _ _ 71 rfl base 80 _ 3 24 Try.underlying71 info80 rfl (by omega) _ 0 [] rfl hown1 1 1 _ (by simp) _ rfl rfl (by simp [Value.oneCell']) (by simp [maxLen]) (by omega) hb2 ?_; intro v1 w1 hown2 hm)
  go_ret
  exact ⟨_, rfl, hown2, hm.ext hw2⟩

theorem flat_at (l0 : List Rn) (q : Rn) (j : Nat) : (flat (l0 ++ [q]))[l0.length * 3 + j]? = (Rn.cells q)[j]? := by
  rw [flat_append, List.getElem?_append_right (by rw [flat_length]; omega), flat_length]
  simp [flat]

theorem pushR_one (l0 : List Rn) (q r : Rn) (h : joins q r = true) : pushR (l0 ++ [q]) r = l0 ++ [⟨q.f, r.t, q.v⟩] := by
  simp [pushR, h]
theorem pushR_two (l0 : List Rn) (q r : Rn) (h : joins q r = false) : pushR (l0 ++ [q]) r = (l0 ++ [q]) ++ [r] := by
  simp [pushR, h]
theorem flat_set (l0 : List Rn) (q : Rn) (t : Int) : (flat (l0 ++ [q])).set (l0.length * 3 + 1) (.int .i64 t) = flat (l0 ++ [⟨q.f, t, q.v⟩]) := by
  rw [flat_append, List.set_append_right _ _ (by rw [flat_length]; omega), flat_length, flat_append]
  simp [flat, Rn.cells]

set_option maxRecDepth 100000 in
/-- Onto a row that has a last run. -/
theorem push_snoc (base : Nat) (b cap : Nat) (l0 : List Rn) (q : Rn) (f t x : Int) (w : World) (hown : w.ownsRow base 80 3 (.slice (some ⟨b, 0, none⟩) (l0.length + 1) cap) (l0.length + 1) (flat (l0 ++ [q])))
    (hb : base ≤ w.heap.size) (hn : l0.length ≤ 1000000) :
    Calls Try.prog 42 #[.slice (some ⟨b, 0, none⟩) (l0.length + 1) cap, .agg #[.int .i64 f, .int .i64 t, .int .i64 x]] w fun e w' => ∃ v', e = .returned v' ∧
      w'.ownsRow base 80 3 v' (pushR (l0 ++ [q]) ⟨f, t, x⟩).length (flat (pushR (l0 ++ [q]) ⟨f, t, x⟩)) ∧ Moved w w' (.slice (some ⟨b, 0, none⟩) (l0.length + 1) cap) v' := by
  generalize hk : l0.length = k at *
  have hq0 : w.cell? ⟨b, k * 3, none⟩ = some (.int .i64 q.f) := by rw [hown.cellAt _ (by omega), ← hk]; exact flat_at l0 q 0
  have hq1 : w.cell? ⟨b, k * 3 + 1, none⟩ = some (.int .i64 q.t) := by rw [hown.cellAt _ (by omega), ← hk]; exact flat_at l0 q 1
  have hq2 : w.cell? ⟨b, k * 3 + 2, none⟩ = some (.int .i64 q.v) := by rw [hown.cellAt _ (by omega), ← hk]; exact flat_at l0 q 2
  have HK := Lib.hid hk
  clear hk
  have hne : b ≠ w.heap.size := fun e => by have := block_of_cell hq0; simp only at this; omega
  cases e1 : (q.t == f) <;> cases e2 : (q.v == x)
  all_goals
    go_enter Try.func42, Try.ntmps42
    go_wp2
    refine wp_region_ext_lit (by kernel_rfl) (by kernel_rfl) ?_
    intro X _ g hg hg'
    have c1 : ∀ n, (g n).cell? ⟨b, k * 3 + 1, none⟩ = some (.int .i64 q.t) := fun n => ((Ext.refl w).alloc _ |>.trans (hg n)).cell hq1
    have c2 : ∀ n, (g n).cell? ⟨b, k * 3 + 2, none⟩ = some (.int .i64 q.v) := fun n => ((Ext.refl w).alloc _ |>.trans (hg n)).cell hq2
    have d0 : ∀ n, (g n).cell? ⟨w.heap.size, 0, none⟩ = some (.int .i64 f) := fun n => (hg n).cell (by simp)
    have d1 : ∀ n, (g n).cell? ⟨w.heap.size, 1, none⟩ = some (.int .i64 t) := fun n => (hg n).cell (by simp)
    have d2 : ∀ n, (g n).cell? ⟨w.heap.size, 2, none⟩ = some (.int .i64 x) := fun n => (hg n).cell (by simp)
    repeat (go_big_quiet_step ((go_at_call 45; exact (alike_calls _ _ _).mono fun e w2 ⟨he, hx⟩ => ⟨he, hg' _ ((hg _).trans hx)⟩)))
    refine wpQuiet_nil ?_
    rintro w' ⟨n, rfl⟩
    have hw2 := ((Ext.refl w).alloc (.cells #[.int .i64 f, .int .i64 t, .int .i64 x] 80)).trans (hg n)
    have hown1 := ownsRow_ext hown hw2
    have hb2 : base ≤ (g n).heap.size := Nat.le_trans hb hw2.size
    replace c1 := c1 n
    replace d0 := d0 n
    replace d1 := d1 n
    replace d2 := d2 n
    have fz : (g n).frozen? ⟨b, k * 3 + 1, none⟩ = false := hown1.frozenAt _
    clear c2 hg hg' hown hb hq0 hq1 hq2
    go_wp2_with (at_builtin; refine wpList_append_new _ rfl _ _ 71 rfl base 80 _ 3 24 Try.underlying71 info80 rfl (by omega) (.slice (some ⟨b, 0, none⟩) (k + 1) cap) _ _ rfl hown1 1 1 _ (by simp) _ rfl rfl (by simp [Value.oneCell']) (by simp [maxLen]; omega) (by omega) hb2 ?_; intro v1 w1 hown2 hm)
    go_ret
    obtain rfl := HK.out
    have hj : joins q ⟨f, t, x⟩ = ((q.t == f) && (q.v == x)) := rfl
    rw [e1, e2] at hj
    first
      | (rw [pushR_two _ _ _ hj]
         exact ⟨_, rfl, by rw [flat_append, flat_one, List.length_append, List.length_append]; exact hown2, hm.ext hw2⟩)
      | (rw [pushR_one _ _ _ hj]
         refine ⟨_, rfl, ?_, Moved.set _ hw2⟩
         have h3 := hown1.stored (l0.length * 3 + 1) (.int .i64 t)
         rw [flat_set] at h3
         simpa using h3.1)

/-- imap.push: onto a row of the call's own. -/
theorem push_calls (base : Nat) (v : Value) (l : List Rn) (f t x : Int) (w : World) (hown : w.ownsRow base 80 3 v l.length (flat l)) (hb : base ≤ w.heap.size) (hn : l.length ≤ 1000000) :
    Calls Try.prog 42 #[v, .agg #[.int .i64 f, .int .i64 t, .int .i64 x]] w fun e w' => ∃ v', e = .returned v' ∧
      w'.ownsRow base 80 3 v' (pushR l ⟨f, t, x⟩).length (flat (pushR l ⟨f, t, x⟩)) ∧ Moved w w' v v' := by
  rcases List.eq_nil_or_concat l with rfl | ⟨l0, q, rfl⟩
  · exact push_nil base v f t x w hown hb
  · rw [List.concat_eq_append] at *
    have hl : (l0 ++ [q]).length = l0.length + 1 := by simp
    rw [hl] at hown
    obtain ⟨b, cap, rfl, _⟩ := hown.form (by omega)
    exact push_snoc base b cap l0 q f t x w hown hb (by omega)
end Go.Proofs.Ytjiabibnbpjhaaa
