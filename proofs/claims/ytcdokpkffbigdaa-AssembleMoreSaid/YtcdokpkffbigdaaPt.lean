/- Lists of parts in memory. -/
import Derived.Test.YtcdokpkffbigdaaFirst
namespace Go.Proofs.Ytcdokpkffbigdaa
open Go.RowKit

/-- A part: a text, or, if that is empty, the bytes of a span. -/
structure Pt where
  s : List UInt8
  f : Int
  t : Int
deriving DecidableEq
def Pt.cells (p : Pt) : List Value := [.string ⟨p.s.toArray⟩, .int .i64 p.f, .int .i64 p.t]
def Pt.val (p : Pt) : Value := .agg #[.string ⟨p.s.toArray⟩, .int .i64 p.f, .int .i64 p.t]
def pts (l : List Pt) : List Value := l.flatMap Pt.cells
theorem pts_length (l : List Pt) : (pts l).length = l.length * 3 := by
  induction l with
  | nil => rfl
  | cons r l ih => simp [pts, Pt.cells] at ih ⊢; omega
theorem pts_append (a b : List Pt) : pts (a ++ b) = pts a ++ pts b := by simp [pts]
theorem pts_one (p : Pt) : pts [p] = [.string ⟨p.s.toArray⟩, .int .i64 p.f, .int .i64 p.t] := rfl
theorem pts_get (l : List Pt) (k j : Nat) (h : k < l.length) (hj : j < 3) : (pts l)[k * 3 + j]? = (Pt.cells l[k])[j]? := by
  induction l generalizing k with
  | nil => simp at h
  | cons r l ih =>
    have e : pts (r :: l) = Pt.cells r ++ pts l := by simp [pts]
    have hl : (Pt.cells r).length = 3 := rfl
    rw [e]
    rcases k with _ | k
    · rw [List.getElem?_append_left (by rw [hl]; omega)]
      simp
    · rw [List.getElem?_append_right (by rw [hl]; omega), hl, show (k + 1) * 3 + j - 3 = k * 3 + j from by omega, ih k (by simpa using h)]
      simp
theorem pts_at (l0 : List Pt) (q : Pt) (j : Nat) : (pts (l0 ++ [q]))[l0.length * 3 + j]? = (Pt.cells q)[j]? := by
  rw [pts_append, List.getElem?_append_right (by rw [pts_length]; omega), pts_length]
  simp [pts]
theorem pts_plain (l : List Pt) : ∀ u ∈ pts l, u.oneCell' = true := by
  intro u hu
  simp only [pts, List.mem_flatMap] at hu
  obtain ⟨r, _, hr⟩ := hu
  simp only [Pt.cells, List.mem_cons, List.not_mem_nil, or_false] at hr
  rcases hr with rfl | rfl | rfl <;> rfl

/-- A slice that shows a list of parts. -/
def PAt (w : World) (A : Option Addr) (l : List Pt) : Prop :=
  ∀ k (hk : k < l.length), ∃ b o, A = some ⟨b, o, none⟩ ∧ w.cell? ⟨b, o + k * 3, none⟩ = some (.string ⟨l[k].s.toArray⟩) ∧ w.cell? ⟨b, o + k * 3 + 1, none⟩ = some (.int .i64 l[k].f) ∧ w.cell? ⟨b, o + k * 3 + 2, none⟩ = some (.int .i64 l[k].t)
theorem PAt.ext {w w' : World} {A : Option Addr} {l : List Pt} (h : PAt w A l) (hx : Ext w w') : PAt w' A l := fun k hk => by
  obtain ⟨b, o, e, p0, p1, p2⟩ := h k hk
  exact ⟨b, o, e, hx.cell p0, hx.cell p1, hx.cell p2⟩
theorem PAt.nil (w : World) (A : Option Addr) : PAt w A [] := fun k hk => absurd hk (by simp)
theorem PAt.at_ {w : World} {A : Option Addr} {l : List Pt} (h : PAt w A l) (h0 : 0 < l.length) : ∃ b o, A = some ⟨b, o, none⟩ ∧ ∀ k (hk : k < l.length), w.cell? ⟨b, o + k * 3, none⟩ = some (.string ⟨l[k].s.toArray⟩) ∧ w.cell? ⟨b, o + k * 3 + 1, none⟩ = some (.int .i64 l[k].f) ∧ w.cell? ⟨b, o + k * 3 + 2, none⟩ = some (.int .i64 l[k].t) := by
  obtain ⟨b, o, e, _⟩ := h 0 h0
  refine ⟨b, o, e, fun k hk => ?_⟩
  obtain ⟨b', o', e', p⟩ := h k hk
  rw [e] at e'
  injection e' with e'
  injection e' with e1 e2 _
  subst e1 e2
  exact p
theorem pat_of_own {w : World} {base : Nat} {e : TypeId} {A : Option Addr} {n c : Nat} {l : List Pt} (h : w.ownsRow base e 3 (.slice A n c) n (pts l)) : PAt w A l := fun k hk => by
  have hn : n = l.length := by have := h.1; rw [pts_length] at this; omega
  subst hn
  obtain ⟨g, cap, hv, _, _⟩ := h.form (by omega)
  cases hv
  refine ⟨g, 0, rfl, ?_, ?_, ?_⟩
  all_goals rw [Nat.zero_add]
  · rw [h.cellAt _ (by omega)]; exact (pts_get l k 0 hk (by omega)).trans rfl
  · rw [h.cellAt _ (by omega)]; exact (pts_get l k 1 hk (by omega)).trans rfl
  · rw [h.cellAt _ (by omega)]; exact (pts_get l k 2 hk (by omega)).trans rfl
theorem PAt.reads {w : World} {A : Option Addr} {l : List Pt} (h : PAt w A l) : Reads w w.heap.size 3 A l.length (pts l) := by
  refine ⟨pts_length l, fun h0 => ?_⟩
  obtain ⟨b, o, hA, hp⟩ := h.at_ h0
  refine ⟨_, hA, block_of_cell (hp 0 h0).1, fun j u hu => ?_⟩
  have hj : j < l.length * 3 := by rw [← pts_length]; exact (List.getElem?_eq_some_iff.1 hu).1
  rw [add_plain]
  have hk : j / 3 < l.length := by omega
  have hjj : j = j / 3 * 3 + j % 3 := by omega
  have hr : j % 3 < 3 := by omega
  obtain ⟨q0, q1, q2⟩ := hp (j / 3) hk
  rw [hjj, pts_get l _ _ hk hr] at hu
  generalize j / 3 = k at *
  generalize j % 3 = r at *
  subst hjj
  rcases r with _ | _ | _ | r
  · simp [Pt.cells] at hu; subst hu; exact q0
  · simp [Pt.cells] at hu; subst hu; exact q1
  · simp [Pt.cells] at hu; subst hu; exact q2
  · omega
/-- A list of parts in memory of the call's own. -/
def PRowPost (w : World) (l : List Pt) (e : Ending) (w' : World) : Prop := ∃ v, e = .returned v ∧ Hid (w'.ownsRow w.heap.size 40 3 v l.length (pts l)) ∧ Ext w w'
theorem infoPart : (Try.prog.info? 40).map (fun i => (i.zero, i.size, i.bytes)) = some (some (.agg #[.string ⟨#[]⟩, .int .i64 0, .int .i64 0]), 3, 32) := by kernel_rfl

/-- Is it a text? -/
def Pt.tx (p : Pt) : Bool := !(p.s == [])
def Pt.open_ (p : Pt) : Bool := p.s == [] && p.t == 4611686018427387904
set_option maxRecDepth 100000 in
theorem open_calls (s : List UInt8) (f t : Int) (w : World) :
    Calls Try.prog 35 #[.agg #[.string ⟨s.toArray⟩, .int .i64 f, .int .i64 t]] w fun e w' => e = .returned (.bool (Pt.open_ ⟨s, f, t⟩)) ∧ Ext w w' := by
  unfold Pt.open_
  cases e1 : (s == [])
  all_goals
    go_enter Try.func35, Try.ntmps35
    go_wp2
    go_ret
    first
      | exact ⟨rfl, (Ext.refl w).alloc _⟩
      | exact ⟨by simp [*], (Ext.refl w).alloc _⟩
set_option maxRecDepth 100000 in
theorem empty_calls (s : List UInt8) (f t : Int) (w : World) :
    Calls Try.prog 51 #[.agg #[.string ⟨s.toArray⟩, .int .i64 f, .int .i64 t]] w fun e w' => e = .returned (.bool (s == [] && f == t)) ∧ Ext w w' := by
  cases e1 : (s == [])
  all_goals
    go_enter Try.func51, Try.ntmps51
    go_wp2
    go_ret
    first
      | exact ⟨rfl, (Ext.refl w).alloc _⟩
      | exact ⟨by simp [*], (Ext.refl w).alloc _⟩
end Go.Proofs.Ytcdokpkffbigdaa
