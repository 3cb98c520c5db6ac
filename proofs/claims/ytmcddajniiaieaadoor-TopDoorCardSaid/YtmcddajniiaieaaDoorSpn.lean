/- Lists of spans in memory; the contracts of span.Right and of its reference. -/
import Derived.Test.YtmcddajniiaieaaDoorWords
import Derived.Test.YtmcddajniiaieaaDoorGath
import Derived.Test.YtmcddajniiaieaaDoorRows
import Derived.Recover
namespace Go.Proofs.YtmcddajniiaieaaDoor
open Go.RowKit

def Sp.cells (s : Sp) : List Value := [.int .i64 s.f, .int .i64 s.t]
def spans (l : List Sp) : List Value := l.flatMap Sp.cells
theorem spans_length (l : List Sp) : (spans l).length = l.length * 2 := by
  induction l with
  | nil => rfl
  | cons r l ih => simp [spans, Sp.cells] at ih ⊢; omega
theorem spans_append (a b : List Sp) : spans (a ++ b) = spans a ++ spans b := by simp [spans]
theorem spans_one (s : Sp) : spans [s] = [.int .i64 s.f, .int .i64 s.t] := rfl
theorem spans_get (l : List Sp) (k j : Nat) (h : k < l.length) (hj : j < 2) : (spans l)[k * 2 + j]? = (Sp.cells l[k])[j]? := by
  induction l generalizing k with
  | nil => simp at h
  | cons r l ih =>
    have e : spans (r :: l) = Sp.cells r ++ spans l := by simp [spans]
    have hl : (Sp.cells r).length = 2 := rfl
    rw [e]
    rcases k with _ | k
    · rw [List.getElem?_append_left (by rw [hl]; omega)]
      simp
    · rw [List.getElem?_append_right (by rw [hl]; omega), hl, show (k + 1) * 2 + j - 2 = k * 2 + j from by omega, ih k (by simpa using h)]
      simp
theorem spans_at (l0 : List Sp) (q : Sp) (j : Nat) : (spans (l0 ++ [q]))[l0.length * 2 + j]? = (Sp.cells q)[j]? := by
  rw [spans_append, List.getElem?_append_right (by rw [spans_length]; omega), spans_length]
  simp [spans]
theorem spans_set (l0 : List Sp) (q : Sp) (t : Int) : (spans (l0 ++ [q])).set (l0.length * 2 + 1) (.int .i64 t) = spans (l0 ++ [⟨q.f, t⟩]) := by
  rw [spans_append, List.set_append_right _ _ (by rw [spans_length]; omega), spans_length, spans_append]
  simp [spans, Sp.cells]
theorem spans_plain (l : List Sp) : ∀ u ∈ spans l, u.oneCell' = true := by
  intro u hu
  simp only [spans, List.mem_flatMap] at hu
  obtain ⟨r, _, hr⟩ := hu
  simp only [Sp.cells, List.mem_cons, List.not_mem_nil, or_false] at hr
  rcases hr with rfl | rfl <;> rfl

theorem own_base {w : World} {base : Nat} {e : TypeId} {size n g : Nat} {v : Value} {xs : List Value} (h : w.ownsRow base e size v n xs) (hv : v.ownBlock = some g) : base ≤ g := by
  rcases h.2 with ⟨rfl, _⟩ | ⟨k, cap, cur, rfl, hb, _⟩
  · simp [Value.ownBlock] at hv
  · simp [Value.ownBlock] at hv; omega
/-- A slice that shows a list of spans. -/
def SAt (w : World) (A : Option Addr) (l : List Sp) : Prop :=
  ∀ k (hk : k < l.length), ∃ b o, A = some ⟨b, o, none⟩ ∧ w.cell? ⟨b, o + k * 2, none⟩ = some (.int .i64 l[k].f) ∧ w.cell? ⟨b, o + k * 2 + 1, none⟩ = some (.int .i64 l[k].t)
theorem SAt.ext {w w' : World} {A : Option Addr} {l : List Sp} (h : SAt w A l) (hx : Ext w w') : SAt w' A l := fun k hk => by
  obtain ⟨b, o, e, p0, p1⟩ := h k hk
  exact ⟨b, o, e, hx.cell p0, hx.cell p1⟩
theorem SAt.nil (w : World) (A : Option Addr) : SAt w A [] := fun k hk => absurd hk (by simp)
theorem SAt.at_ {w : World} {A : Option Addr} {l : List Sp} (h : SAt w A l) (h0 : 0 < l.length) : ∃ b o, A = some ⟨b, o, none⟩ ∧ ∀ k (hk : k < l.length), w.cell? ⟨b, o + k * 2, none⟩ = some (.int .i64 l[k].f) ∧ w.cell? ⟨b, o + k * 2 + 1, none⟩ = some (.int .i64 l[k].t) := by
  obtain ⟨b, o, e, _⟩ := h 0 h0
  refine ⟨b, o, e, fun k hk => ?_⟩
  obtain ⟨b', o', e', p⟩ := h k hk
  rw [e] at e'
  injection e' with e'
  injection e' with e1 e2 _
  subst e1 e2
  exact p
theorem sat_of_own {w : World} {base : Nat} {e : TypeId} {A : Option Addr} {n c : Nat} {l : List Sp} (h : w.ownsRow base e 2 (.slice A n c) n (spans l)) : SAt w A l := fun k hk => by
  have hn : n = l.length := by have := h.1; rw [spans_length] at this; omega
  subst hn
  obtain ⟨g, cap, hv, _, _⟩ := h.form (by omega)
  cases hv
  refine ⟨g, 0, rfl, ?_, ?_⟩
  all_goals rw [Nat.zero_add]
  · rw [h.cellAt _ (by omega)]; exact (spans_get l k 0 hk (by omega)).trans rfl
  · rw [h.cellAt _ (by omega)]; exact (spans_get l k 1 hk (by omega)).trans rfl
theorem add_plain (b o j : Nat) : (⟨b, o, none⟩ : Addr).add j = ⟨b, o + j, none⟩ := by
  cases j <;> simp [Addr.add]
theorem SAt.reads {w : World} {A : Option Addr} {l : List Sp} (h : SAt w A l) : Reads w w.heap.size 2 A l.length (spans l) := by
  refine ⟨spans_length l, fun h0 => ?_⟩
  obtain ⟨b, o, hA, hp⟩ := h.at_ h0
  refine ⟨_, hA, block_of_cell (hp 0 h0).1, fun j u hu => ?_⟩
  have hj : j < l.length * 2 := by rw [← spans_length]; exact (List.getElem?_eq_some_iff.1 hu).1
  rw [add_plain]
  have hk : j / 2 < l.length := by omega
  have hjj : j = j / 2 * 2 + j % 2 := by omega
  have hr : j % 2 < 2 := by omega
  obtain ⟨q0, q1⟩ := hp (j / 2) hk
  rw [hjj, spans_get l _ _ hk hr] at hu
  generalize j / 2 = k at *
  generalize j % 2 = r at *
  subst hjj
  rcases r with _ | _ | r
  · simp [Sp.cells] at hu; subst hu; exact q0
  · simp [Sp.cells] at hu; subst hu; exact q1
  · omega

/-- .. behind a store into a block that lies ahead of the row's. -/
theorem sat_set {w : World} {base : Nat} {e : TypeId} {A : Option Addr} {n c : Nat} {l : List Sp} (h : w.ownsRow base e 2 (.slice A n c) n (spans l)) {p : Addr} (hp : p.block < base) (u : Value) : SAt (w.setCell p u) A l := fun k hk => by
  have hn : n = l.length := by have := h.1; rw [spans_length] at this; omega
  subst hn
  obtain ⟨b, o, e1, p0, p1⟩ := sat_of_own h k hk
  have hb : base ≤ b := by
    obtain ⟨g, cap, hv, hg, _⟩ := h.form (by omega)
    subst e1
    cases hv
    exact (own_base h (g := b) rfl)
  exact ⟨b, o, e1, (World.cell?_setCell_other w p _ u (fun e2 => by subst e2; simp at hp; omega)).trans p0, (World.cell?_setCell_other w p _ u (fun e2 => by subst e2; simp at hp; omega)).trans p1⟩

/-- A list of spans in memory of the call's own. -/
def RowPost (w : World) (l : List Sp) (e : Ending) (w' : World) : Prop := ∃ v, e = .returned v ∧ w'.ownsRow w.heap.size 50 2 v l.length (spans l) ∧ Ext w w'
/-- It lies in no block of w's. -/
def NewA (w : World) (A : Option Addr) : Prop := ∀ b o, A = some ⟨b, o, none⟩ → w.heap.size ≤ b
theorem newA_of {w w1 w' : World} {e : TypeId} {A : Option Addr} {size n c : Nat} {xs : List Value} (h : w'.ownsRow w1.heap.size e size (.slice A n c) n xs) (hx : w.heap.size ≤ w1.heap.size) : NewA w A := fun b o e1 => by
  subst e1
  exact Nat.le_trans hx (own_base h rfl)
/-- A set that is handed back. -/
def SetPost (w : World) (l : List Sp) (e : Ending) (w' : World) : Prop := ∃ A c, e = .returned (.agg #[.slice A l.length c]) ∧ Hid (SAt w' A l) ∧ Hid (NewA w A) ∧ Ext w w'

theorem infoSpan : (Tryd.prog.info? 50).map (fun i => (i.zero, i.size, i.bytes)) = some (some (.agg #[.int .i64 0, .int .i64 0]), 2, 16) := by kernel_rfl
theorem ret_eq {v v' : Value} (h : v = v') : Ending.returned v = .returned v' := by rw [h]

/-- Is it a right span? -/
def rightB (f t : Int) : Bool := decide (0 ≤ f) && decide (f ≤ t) && decide (t ≤ 4611686018427387904)
theorem right_calls (f t : Int) (w : World) :
    Calls Tryd.prog 29 #[.agg #[.int .i64 f, .int .i64 t]] w fun e w' => e = .returned (.bool (rightB f t)) ∧ Ext w w' := by
  go_enter Tryd.func29, Tryd.ntmps29
  go_wp2
  all_goals go_ret
  all_goals exact ⟨by simp [rightB, *] <;> omega, (Ext.refl w).alloc _⟩


end Go.Proofs.YtmcddajniiaieaaDoor
