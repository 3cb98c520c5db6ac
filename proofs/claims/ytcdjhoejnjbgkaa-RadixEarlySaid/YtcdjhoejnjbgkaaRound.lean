/- What the laws' loops hold: a map and the reference's list behind as many calls. -/
import Derived.Test.YtcdjhoejnjbgkaaAwake
import Derived.Test.YtcdjhoejnjbgkaaDepL
import Derived.Deep.RegionWith
import Derived.Deep.DeepCutAuto
namespace Go.Proofs.Ytcdjhoejnjbgkaa
open Go.RowKit

def runO (l : List Ac) : Option Nd := l.foldl doO none
/-- The calls, as they came in. -/
def Acts (w : World) (A : Option Addr) (l : List Ac) : Prop :=
  ∀ (k : Nat) (h : k < l.length), ∃ b o, A = some ⟨b, o, none⟩ ∧ w.cell? ⟨b, o + k * 3, none⟩ = some (.int .i64 l[k].kind) ∧ w.cell? ⟨b, o + k * 3 + 1, none⟩ = some (.int .u64 (l[k].k : Int)) ∧ w.cell? ⟨b, o + k * 3 + 2, none⟩ = some (.int .i64 l[k].v) ∧ l[k].k < 2 ^ 64
theorem Acts.ext {w w' : World} {A : Option Addr} {l : List Ac} (h : Acts w A l) (hx : Ext w w') : Acts w' A l := fun k hk => by
  obtain ⟨b, o, hA, p0, p1, p2, p3⟩ := h k hk
  exact ⟨b, o, hA, hx.cell p0, hx.cell p1, hx.cell p2, p3⟩
def Low (l : List Ac) : Prop := ∀ a ∈ l, a.k < 2 ^ 64
theorem Acts.low {w : World} {A : Option Addr} {l : List Ac} (h : Acts w A l) : Low l := by
  intro a ha
  obtain ⟨k, hk, rfl⟩ := List.mem_iff_getElem.1 ha
  obtain ⟨_, _, _, _, _, _, p3⟩ := h k hk
  exact p3
theorem wantL_length (l : List Pr) (a : Ac) : (wantL l a).length ≤ l.length + 1 := by
  unfold wantL
  split
  · have : ∀ (l : List Pr) (d : Bool), (putGo a.k a.v d l).length ≤ l.length + (if d then 0 else 1) := by
      intro l
      induction l with
      | nil => intro d; cases d <;> simp [putGo]
      | cons r l ih =>
        intro d
        have h1 := ih (d || decide (a.k ≤ r.k))
        simp only [putGo, List.length_append, List.length_cons]
        by_cases e1 : a.k ≤ r.k <;> cases d <;> by_cases e2 : r.k = a.k <;> simp [e1, e2] at h1 ⊢ <;> omega
    simpa [putL] using this l false
  · split
    · have := dropL_length a.k l; omega
    · omega
theorem runO_snoc (l : List Ac) (a : Ac) : runO (l ++ [a]) = doO (runO l) a := by simp [runO]
theorem runO_take {l : List Ac} {n : Nat} (h : n < l.length) : runO (l.take (n + 1)) = doO (runO (l.take n)) l[n] := by
  rw [List.take_succ_eq_append_getElem h, runO_snoc]
theorem runO_fold (l : List Ac) (h : Low l) (t : Option Nd) (ht : Nd.oWF t) : Nd.oWF (l.foldl doO t) ∧ (Nd.oL (l.foldl doO t)).length ≤ (Nd.oL t).length + l.length ∧ Nd.oL (l.foldl doO t) = l.foldl wantL (Nd.oL t) := by
  induction l generalizing t with
  | nil => exact ⟨ht, by simp, rfl⟩
  | cons a l ih =>
    obtain ⟨h1, h2⟩ := doO_ok (a := a) (h a (by simp)) ht
    obtain ⟨h3, h4, h5⟩ := ih (fun b hb => h b (by simp [hb])) (doO t a) h1
    have h6 := wantL_length (Nd.oL t) a
    rw [h2] at h4 h5
    exact ⟨h3, by simp only [List.foldl_cons, List.length_cons]; omega, by simpa using h5⟩
theorem low_take {l : List Ac} (h : Low l) (n : Nat) : Low (l.take n) := fun a ha => h a (List.mem_of_mem_take ha)
theorem runO_wf {l : List Ac} (h : Low l) : Nd.oWF (runO l) := (runO_fold l h none trivial).1
theorem runO_len {l : List Ac} (h : Low l) : (Nd.oL (runO l)).length ≤ l.length := by have := (runO_fold l h none trivial).2.1; simpa [Nd.oL, runO] using this

/-- The variable m at block M, and the list at v, behind the calls that have been made. -/
def Both (w0 : World) (M : Nat) (t : Option Nd) (v : Value) (w : World) : Prop :=
  ∃ p, w.heap[M]? = some (.cells #[.pointer p] 27 (0, 0)) ∧ w0.heap.size ≤ M ∧ AtO w p t ∧ Reads2 w v (Nd.oL t) ∧ Ext w0 w
theorem Both.ext {w0 w w' : World} {M : Nat} {t : Option Nd} {v : Value} (h : Both w0 M t v w) (hx : Ext w w') : Both w0 M t v w' := by
  obtain ⟨p, h1, h2, h3, h4, h5⟩ := h
  exact ⟨p, hx.block h1, h2, h3.ext hx, h4.ext hx, h5.trans hx⟩
theorem reads_set {w : World} {M : Nat} {p q : Option Addr} {v : Value} {l : List Pr} (h : Reads2 w v l) (hM : w.heap[M]? = some (.cells #[.pointer p] 27 (0, 0))) : Reads2 (w.setCell ⟨M, 0, none⟩ (.pointer q)) v l := by
  obtain ⟨A, c, e, h⟩ := h
  refine ⟨A, c, e, fun k hk => ?_⟩
  obtain ⟨b, hA, p0, p1⟩ := h k hk
  have hne : b ≠ M := by
    obtain ⟨b', hA', q0, _⟩ := h 0 (by omega)
    rw [hA] at hA'
    cases hA'
    rintro rfl
    rw [cell_of_row w b _ _ _ _ hM] at q0
    simp at q0
  refine ⟨b, hA, ?_, ?_⟩
  · rw [World.cell?_setCell_other _ _ _ _ (by intro e; exact hne (congrArg Addr.block e).symm)]; exact p0
  · rw [World.cell?_setCell_other _ _ _ _ (by intro e; exact hne (congrArg Addr.block e).symm)]; exact p1
/-- Behind a round's store. -/
theorem both_set {w0 w : World} {M : Nat} {p q : Option Addr} {t : Option Nd} {v : Value} (hM : w.heap[M]? = some (.cells #[.pointer p] 27 (0, 0))) (h0 : w0.heap.size ≤ M) (ha : AtO w q t) (hr : Reads2 w v (Nd.oL t)) (hx : Ext w0 w) : Both w0 M t v (w.setCell ⟨M, 0, none⟩ (.pointer q)) :=
  ⟨q, heap_setCell_same w M 0 _ 27 (.pointer q) hM, h0, AtO.keep (nodes_set hM (by decide) 0 _) ha, reads_set hr hM, hx.setCell (p := ⟨M, 0, none⟩) h0 _⟩
theorem do_lit (p : Option Addr) (t : Option Nd) (a : Ac) (w : World) (h : MapIs w p t) (hk : a.k < 2 ^ 64) :
    Calls Try.prog 11 #[.agg #[.pointer p], .agg #[.int .i64 a.kind, .int .u64 (a.k : Int), .int .i64 a.v]] w (MapPost w (doO t a)) := do_calls p t a w h hk
theorem want_lit (A : Option Addr) (c : Nat) (l : List Pr) (a : Ac) (w : World) (h : RowP w A l) (hl : l.length ≤ 1000000) :
    Calls Try.prog 12 #[.slice A l.length c, .agg #[.int .i64 a.kind, .int .u64 (a.k : Int), .int .i64 a.v]] w (LPost w (wantL l a)) := want_calls A c l a w h hl
theorem cell_ptr {w : World} {M : Nat} {p : Option Addr} (h : w.heap[M]? = some (.cells #[.pointer p] 27 (0, 0))) : w.cell? ⟨M, 0, none⟩ = some (.pointer p) ∧ w.frozen? ⟨M, 0, none⟩ = false := by
  refine ⟨?_, by simp [World.frozen?, h]⟩
  rw [cell_of_row _ _ 0 _ _ _ h]; rfl
end Go.Proofs.Ytcdjhoejnjbgkaa
