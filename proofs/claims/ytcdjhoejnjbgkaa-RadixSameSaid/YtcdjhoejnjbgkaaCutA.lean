/- The calls ahead of a place, and from it on; what is held while a map goes on. -/
import Derived.Test.YtcdjhoejnjbgkaaOpen
import Derived.Test.YtcdjhoejnjbgkaaLawNext
namespace Go.Proofs.Ytcdjhoejnjbgkaa
open Go.RowKit

theorem info30 : (Try.prog.info? 30).map (fun i => i.size) = some 3 := by kernel_rfl
theorem run_upto (a : Option Addr) (len cap at_ : Nat) (h : at_ ≤ cap) (w : World) :
    (Instr.slice 22 (.slice a len cap) none (some (.int .i64 at_)) none).run Try.prog w = .ok (.slice a at_ cap) w := by
  have h1 : (at_ : Int) ≤ cap := by omega
  simp [Instr.slice, run_underlying Try.underlying22, Instr.sliceBounds, go_sem, h1]
theorem run_from (a : Option Addr) (len cap at_ : Nat) (h : at_ ≤ len) (w : World) :
    (Instr.slice 22 (.slice a len cap) (some (.int .i64 at_)) none none).run Try.prog w = .ok (.slice (if cap = at_ then a else a.map (·.add (at_ * 3))) (len - at_) (cap - at_)) w := by
  have h1 : (at_ : Int) ≤ len := by omega
  obtain ⟨j, hj, hs⟩ := Option.map_eq_some_iff.1 info30
  simp [Instr.slice, run_underlying Try.underlying22, Instr.sliceBounds, go_sem, h1, sizeOf, typeInfo, hj, hs]

theorem acts_upto {w : World} {A : Option Addr} {l : List Ac} (h : Acts w A l) (n : Nat) : Acts w A (l.take n) := fun k hk => by
  simp only [List.length_take] at hk
  obtain ⟨b, o, hA, p⟩ := h k (by omega)
  rw [List.getElem_take]
  exact ⟨b, o, hA, p⟩
theorem acts_from {w : World} {A : Option Addr} {l : List Ac} (h : Acts w A l) {cap n : Nat} (hc : l.length ≤ cap) : Acts w (if cap = n then A else A.map (·.add (n * 3))) (l.drop n) := fun k hk => by
  simp only [List.length_drop] at hk
  obtain ⟨b, o, hA, p0, p1, p2, p3⟩ := h (n + k) (by omega)
  rw [if_neg (by omega), List.getElem_drop]
  refine ⟨b, o + n * 3, ?_, ?_, ?_, ?_, p3⟩
  · rw [hA, Option.map_some, add_at _ _ rfl]
  · rw [show o + n * 3 + k * 3 = o + (n + k) * 3 from by omega]; exact p0
  · rw [show o + n * 3 + k * 3 + 1 = o + (n + k) * 3 + 1 from by omega]; exact p1
  · rw [show o + n * 3 + k * 3 + 2 = o + (n + k) * 3 + 2 from by omega]; exact p2

/-- A map in a variable of its own, and a list, in memory. -/
def Hold (w1 : World) (E : Nat) (pe : Option Addr) (te : Option Nd) (v : Value) (L : List Pr) (w : World) : Prop :=
  w.heap[E]? = some (.cells #[.pointer pe] 27 (0, 0)) ∧ AtO w pe te ∧ Reads2 w v L ∧ Ext w1 w
theorem Hold.ext {w1 w w' : World} {E : Nat} {pe : Option Addr} {te : Option Nd} {v : Value} {L : List Pr} (h : Hold w1 E pe te v L w) (hx : Ext w w') : Hold w1 E pe te v L w' :=
  ⟨hx.block h.1, h.2.1.ext hx, h.2.2.1.ext hx, h.2.2.2.trans hx⟩
theorem Hold.other {w1 w : World} {E M : Nat} {pe p q : Option Addr} {te : Option Nd} {v : Value} {L : List Pr} (h : Hold w1 E pe te v L w) (hM : w.heap[M]? = some (.cells #[.pointer p] 27 (0, 0))) (h0 : w1.heap.size ≤ M) (hne : E ≠ M) : Hold w1 E pe te v L (w.setCell ⟨M, 0, none⟩ (.pointer q)) :=
  ⟨(Below.heap_setCell w ⟨M, 0, none⟩ _ E hne).trans h.1, AtO.keep (nodes_set hM (by decide) 0 _) h.2.1, reads_set h.2.2.1 hM, h.2.2.2.setCell (p := ⟨M, 0, none⟩) h0 _⟩
/-- A map in a variable of its own. -/
def Var (M : Nat) (t : Option Nd) (w : World) : Prop := ∃ p, w.heap[M]? = some (.cells #[.pointer p] 27 (0, 0)) ∧ AtO w p t
theorem Var.set {w : World} {M : Nat} {p q : Option Addr} {t : Option Nd} (hM : w.heap[M]? = some (.cells #[.pointer p] 27 (0, 0))) (ha : AtO w q t) : Var M t (w.setCell ⟨M, 0, none⟩ (.pointer q)) :=
  ⟨q, heap_setCell_same w M 0 _ 27 (.pointer q) hM, AtO.keep (nodes_set hM (by decide) 0 _) ha⟩
theorem fold_take {l : List Ac} {n : Nat} (h : n < l.length) (t : Option Nd) : (l.take (n + 1)).foldl doO t = doO ((l.take n).foldl doO t) l[n] := by
  rw [List.take_succ_eq_append_getElem h, List.foldl_append]; rfl
end Go.Proofs.Ytcdjhoejnjbgkaa
