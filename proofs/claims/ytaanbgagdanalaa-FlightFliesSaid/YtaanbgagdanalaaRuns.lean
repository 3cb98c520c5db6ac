/- Both tables from the beginning on; what any calls make of them. -/
import Derived.Test.YtaanbgagdanalaaDo3
import Derived.Test.YtaanbgagdanalaaSteps
namespace Go.Proofs.Ytaanbgagdanalaa
open Go.RowKit

def runs (l : List Op) (k : Nat) : Tab := (l.take k).foldl Tab.step T0
theorem runs_zero (l : List Op) : runs l 0 = T0 := rfl
theorem runs_succ {l : List Op} {k : Nat} (h : k < l.length) : runs l (k + 1) = (runs l k).step l[k] := by
  unfold runs
  rw [List.take_succ_eq_append_getElem h, List.foldl_append]
  rfl
theorem runs_upto (l : List Op) (k : Nat) (h : k ≤ l.length) : Upto k (runs l k) := by
  induction k with
  | zero => exact upto_zero
  | succ k ih => rw [runs_succ (by omega)]; exact (ih (by omega)).step _
/-- Both tables, just made. -/
theorem Stage.first {w0 w : World} {tb : Nat} {O : List Nat} (h : St w0 w tb O T0) : Stage w0 (w.alloc (.cells #[.slice none 0 0, .int .i64 0] 51)) tb O T0 w.heap.size [w.heap.size] T0 [] := by
  refine ⟨h.1.ext ((Ext.refl w).alloc _), ⟨.slice none 0 0, [], ⟨h.2.size, heap_alloc_new w _, World.ownsRow_nil _ _ _ _, fun i h => by simp at h, by simp [ob, Value.ownBlock], fun i h => by simp at h, fun i j h => by simp at h⟩, rfl, rfl⟩, fun x hx e => ?_, h.2.alloc _, fun p hp => by cases hp⟩
  have := (h.1.lies x hx).2
  simp at e; omega
theorem size_setCells' (b : Nat) : ∀ (vs : List Value) (o : Nat) (w : World), (w.setCells b o vs).heap.size = w.heap.size
  | [], _, _ => rfl
  | v :: vs, o, w => (size_setCells' b vs (o + 1) _).trans (by simp [World.setCell])
/-- A call that was copied out of the list. -/
theorem Stage.copy {w0 w : World} {tb xb : Nat} {O C : List Nat} {s x : Tab} {B : List (Nat × List Value)} (h : Stage w0 w tb O s xb C x B) (cs : Array Value) (ty : TypeId) (vs : List Value) (hn : cs.size = vs.length) :
    Stage w0 ((w.alloc (.cells cs ty)).setCells w.heap.size 0 vs) tb O s xb C x ((w.heap.size, vs) :: B) := by
  refine h.more (Nat.le_refl _) (ext_setCells ((Ext.refl w).alloc _) (Nat.le_refl _)) ?_ (World.rangeAt_setCells_same _ _ _ _ (there_of_block (heap_alloc_new w _) hn))
  rw [size_setCells']
  simp
end Go.Proofs.Ytaanbgagdanalaa
