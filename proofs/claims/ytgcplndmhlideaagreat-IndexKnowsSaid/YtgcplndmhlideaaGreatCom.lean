/- What all radix maps of this seat share. -/
import Derived.Test.YtgcplndmhlideaaGreatBase
import Derived.Test.YtgcplndmhlideaaGreatPlain
import Derived.Test.YtgcplndmhlideaaGreatProg
import Derived.Test.YtgcplndmhlideaaGreatLen
import Derived.BigRegion
import Derived.Laws.Bits64
import Derived.Laws.StructEq
namespace Go.Proofs.YtgcplndmhlideaaGreat
open Go.RowKit

theorem Nd.depth_lt {V : Type} (t : Nd V) : t.depth < t.many := by
  induction t with
  | leaf => simp [Nd.depth, Nd.many]
  | br p b z o hz ho => simp only [Nd.depth, Nd.many]; omega

theorem and1 (k m : Nat) (hk : k < 2 ^ 64) : bits .and .u64 ((k : Int) / 2 ^ m) 1 = ((k / 2 ^ m % 2 : Nat) : Int) := by
  have hlt : k / 2 ^ m < 2 ^ 64 := Nat.lt_of_le_of_lt (Nat.div_le_self _ _) hk
  have e : ((k : Int) / 2 ^ m) = ((k / 2 ^ m : Nat) : Int) := by simp
  rw [e]
  have := u64_and_nat (k / 2 ^ m) 1 hlt (by omega)
  rw [Nat.and_one_is_mod] at this
  exact this

/-- The cells of the node of a bit, as the tree has them. -/
theorem key_join (k m : Nat) : ((k : Int) / 2 ^ m / 2 * 2 ^ (m + 1)) = ((k / 2 ^ m / 2 * 2 ^ (m + 1) : Nat) : Int) := by simp

theorem Nd.many_pos {V : Type} (t : Nd V) : 0 < t.many := by
  induction t with
  | leaf => simp [Nd.many]
  | br p b z o hz ho => simp only [Nd.many]; omega
theorem heap_new1 (w : World) (o1 o2 : Obj) : ((w.alloc o1).alloc o2).heap[w.heap.size + 1]? = some o2 := by
  have := heap_alloc_new (w.alloc o1) o2
  simpa using this
theorem frozen_blk {w : World} {b : Nat} {cs : Array Value} {t : TypeId} (h : w.heap[b]? = some (.cells cs t (0, 0))) (i : Nat) : w.frozen? ⟨b, i, none⟩ = false := by simp [World.frozen?, h]
theorem set1_cells {w : World} {b : Nat} {x : Value} {t : TypeId} (h : w.heap[b]? = some (.cells #[x] t (0, 0))) (u : Value) : (w.setCell ⟨b, 0, none⟩ u).cell? ⟨b, 0, none⟩ = some u := by
  rw [cell_of_row _ _ 0 _ _ _ (heap_setCell_same w b 0 _ t _ h)]; rfl
theorem set2_cells {w : World} {b : Nat} {x y : Value} {t : TypeId} (h : w.heap[b]? = some (.cells #[x, y] t (0, 0))) (u v : Value) : ((w.setCell ⟨b, 0, none⟩ u).setCell ⟨b, 1, none⟩ v).cell? ⟨b, 0, none⟩ = some u ∧ ((w.setCell ⟨b, 0, none⟩ u).setCell ⟨b, 1, none⟩ v).cell? ⟨b, 1, none⟩ = some v := by
  have h1 := heap_setCell_same w b 0 _ t u h
  have h2 := heap_setCell_same _ b 1 _ t v h1
  constructor
  · rw [cell_of_row _ _ 0 _ _ _ h2]; rfl
  · rw [cell_of_row _ _ 1 _ _ _ h2]; rfl
end Go.Proofs.YtgcplndmhlideaaGreat
