/- Words for memory that is turned in place: which blocks a call may turn; rows and cells that lie elsewhere stay. -/
import Derived.Test.YtaanbgagdanalaaWords
namespace Go.Proofs.Ytaanbgagdanalaa
open Go.RowKit

/-- Of what lay in w only the blocks of O may have turned. -/
structure Turn (O : List Nat) (w w' : World) : Prop where
  os : w'.os = w.os
  tape : w'.tape = w.tape
  output : w'.output = w.output
  size : w.heap.size ≤ w'.heap.size
  block : ∀ k, k < w.heap.size → k ∉ O → w'.heap[k]? = w.heap[k]?

def ob (v : Value) : List Nat := v.ownBlock.toList
/-- What is owned afterwards was owned, or is new. -/
def Of (O O' : List Nat) (w : World) : Prop := ∀ k ∈ O', k ∈ O ∨ w.heap.size ≤ k
/-- All of these lie in w, from N on. -/
def Lies (N : Nat) (O : List Nat) (w : World) : Prop := ∀ k ∈ O, N ≤ k ∧ k < w.heap.size
def Apart (O C : List Nat) : Prop := ∀ k ∈ O, k ∉ C

section
variable {O O' C : List Nat} {w w' w'' : World} {N : Nat}
theorem Turn.refl (O : List Nat) (w : World) : Turn O w w := ⟨rfl, rfl, rfl, Nat.le_refl _, fun _ _ _ => rfl⟩
theorem Turn.mono (h : Turn O w w') (k : ∀ x ∈ O, x < w.heap.size → x ∈ O') : Turn O' w w' := ⟨h.os, h.tape, h.output, h.size, fun x hx hn => h.block x hx fun e => hn (k x e hx)⟩
theorem Turn.step (h : Turn O w w') (k : Turn O' w' w'') (ho : Of O O' w) : Turn O w w'' :=
  ⟨k.os.trans h.os, k.tape.trans h.tape, k.output.trans h.output, Nat.le_trans h.size k.size, fun x hx hn =>
    (k.block x (Nat.lt_of_lt_of_le hx h.size) fun e => (ho x e).elim hn fun e2 => by omega).trans (h.block x hx hn)⟩
theorem Turn.trans (h : Turn O w w') (k : Turn O w' w'') : Turn O w w'' := h.step k fun _ e => .inl e
theorem Turn.drew (h : Turn O w w') : Turn O w w'.drew := ⟨h.os, h.tape, h.output, h.size, h.block⟩
theorem Turn.drewN (h : Turn O w w') (n : Nat) : Turn O w (w'.drewN n) := ⟨h.os, h.tape, h.output, h.size, h.block⟩
theorem Turn.alloc (h : Turn O w w') (o : Obj) : Turn O w (w'.alloc o) :=
  ⟨h.os, h.tape, h.output, by simpa using Nat.le_succ_of_le h.size, fun x hx hn => (Below.heap_alloc w' o x (Nat.lt_of_lt_of_le hx h.size)).trans (h.block x hx hn)⟩
theorem Turn.setCell (h : Turn O w w') {p : Addr} (hp : p.block < w.heap.size → p.block ∈ O) (u : Value) : Turn O w (w'.setCell p u) :=
  ⟨h.os, h.tape, h.output, by simpa [World.setCell] using h.size, fun x hx hn => (Below.heap_setCell w' p u x (fun e => hn (by subst e; exact hp hx))).trans (h.block x hx hn)⟩
theorem Turn.grown (h : Turn O w w') {row : Option Nat} (k : w'.grownBy w'' row) (hr : ∀ x, row = some x → x < w.heap.size → x ∈ O) : Turn O w w'' :=
  ⟨k.os.trans h.os, k.tape.trans h.tape, k.output.trans h.output, Nat.le_trans h.size k.size, fun x hx hn =>
    (k.block x (Nat.lt_of_lt_of_le hx h.size) fun e => hn (hr x e.symm hx)).trans (h.block x hx hn)⟩
theorem Turn.of_ext (h : Ext w w') : Turn O w w' := ⟨h.os, h.tape, h.output, h.size, fun x hx _ => Below.block h x hx⟩
theorem Turn.ext (h : Turn O w w') (k : Ext w' w'') : Turn O w w'' := h.trans (Turn.of_ext k)
theorem Turn.below (h : Turn O w w') (k : ∀ x ∈ O, N ≤ x) (hN : N ≤ w.heap.size) : Below N w w' := ⟨h.os, h.tape, h.output, h.size, fun x hx => h.block x (by omega) fun e => by have := k x e; omega⟩
theorem Turn.toExt (h : Turn O w w') (k : ∀ x ∈ O, w.heap.size ≤ x) : Ext w w' := h.below k (Nat.le_refl _)
theorem Turn.blk (h : Turn O w w') {g : Nat} {o : Obj} (hg : w.heap[g]? = some o) (hn : g ∉ O) : w'.heap[g]? = some o := (h.block g (Array.getElem?_eq_some_iff.1 hg).1 hn).trans hg
theorem Turn.cell (h : Turn O w w') {p : Addr} {u : Value} (hc : w.cell? p = some u) (hn : p.block ∉ O) : w'.cell? p = some u :=
  (World.cell?_of_block (h.block p.block (block_of_cell hc) hn)).trans hc
theorem Turn.row (h : Turn O w w') {base : Nat} {e : TypeId} {size : Nat} {v : Value} {n : Nat} {xs : List Value} (k : w.ownsRow base e size v n xs) (hn : ∀ x ∈ ob v, x ∉ O) : w'.ownsRow base e size v n xs := by
  refine ⟨k.1, ?_⟩
  rcases k.2 with k | ⟨g, cap, cur, rfl, hb, hg, r⟩
  · exact .inl k
  · exact .inr ⟨g, cap, cur, rfl, hb, h.blk hg (hn g (by simp [ob, Value.ownBlock])), r⟩
theorem row_base {w : World} {base B : Nat} {e : TypeId} {size : Nat} {v : Value} {n : Nat} {xs : List Value} (k : w.ownsRow base e size v n xs) (hB : B ≤ base) : w.ownsRow B e size v n xs := by
  refine ⟨k.1, ?_⟩
  rcases k.2 with k | ⟨g, cap, cur, rfl, hb, r⟩
  · exact .inl k
  · exact .inr ⟨g, cap, cur, rfl, by omega, r⟩
theorem Of.refl (O : List Nat) (w : World) : Of O O w := fun _ h => .inl h
theorem Of.trans {O'' : List Nat} (h : Of O O' w) (k : Of O' O'' w') (hs : w.heap.size ≤ w'.heap.size) : Of O O'' w := fun x hx => by
  rcases k x hx with e | e
  · exact h x e
  · exact .inr (by omega)
theorem Apart.of (h : Apart O C) (k : Of O O' w) (hl : Lies N C w) : Apart O' C := fun x hx hc => by
  rcases k x hx with e | e
  · exact h x e hc
  · have := (hl x hc).2; omega
theorem Apart.symm (h : Apart O C) : Apart C O := fun x hx ho => h x ho hx
theorem Lies.more (h : Lies N O w) (k : w.heap.size ≤ w'.heap.size) : Lies N O w' := fun x hx => ⟨(h x hx).1, by have := (h x hx).2; omega⟩
end
theorem heap_set_same {w : World} {b o : Nat} {cs : Array Value} {e : TypeId} {z : Nat × Nat} (h : w.heap[b]? = some (.cells cs e z)) (u : Value) : (w.setCell ⟨b, o, none⟩ u).heap[b]? = some (.cells (cs.setIfInBounds o u) e z) := by
  obtain ⟨hlt, hh⟩ := Array.getElem?_eq_some_iff.1 h
  simp [World.setCell, Array.getElem?_modify, h]
theorem heap_set_other {w : World} {b c o : Nat} (h : b ≠ c) (u : Value) : (w.setCell ⟨c, o, none⟩ u).heap[b]? = w.heap[b]? := Below.heap_setCell w _ u b h
end Go.Proofs.Ytaanbgagdanalaa
