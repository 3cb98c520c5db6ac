/- Words for worlds and rows that all walks of this seat share: no program in sight. -/
import Derived.Below
import Derived.Laws.OwnMore
import Derived.Deep.AppendLies
import Derived.Deep.Draws
import Derived.Laws.Rows
import Derived.Maps.AppendAt
import Derived.RegionTactic
import Derived.OwnWalk
import Derived.Deep.QuietTactic
import Derived.BigQuiet
import Derived.WalkKit
import Derived.WalkSpells
import Derived.WalkLawsBesides
import Derived.Lib.Hide
import Derived.Lib.MinMax
namespace Go.Proofs.YtmcddajniiaieaaDoor
open Go.RowKit

/-- The world w' is w with more in it: nothing that lay in w has turned. -/
def Ext (w w' : World) : Prop := Below w.heap.size w w'

theorem Ext.refl (w : World) : Ext w w := Below.refl _ _
theorem Ext.size {w w' : World} (h : Ext w w') : w.heap.size ≤ w'.heap.size := Below.size h
theorem Ext.trans {a b c : World} (h : Ext a b) (k : Ext b c) : Ext a c := Below.trans h (Below.mono k h.size)
theorem Ext.drew {a w : World} (h : Ext a w) : Ext a w.drew := Below.drew h
theorem Ext.drewN {a w : World} (h : Ext a w) (n : Nat) : Ext a (w.drewN n) := ⟨h.os, h.tape, h.output, h.size, h.block⟩
theorem Ext.alloc {a w : World} (h : Ext a w) (o : Obj) : Ext a (w.alloc o) := Below.alloc h h.size o
theorem Ext.setCell {a w : World} (h : Ext a w) {p : Addr} (hp : a.heap.size ≤ p.block) (u : Value) : Ext a (w.setCell p u) := Below.setCell h hp u
theorem Ext.below {a w w' : World} (h : Ext a w) (hb : Below w.heap.size w w') : Ext a w' := h.trans hb

theorem block_of_cell {w : World} {p : Addr} {u : Value} (h : w.cell? p = some u) : p.block < w.heap.size := by
  rcases Nat.lt_or_ge p.block w.heap.size with hl | hg
  · exact hl
  · unfold World.cell? at h
    rw [Array.getElem?_eq_none hg] at h
    cases h
theorem Ext.cell {w w' : World} (h : Ext w w') {p : Addr} {u : Value} (hc : w.cell? p = some u) : w'.cell? p = some u :=
  (Below.cell h (block_of_cell hc)).trans hc
theorem Ext.frozen {w w' : World} (h : Ext w w') {p : Addr} (hp : p.block < w.heap.size) : w'.frozen? p = w.frozen? p := Below.frozen h hp
theorem Ext.block {w w' : World} (h : Ext w w') {g : Nat} {o : Obj} (hg : w.heap[g]? = some o) : w'.heap[g]? = some o := by
  have hlt : g < w.heap.size := (Array.getElem?_eq_some_iff.1 hg).1
  exact (Below.block h g hlt).trans hg

/-- What the walk uses behind a call: old cells and old marks read as before. -/
theorem Ext.rules {w w' : World} (h : Ext w w') : (∀ b o, b < w.heap.size → w'.cell? ⟨b, o, none⟩ = w.cell? ⟨b, o, none⟩) ∧ (∀ b o, b < w.heap.size → w'.frozen? ⟨b, o, none⟩ = w.frozen? ⟨b, o, none⟩) ∧ w.heap.size ≤ w'.heap.size :=
  ⟨fun b o hb => Below.cell (p := ⟨b, o, none⟩) h hb, fun b o hb => Below.frozen (p := ⟨b, o, none⟩) h hb, h.size⟩

/-- A region that draws its order, whose operations only read and whose calls only add to the world, is walked once, in the order of the text. -/
theorem wp_region_ext_lit {P : Program} {id : Nat} {Q : Exit → Act → World → Prop} {a : Act} {w : World} {l : List Oper} (hm : P.follows .mixedOrders = true) (hB : Region.lexB .any l.toArray = true)
    (h : ∀ (X : Type) [Nonempty X] (g : X → World), (∀ n, Ext w (g n)) → (∀ w', Ext w w' → ∃ n, w' = g n) →
      wpQuiet P l.toArray (fun w' => ∃ n, w' = g n) (fun a' => ∀ w', (∃ n, w' = g n) → Q .normal a' w') l a) : (Code.region id l.toArray true).wp P Q a w := by
  have : Nonempty { w' : World // Ext w w' } := ⟨⟨w, Ext.refl w⟩⟩
  have h1 := h { w' : World // Ext w w' } Subtype.val (fun n => n.2) (fun w' hw => ⟨⟨w', hw⟩, rfl⟩)
  exact wp_region_quiet (C := fun w' => ∃ n : { w' : World // Ext w w' }, w' = n.val) hm hB ⟨⟨w.drew, (Ext.refl w).drew⟩, rfl⟩ (by simpa using h1)

theorem ext_of_grown {w w' : World} (h : w.grownBy w' none) : Ext w w' := ⟨h.os, h.tape, h.output, h.size, fun k hk => h.block k hk (by simp)⟩

/-- What the written row was, and where it went: other blocks are as they were, and none of them is the row's. -/
def Moved (w w' : World) (v v' : Value) : Prop :=
  w.grownBy w' v.ownBlock ∧ (v'.ownBlock = v.ownBlock ∨ ∃ k, w.heap.size ≤ k ∧ v'.ownBlock = some k)

/-- 'append(out, T{..})': what is appended was built just ahead, in a block of its own. -/
theorem wpList_append_new {P : Program} (w : World) {ops : Array Oper} {rest : List Oper} {o : Oper} {a : Act} {Q : Exit → Act → World → Prop} (hgd : o.guard = none) (s x : Operand) (t : TypeId)
    (ho : o.op = .call { callee := .builtin .append, args := #[s, x], argTypes := #[t, t] })
    (base : Nat) (e : TypeId) (z : Value) (size bytes : Nat) (ht : P.underlying t = some (.slice e)) (hi : (P.info? e).map (fun i => (i.zero, i.size, i.bytes)) = some (some z, size, bytes))
    (hzs : z.cells.size = size) (hsz : 0 < size)
    (v : Value) (n : Nat) (xs : List Value) (hs : a.eval s = v) (hown : w.ownsRow base e size v n xs)
    (m c nb : Nat) (hnb : nb = w.heap.size) (cs : Array Value) (hx : a.eval x = .slice (some ⟨nb, 0, none⟩) m c) (hl : cs.size = m * size) (h1 : ∀ u ∈ cs.toList, u.oneCell' = true)
    (h63 : n + m ≤ maxLen) (hbytes : (n + m) * bytes ≤ 140737488355328) (hbase : base ≤ w.heap.size)
    (h : ∀ v' w', w'.ownsRow base e size v' (n + m) (xs ++ cs.toList) → Moved w w' v v' → wpList P ops Q rest (a.put o.dst v') w') :
    wpList P ops Q (o :: rest) a (w.alloc (.cells cs e)) := by
  obtain ⟨i, hi, hz0, hz1, hz2⟩ := info_parts hi
  subst hnb
  refine wpList_append_own_at (w.alloc (.cells cs e)) hgd s x t ho base e i z size bytes ht hi hz0 hz1 hz2 hzs hsz v n xs hs (hown.alloc _) ⟨w.heap.size, 0, none⟩ m c cs.toList hx (by simpa using hl)
    (World.news_of_block (heap_alloc_new w _)) h1 h63 hbytes (by simp; omega) ?_
  intro v' w' h2 h3 _ h4
  refine h v' w' h2 ⟨(World.grownBy_alloc w _ _).trans h3, ?_⟩
  rcases h4 with h4 | h4
  · exact .inl h4
  · exact .inr ⟨_, by simp, h4⟩

theorem ownsRow_ext {w w' : World} {base : Nat} {e : TypeId} {size : Nat} {v : Value} {n : Nat} {xs : List Value} (h : w.ownsRow base e size v n xs) (hx : Ext w w') : w'.ownsRow base e size v n xs := by
  refine ⟨h.1, ?_⟩
  rcases h.2 with h2 | ⟨g, cap, cur, hv, hg, hh, r⟩
  · exact .inl h2
  · exact .inr ⟨g, cap, cur, hv, hg, hx.block hh, r⟩
/-- Behind a call that only adds to the world, or ahead of it: the row moves from the first world on. -/
theorem Moved.ext {a b c : World} {v v' : Value} (h : Ext a b) (k : Moved b c v v') : Moved a c v v' :=
  ⟨⟨k.1.os.trans h.os, k.1.tape.trans h.tape, k.1.output.trans h.output, Nat.le_trans h.size k.1.size, fun i hi hne => (k.1.block i (Nat.lt_of_lt_of_le hi h.size) hne).trans (Below.block h i hi)⟩, by
    rcases k.2 with e | ⟨j, hj, e⟩
    · exact .inl e
    · exact .inr ⟨j, Nat.le_trans h.size hj, e⟩⟩
theorem Moved.set {w0 w : World} {g i n c : Nat} (u : Value) (h : Ext w0 w) : Moved w0 (w.setCell ⟨g, i, none⟩ u) (.slice (some ⟨g, 0, none⟩) n c) (.slice (some ⟨g, 0, none⟩) n c) :=
  ⟨⟨h.os, h.tape, h.output, by simpa [World.setCell] using h.size, fun k hk hne => (Below.heap_setCell w ⟨g, i, none⟩ u k (fun e => hne (by simp [Value.ownBlock, e]))).trans (Below.block h k hk)⟩, .inl rfl⟩

theorem own_shape {w : World} {base : Nat} {e : TypeId} {size : Nat} {v : Value} {n : Nat} {xs : List Value} (h : w.ownsRow base e size v n xs) : ∃ A c, v = .slice A n c ∧ n ≤ c := by
  rcases h.2 with ⟨h1, rfl⟩ | ⟨g, cap, cur, h1, _, _, hc, _⟩
  · exact ⟨_, _, h1, Nat.le_refl _⟩
  · exact ⟨_, _, h1, hc⟩
theorem hide {p : Prop} (h : p) : Hid p := h
theorem unhide {p : Prop} (h : Hid p) : p := h

end Go.Proofs.YtmcddajniiaieaaDoor
