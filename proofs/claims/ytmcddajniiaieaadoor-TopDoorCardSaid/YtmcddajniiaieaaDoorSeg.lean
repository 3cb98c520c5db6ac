/- A doubly linked row of things in memory: plain. -/
import Derived.Test.YtmcddajniiaieaaDoorMv
namespace Go.Proofs.YtmcddajniiaieaaDoor
open Go.RowKit

/-- A thing of a row: its block, its key, its bytes. -/
structure Nd where
  b : Nat
  k : Int
  n : Int
def Nd.ptr (x : Nd) : Option Addr := some ⟨x.b, 0, none⟩
/-- The first of a list, or what stands behind it. -/
def hdP : List Nd → Option Addr → Option Addr
  | [], ah => ah
  | x :: _, _ => x.ptr
/-- The last of a list, or what stands ahead of it. -/
def lsP : List Nd → Option Addr → Option Addr
  | [], bh => bh
  | x :: L, _ => lsP L x.ptr
def Nd.At (ty : TypeId) (w : World) (kp : Bool) (x : Nd) (ah bh : Option Addr) : Prop :=
  w.heap[x.b]? = some (.cells #[.int .i64 x.k, .int .i64 x.n, .bool kp, .pointer ah, .pointer bh] ty (0, 0))
/-- A row from its back to its front: each knows who is nearer to the front (ahead), and who is nearer to the back (behind). -/
def Seg (ty : TypeId) (w : World) (kp : Bool) : Option Addr → List Nd → Option Addr → Prop
  | _, [], _ => True
  | bh, x :: L, ah => x.At ty w kp (hdP L ah) bh ∧ Seg ty w kp x.ptr L ah
section
variable {ty : TypeId} {w w' : World} {kp : Bool}
theorem hdP_append (A B : List Nd) (ah : Option Addr) : hdP (A ++ B) ah = hdP A (hdP B ah) := by cases A <;> rfl
theorem lsP_append (A B : List Nd) (bh : Option Addr) : lsP (A ++ B) bh = lsP B (lsP A bh) := by
  induction A generalizing bh with
  | nil => rfl
  | cons x A ih => exact ih _
theorem lsP_snoc (A : List Nd) (x : Nd) (bh : Option Addr) : lsP (A ++ [x]) bh = x.ptr := by rw [lsP_append]; rfl
theorem seg_append (A B : List Nd) (bh ah : Option Addr) : Seg ty w kp bh (A ++ B) ah ↔ Seg ty w kp bh A (hdP B ah) ∧ Seg ty w kp (lsP A bh) B ah := by
  induction A generalizing bh with
  | nil => simp [Seg, lsP]
  | cons x A ih =>
    show (x.At ty w kp (hdP (A ++ B) ah) bh ∧ Seg ty w kp x.ptr (A ++ B) ah) ↔ (_ ∧ Seg ty w kp x.ptr A (hdP B ah)) ∧ Seg ty w kp (lsP A x.ptr) B ah
    rw [ih, hdP_append]
    exact ⟨fun ⟨a, b, c⟩ => ⟨⟨a, b⟩, c⟩, fun ⟨⟨a, b⟩, c⟩ => ⟨a, b, c⟩⟩
theorem seg_snoc (A : List Nd) (x : Nd) (bh ah : Option Addr) : Seg ty w kp bh (A ++ [x]) ah ↔ Seg ty w kp bh A x.ptr ∧ x.At ty w kp ah (lsP A bh) := by
  rw [seg_append]
  exact ⟨fun ⟨a, b⟩ => ⟨a, b.1⟩, fun ⟨a, b⟩ => ⟨a, b, trivial⟩⟩
theorem Seg.keep {bh ah : Option Addr} {L : List Nd} (h : Seg ty w kp bh L ah) (e : ∀ x ∈ L, w'.heap[x.b]? = w.heap[x.b]?) : Seg ty w' kp bh L ah := by
  induction L generalizing bh with
  | nil => trivial
  | cons x L ih => exact ⟨(e x (List.mem_cons_self ..)).trans h.1, ih h.2 fun y hy => e y (List.mem_cons_of_mem _ hy)⟩
theorem Seg.mem {bh ah : Option Addr} {L : List Nd} (h : Seg ty w kp bh L ah) {x : Nd} (hx : x ∈ L) : ∃ p q, x.At ty w kp p q := by
  induction L generalizing bh with
  | nil => cases hx
  | cons y L ih =>
    rcases List.mem_cons.1 hx with rfl | hx
    · exact ⟨_, _, h.1⟩
    · exact ih h.2 hx
theorem Seg.ext {bh ah : Option Addr} {L : List Nd} (h : Seg ty w kp bh L ah) (hx : Ext w w') : Seg ty w' kp bh L ah :=
  h.keep fun x hm => by
    obtain ⟨p, q, hp⟩ := h.mem hm
    exact (hx.block hp).trans hp.symm
theorem Seg.kp_ {B : Nat} {T : List TypeId} {M : List Nat} {bh ah : Option Addr} {L : List Nd} (h : Seg ty w kp bh L ah) (hk : Kp B T M w w') (ht : ty ∉ T) : Seg ty w' kp bh L ah :=
  h.keep fun x hm => by
    obtain ⟨p, q, hp⟩ := h.mem hm
    exact (hk.cells hp ht).trans hp.symm
/-- One cell of one block, stored: the block's cells behind it. -/
theorem set_blk {b j : Nat} {cs : Array Value} {t : TypeId} {fr : Nat × Nat} (h : w.heap[b]? = some (.cells cs t fr)) (v : Value) : (w.setCell ⟨b, j, none⟩ v).heap[b]? = some (.cells (cs.setIfInBounds j v) t fr) := by
  have hlt : b < w.heap.size := (Array.getElem?_eq_some_iff.1 h).1
  have e : w.heap[b] = .cells cs t fr := by rw [Array.getElem?_eq_getElem hlt] at h; exact Option.some.inj h
  unfold World.setCell
  simp [hlt, Array.getElem_modify, e]
theorem set_far {b j g : Nat} (v : Value) (h : g ≠ b) : (w.setCell ⟨b, j, none⟩ v).heap[g]? = w.heap[g]? := Below.heap_setCell w ⟨b, j, none⟩ v g h
def sumN (L : List Nd) : Int := L.foldl (fun s x => s + x.n) 0
theorem sumN_from (L : List Nd) (s : Int) : L.foldl (fun s x => s + x.n) s = s + sumN L := by
  unfold sumN
  induction L generalizing s with
  | nil => simp
  | cons x L ih => simp only [List.foldl_cons]; rw [ih, ih (0 + x.n)]; omega
theorem sumN_cons (x : Nd) (L : List Nd) : sumN (x :: L) = x.n + sumN L := by
  show L.foldl _ (0 + x.n) = _
  rw [sumN_from]; omega
theorem sumN_append (A B : List Nd) : sumN (A ++ B) = sumN A + sumN B := by
  induction A with
  | nil => simp [sumN]
  | cons x A ih => rw [List.cons_append, sumN_cons, sumN_cons, ih]; omega
theorem sumN_bound {L : List Nd} (h : ∀ x ∈ L, 1 ≤ x.n ∧ x.n ≤ 1099511627776) : (L.length : Int) ≤ sumN L ∧ sumN L ≤ L.length * 1099511627776 := by
  induction L with
  | nil => simp [sumN]
  | cons x L ih =>
    have h1 := h x (List.mem_cons_self ..)
    have h2 := ih fun y hy => h y (List.mem_cons_of_mem _ hy)
    rw [sumN_cons, List.length_cons]
    omega
/-- None but these blocks has turned. -/
structure Ch (S : List Nat) (w w' : World) : Prop where
  os : w'.os = w.os
  tape : w'.tape = w.tape
  output : w'.output = w.output
  size : w.heap.size ≤ w'.heap.size
  block : ∀ g, g < w.heap.size → g ∉ S → w'.heap[g]? = w.heap[g]?
theorem Ch.refl (S : List Nat) (w : World) : Ch S w w := ⟨rfl, rfl, rfl, Nat.le_refl _, fun _ _ _ => rfl⟩
theorem Ch.trans {S : List Nat} {a b c : World} (h : Ch S a b) (k : Ch S b c) : Ch S a c :=
  ⟨k.os.trans h.os, k.tape.trans h.tape, k.output.trans h.output, Nat.le_trans h.size k.size, fun g hg hn => (k.block g (Nat.lt_of_lt_of_le hg h.size) hn).trans (h.block g hg hn)⟩
theorem Ch.mono {S S' : List Nat} (h : Ch S w w') (hs : ∀ g ∈ S, g ∈ S') : Ch S' w w' := ⟨h.os, h.tape, h.output, h.size, fun g hg hn => h.block g hg fun hm => hn (hs g hm)⟩
theorem Ch.of_ext {S : List Nat} (h : Ext w w') : Ch S w w' := ⟨h.os, h.tape, h.output, h.size, fun k hk _ => Below.block h k hk⟩
theorem Ch.set {S : List Nat} {a b : World} (h : Ch S a b) {p : Nat} (hp : p ∈ S) (j : Nat) (v : Value) : Ch S a (b.setCell ⟨p, j, none⟩ v) :=
  ⟨h.os, h.tape, h.output, by simpa [World.setCell] using h.size, fun g hg hn => (set_far v (fun e : g = p => hn (by rw [e]; exact hp))).trans (h.block g hg hn)⟩
theorem Ch.far {S : List Nat} (h : Ch S w w') {g : Nat} {o : Obj} (ho : w.heap[g]? = some o) (hn : g ∉ S) : w'.heap[g]? = some o := (h.block g (Array.getElem?_eq_some_iff.1 ho).1 hn).trans ho
theorem Ch.toKp {S : List Nat} {B : Nat} {T : List TypeId} {M : List Nat} (h : Ch S w w') (hs : ∀ g ∈ S, g < w.heap.size → B ≤ g ∧ May T M w g) : Kp B T M w w' :=
  ⟨h.os, h.tape, h.output, h.size, fun g hg hn => h.block g hg fun hm => by
    obtain ⟨h1, h2⟩ := hs g hm hg
    rcases hn with hn | hn
    · omega
    · exact hn h2⟩
theorem Seg.far {S : List Nat} {bh ah : Option Addr} {L : List Nd} (h : Seg ty w kp bh L ah) (hc : Ch S w w') (hn : ∀ x ∈ L, x.b ∉ S) : Seg ty w' kp bh L ah :=
  h.keep fun x hx => by
    obtain ⟨p, q, hp⟩ := h.mem hx
    exact hc.block x.b (Array.getElem?_eq_some_iff.1 hp).1 (hn x hx)
/-- A store, at any block. -/
def stO (j : Nat) (v : Value) : Obj → Obj
  | .cells c t fr => .cells (c.setIfInBounds j v) t fr
  | o => o
theorem heap_set (w : World) (b j : Nat) (v : Value) (g : Nat) : (w.setCell ⟨b, j, none⟩ v).heap[g]? = if g = b then (w.heap[b]?).map (stO j v) else w.heap[g]? := by
  by_cases h : g = b
  · subst h
    rw [if_pos rfl]
    unfold World.setCell
    simp only [Array.getElem?_modify, if_true]
    rfl
  · rw [if_neg h]
    exact set_far v h
end
end Go.Proofs.YtmcddajniiaieaaDoor
