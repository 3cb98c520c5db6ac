/- What a step may turn: of the call's own blocks the cells of some types, and some maps; all else stays. -/
import Derived.Test.YtmcddajniiaieaaDoorWords
import Derived.Maps.OwnSet
namespace Go.Proofs.YtmcddajniiaieaaDoor
open Go.RowKit

/-- A block that may turn: cells of one of the types in T, or a map whose number is in M. -/
def May (T : List TypeId) (M : List Nat) (w : World) (k : Nat) : Prop :=
  (∃ cs t fr, w.heap[k]? = some (.cells cs t fr) ∧ t ∈ T) ∨ (∃ es c, w.heap[k]? = some (.map es c) ∧ k ∈ M)
structure Kp (B : Nat) (T : List TypeId) (M : List Nat) (w w' : World) : Prop where
  os : w'.os = w.os
  tape : w'.tape = w.tape
  output : w'.output = w.output
  size : w.heap.size ≤ w'.heap.size
  block : ∀ k, k < w.heap.size → (k < B ∨ ¬ May T M w k) → w'.heap[k]? = w.heap[k]?
section
variable {B B' : Nat} {T T' : List TypeId} {M M' : List Nat} {a b c w w' : World}
theorem Kp.refl (B : Nat) (T : List TypeId) (M : List Nat) (w : World) : Kp B T M w w := ⟨rfl, rfl, rfl, Nat.le_refl _, fun _ _ _ => rfl⟩
theorem May.of {k : Nat} (h : May T M b k) (e : b.heap[k]? = a.heap[k]?) : May T M a k := by
  rcases h with ⟨cs, t, fr, h, ht⟩ | ⟨es, c, h, hm⟩
  · exact .inl ⟨cs, t, fr, e ▸ h, ht⟩
  · exact .inr ⟨es, c, e ▸ h, hm⟩
theorem Kp.trans (h : Kp B T M a b) (k : Kp B T M b c) : Kp B T M a c :=
  ⟨k.os.trans h.os, k.tape.trans h.tape, k.output.trans h.output, Nat.le_trans h.size k.size, fun i hi hn => by
    have e := h.block i hi hn
    exact (k.block i (Nat.lt_of_lt_of_le hi h.size) (hn.imp id fun hn hm => hn (hm.of e))).trans e⟩
theorem Kp.mono (h : Kp B T M a b) (hB : B' ≤ B) (hT : ∀ t ∈ T, t ∈ T') (hM : ∀ m ∈ M, m ∈ M') : Kp B' T' M' a b :=
  ⟨h.os, h.tape, h.output, h.size, fun i hi hn => h.block i hi (by
    rcases hn with hn | hn
    · exact .inl (by omega)
    · refine .inr fun hm => hn ?_
      rcases hm with ⟨cs, t, fr, h, ht⟩ | ⟨es, c, h, hm⟩
      · exact .inl ⟨cs, t, fr, h, hT t ht⟩
      · exact .inr ⟨es, c, h, hM _ hm⟩)⟩
theorem Kp.of_ext (h : Ext w w') : Kp B T M w w' := ⟨h.os, h.tape, h.output, h.size, fun k hk _ => Below.block h k hk⟩
theorem Kp.ext (h : Kp B T M a b) (k : Ext b c) : Kp B T M a c := h.trans (Kp.of_ext k)
theorem Ext.kp {w0 : World} (h : Ext w0 w) (k : Kp B T M w w') (hB : w0.heap.size ≤ B) : Ext w0 w' :=
  ⟨k.os.trans h.os, k.tape.trans h.tape, k.output.trans h.output, Nat.le_trans h.size k.size, fun i hi => (k.block i (Nat.lt_of_lt_of_le hi h.size) (.inl (by omega))).trans (Below.block h i hi)⟩
/-- Nothing of the call's own stood: the step adds alone. -/
theorem Kp.to_ext (k : Kp B T M w w') (hB : w.heap.size ≤ B) : Ext w w' := (Ext.refl w).kp k hB
theorem Kp.set (h : Kp B T M a b) {p : Nat} {cs : Array Value} {t : TypeId} {fr : Nat × Nat} (hb : b.heap[p]? = some (.cells cs t fr)) (ht : t ∈ T) (hp : B ≤ p) (j : Nat) (v : Value) : Kp B T M a (b.setCell ⟨p, j, none⟩ v) :=
  h.trans ⟨rfl, rfl, rfl, by simp [World.setCell], fun i hi hn => Below.heap_setCell b ⟨p, j, none⟩ v i (fun e => by
    have e : i = p := e
    subst e
    rcases hn with hn | hn
    · omega
    · exact hn (.inl ⟨cs, t, fr, hb, ht⟩))⟩
theorem Kp.map (h : Kp B T M a b) {m : Nat} {es : Array MapEntry} {cl : Nat} (hb : b.heap[m]? = some (.map es cl)) (hm : m ∈ M) (hp : B ≤ m) (hg : b.grownBy c (some m)) : Kp B T M a c :=
  h.trans ⟨hg.os, hg.tape, hg.output, hg.size, fun i hi hn => hg.block i hi (fun e => by
    cases e
    rcases hn with hn | hn
    · omega
    · exact hn (.inr ⟨es, cl, hb, hm⟩))⟩
theorem Kp.old (h : Kp B T M a b) {k : Nat} {o : Obj} (ho : a.heap[k]? = some o) (hk : k < B) : b.heap[k]? = some o :=
  (h.block k (Array.getElem?_eq_some_iff.1 ho).1 (.inl hk)).trans ho
theorem Kp.cells (h : Kp B T M a b) {k : Nat} {cs : Array Value} {t : TypeId} {fr : Nat × Nat} (ho : a.heap[k]? = some (.cells cs t fr)) (ht : t ∉ T) : b.heap[k]? = some (.cells cs t fr) :=
  (h.block k (Array.getElem?_eq_some_iff.1 ho).1 (.inr fun hm => by
    rcases hm with ⟨cs', t', fr', h1, h2⟩ | ⟨es, c, h1, _⟩
    · rw [ho] at h1; cases h1; exact ht h2
    · rw [ho] at h1; cases h1)).trans ho
theorem Kp.maps (h : Kp B T M a b) {k : Nat} {es : Array MapEntry} {cl : Nat} (ho : a.heap[k]? = some (.map es cl)) (hm : k ∉ M) : b.heap[k]? = some (.map es cl) :=
  (h.block k (Array.getElem?_eq_some_iff.1 ho).1 (.inr fun hm' => by
    rcases hm' with ⟨cs', t', fr', h1, h2⟩ | ⟨es, c, h1, h2⟩
    · rw [ho] at h1; cases h1
    · exact hm h2)).trans ho
end
end Go.Proofs.YtmcddajniiaieaaDoor
