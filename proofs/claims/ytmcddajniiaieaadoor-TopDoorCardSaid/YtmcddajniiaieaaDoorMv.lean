/- Maps of a call's own, as functions from keys to values. -/
import Derived.Test.YtmcddajniiaieaaDoorKp
namespace Go.Proofs.YtmcddajniiaieaaDoor
open Go.RowKit
open Go.Maps (Keyed)

abbrev heldR (v : Value) : Option (DataW Value × List MemPlace) := some (.held v, [])
/-- Block b is a map of at most n entries that maps as f. -/
def MapV (P : Program) (k : TypeId) (w : World) (b n : Nat) (f : Lit → Option Value) : Prop :=
  ∃ D, w.ownsMap P k heldR b n D ∧ Maps.IsMap D ∧ ∀ kl, WideAt.IsKeyLit kl → Maps.has D kl = (f kl).isSome ∧ ∀ v, f kl = some v → ∀ z, D.atKey kl z = .held v
open Classical in
noncomputable def upd (f : Lit → Option Value) (kl : Lit) (o : Option Value) : Lit → Option Value := fun l => if l = kl then o else f l
theorem upd_same (f : Lit → Option Value) (kl : Lit) (o : Option Value) : upd f kl o kl = o := if_pos rfl
theorem upd_other (f : Lit → Option Value) {kl l : Lit} (o : Option Value) (h : l ≠ kl) : upd f kl o l = f l := if_neg h
section
variable {P : Program} {k : TypeId} {w w' : World} {b n : Nat} {f : Lit → Option Value}
theorem MapV.made (P : Program) (k : TypeId) (w : World) : MapV P k (w.alloc (.map #[] 0)) w.heap.size 0 (fun _ => none) :=
  ⟨_, World.ownsMap_made w P k heldR, ⟨[], rfl⟩, fun kl _ => ⟨rfl, fun v h => by cases h⟩⟩
theorem MapV.blk (h : MapV P k w b n f) : ∃ es c, w.heap[b]? = some (.map es c) := by
  obtain ⟨D, ⟨es, c, hb, _⟩, _⟩ := h
  exact ⟨es, c, hb⟩
theorem MapV.lt (h : MapV P k w b n f) : b < w.heap.size := by
  obtain ⟨es, c, hb⟩ := h.blk
  exact (Array.getElem?_eq_some_iff.1 hb).1
theorem MapV.same (h : MapV P k w b n f) (e : ∀ es c, w.heap[b]? = some (.map es c) → w'.heap[b]? = some (.map es c)) : MapV P k w' b n f := by
  obtain ⟨D, ⟨es, c, hb, r⟩, r2⟩ := h
  exact ⟨D, ⟨es, c, e es c hb, r⟩, r2⟩
theorem MapV.ext (h : MapV P k w b n f) (hx : Ext w w') : MapV P k w' b n f := h.same fun _ _ e => hx.block e
theorem MapV.kp {B : Nat} {T : List TypeId} {M : List Nat} (h : MapV P k w b n f) (hx : Kp B T M w w') (hm : b ∉ M) : MapV P k w' b n f := h.same fun _ _ e => hx.maps e hm
theorem MapV.set (h : MapV P k w b n f) {p : Nat} {cs : Array Value} {t : TypeId} {fr : Nat × Nat} (hp : w.heap[p]? = some (.cells cs t fr)) (j : Nat) (v : Value) : MapV P k (w.setCell ⟨p, j, none⟩ v) b n f :=
  h.same fun es c e => (Below.heap_setCell w ⟨p, j, none⟩ v b (fun e2 => by
    have e2 : b = p := e2
    subst e2
    rw [hp] at e
    cases e)).trans e
theorem MapV.grown (h : MapV P k w b n f) {row : Option Nat} (hg : w.grownBy w' row) (hne : some b ≠ row) : MapV P k w' b n f := h.same fun _ _ e => (hg.block b (Array.getElem?_eq_some_iff.1 e).1 hne).trans e
theorem MapV.mono (h : MapV P k w b n f) {m : Nat} (hm : n ≤ m) : MapV P k w b m f := by
  obtain ⟨D, h1, h2⟩ := h
  exact ⟨D, h1.mono hm, h2⟩
theorem MapV.congr (h : MapV P k w b n f) {g : Lit → Option Value} (e : ∀ kl, f kl = g kl) : MapV P k w b n g := by
  obtain rfl : f = g := funext e
  exact h
theorem MapV.look_ok {t e : TypeId} (h : MapV P k w b n f) (K : Keyed P k) (ht : P.underlying t = some (.map k e)) {z : Value} (hz : (zeroValue e).run P w = .ok z w) {key : Value} {kl : Lit} (hkey : keyOf P k key = some kl) :
    (Instr.lookup t (.map (some b)) key true).run P w = .ok (.tuple #[(f kl).getD z, .bool (f kl).isSome]) w := by
  obtain ⟨D, h1, _, h3⟩ := h
  obtain ⟨v, ps, hrun, hv⟩ := h1.look_ok K ht hz (zd := .held z) (zp := []) rfl hkey
  obtain ⟨e1, e2⟩ := h3 kl (K.key hkey)
  rw [hrun, e1]
  have hv : DataW.held v = D.atKey kl (.held z) := congrArg Prod.fst (Option.some.inj hv)
  cases hf : f kl with
  | none =>
    rw [hf] at e1
    rw [Maps.atKey_of_not_has e1] at hv
    cases hv
    rfl
  | some u =>
    rw [e2 u hf] at hv
    cases hv
    rfl
theorem MapV.look {t e : TypeId} (h : MapV P k w b n f) (K : Keyed P k) (ht : P.underlying t = some (.map k e)) {z : Value} (hz : (zeroValue e).run P w = .ok z w) {key : Value} {kl : Lit} (hkey : keyOf P k key = some kl) :
    (Instr.lookup t (.map (some b)) key false).run P w = .ok ((f kl).getD z) w := by
  obtain ⟨D, h1, _, h3⟩ := h
  obtain ⟨v, ps, hrun, hv⟩ := h1.lookup K ht hz (zd := .held z) (zp := []) rfl hkey
  obtain ⟨e1, e2⟩ := h3 kl (K.key hkey)
  rw [hrun]
  have hv : DataW.held v = D.atKey kl (.held z) := congrArg Prod.fst (Option.some.inj hv)
  cases hf : f kl with
  | none =>
    rw [hf] at e1
    rw [Maps.atKey_of_not_has e1] at hv
    cases hv
    rfl
  | some u =>
    rw [e2 u hf] at hv
    cases hv
    rfl
/-- 'v, ok := m[k]' at the operation. -/
theorem wpList_look_ok {ops : Array Oper} {rest : List Oper} {o : Oper} {a : Act} {Q : Exit → Act → World → Prop} (hg : o.guard = none) (m x : Operand) (t : TypeId) (hop : o.op = Op.lookup t m x true)
    (k e : TypeId) (K : Keyed P k) (ht : P.underlying t = some (.map k e)) (z : Value) (hz : (zeroValue e).run P w = .ok z w) (b n : Nat) (f : Lit → Option Value)
    (hm : a.eval m = .map (some b)) (h : MapV P k w b n f) (key : Value) (kl : Lit) (hx : a.eval x = key) (hkey : keyOf P k key = some kl)
    (hK : wpList P ops Q rest (a.put o.dst (.tuple #[(f kl).getD z, .bool (f kl).isSome])) w) : wpList P ops Q (o :: rest) a w := by
  refine wpList_plain hg fun K' hK' => ?_
  unfold Oper.wp
  simp [execOp, hop, hm, hx, h.look_ok K ht hz hkey, Result.andThen]
  exact hK' _ _ hK
/-- 'm[k]' at the operation. -/
theorem wpList_look {ops : Array Oper} {rest : List Oper} {o : Oper} {a : Act} {Q : Exit → Act → World → Prop} (hg : o.guard = none) (m x : Operand) (t : TypeId) (hop : o.op = Op.lookup t m x false)
    (k e : TypeId) (K : Keyed P k) (ht : P.underlying t = some (.map k e)) (z : Value) (hz : (zeroValue e).run P w = .ok z w) (b n : Nat) (f : Lit → Option Value)
    (hm : a.eval m = .map (some b)) (h : MapV P k w b n f) (key : Value) (kl : Lit) (hx : a.eval x = key) (hkey : keyOf P k key = some kl)
    (hK : wpList P ops Q rest (a.put o.dst ((f kl).getD z)) w) : wpList P ops Q (o :: rest) a w := by
  refine wpList_plain hg fun K' hK' => ?_
  unfold Oper.wp
  simp [execOp, hop, hm, hx, h.look K ht hz hkey, Result.andThen]
  exact hK' _ _ hK
/-- 'm[k] = v' at the operation. -/
theorem wpList_store {ops : Array Oper} {rest : List Oper} {o : Oper} {a : Act} {Q : Exit → Act → World → Prop} (hg : o.guard = none) (m x v : Operand) (t : TypeId) (hop : o.op = Op.mapUpdate t m x v)
    (k e : TypeId) (K : Keyed P k) (ht : P.underlying t = some (.map k e)) (b n : Nat) (f : Lit → Option Value)
    (hm : a.eval m = .map (some b)) (h : MapV P k w b n f) (hn : n < maxLen) (key val : Value) (kl : Lit) (hx : a.eval x = key) (hv : a.eval v = val) (hkey : keyOf P k key = some kl)
    (hK : ∀ w', MapV P k w' b (n + 1) (upd f kl (some val)) → w.grownBy w' (some b) → wpList P ops Q rest (a.put o.dst undef) w') : wpList P ops Q (o :: rest) a w := by
  obtain ⟨D, h1, h2, h3⟩ := h
  refine wpList_mapUpdate_in w hg m x v t hop k e K ht heldR b n D hm h1 hn key val kl hx hv hkey (.held val) [] rfl fun w' r1 r2 => hK w' ?_ r2.grown
  refine ⟨_, r1, h2.put _ _, fun l hl => ?_⟩
  by_cases e : l = kl
  · subst e
    rw [upd_same]
    exact ⟨Maps.has_put_same h2 hl _, fun v hv z => by cases hv; exact Maps.atKey_put_same h2 hl _ _⟩
  · rw [upd_other _ _ e, Maps.has_put_other e]
    exact ⟨(h3 l hl).1, fun v hv z => by rw [Maps.atKey_put_other e]; exact (h3 l hl).2 v hv z⟩
/-- 'delete(m, k)' at the operation. -/
theorem wpList_strike {ops : Array Oper} {rest : List Oper} {o : Oper} {a : Act} {Q : Exit → Act → World → Prop} (hg : o.guard = none) (m x : Operand) (t k : TypeId) (hop : o.op = Op.call { callee := Callee.builtin Builtin.delete, args := #[m, x], argTypes := #[t, k] })
    (e : TypeId) (K : Keyed P k) (ht : P.underlying t = some (.map k e)) (b n : Nat) (f : Lit → Option Value)
    (hm : a.eval m = .map (some b)) (h : MapV P k w b n f) (key : Value) (kl : Lit) (hx : a.eval x = key) (hkey : keyOf P k key = some kl)
    (hK : ∀ w', MapV P k w' b n (upd f kl none) → w.grownBy w' (some b) → wpList P ops Q rest (a.put o.dst (.tuple #[])) w') : wpList P ops Q (o :: rest) a w := by
  obtain ⟨D, h1, h2, h3⟩ := h
  refine wpList_delete_own w hg m x t k hop e K ht heldR b n D hm h1 key kl hx hkey fun w' r1 r2 => hK w' ?_ r2.grown
  refine ⟨_, r1, h2.del _, fun l hl => ?_⟩
  by_cases e : l = kl
  · subst e
    rw [upd_same]
    exact ⟨Maps.has_del_same, fun v hv => by cases hv⟩
  · rw [upd_other _ _ e, Maps.has_del_other e]
    exact ⟨(h3 l hl).1, fun v hv z => by rw [Maps.atKey_del_other e]; exact (h3 l hl).2 v hv z⟩
end
end Go.Proofs.YtmcddajniiaieaaDoor
