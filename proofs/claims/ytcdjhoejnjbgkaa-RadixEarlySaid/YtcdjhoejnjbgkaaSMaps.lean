/- At string: The contracts of the map's methods, and of a call of the law's. -/
import Derived.Test.YtcdjhoejnjbgkaaMaps
import Derived.Test.YtcdjhoejnjbgkaaSNext
import Derived.Laws.StructEq
namespace Go.Proofs.Ytcdjhoejnjbgkaa.St
open Go.RowKit

/-- A step that turns no node. -/
def Nodes (w w' : World) : Prop := ∀ (g : Nat) (cs : Array Value), w.heap[g]? = some (.cells cs 80 (0, 0)) → w'.heap[g]? = some (.cells cs 80 (0, 0))
theorem At.keep {w w' : World} (hk : Nodes w w') : ∀ {t : Nd} {p : Option Addr}, At w p t → At w' p t := by
  intro t
  induction t with
  | leaf k v => rintro p ⟨b, e, h⟩; exact ⟨b, e, Cells.of_block (hk _ _ h.blk)⟩
  | br pr i z o hz ho => rintro p ⟨b, zp, op, e, h, h1, h2⟩; exact ⟨b, zp, op, e, Cells.of_block (hk _ _ h.blk), hz h1, ho h2⟩
theorem AtO.keep {w w' : World} (hk : Nodes w w') {p : Option Addr} {t : Option Nd} (h : AtO w p t) : AtO w' p t := by
  cases t with
  | none => exact h
  | some t => exact At.keep hk h
theorem nodes_set {w : World} {b : Nat} {cs : Array Value} {t : TypeId} {fr : Nat × Nat} (h : w.heap[b]? = some (.cells cs t fr)) (ht : t ≠ 80) (j : Nat) (u : Value) : Nodes w (w.setCell ⟨b, j, none⟩ u) := by
  intro g ds hg
  refine (Below.heap_setCell w ⟨b, j, none⟩ u g ?_).trans hg
  rintro rfl
  rw [h] at hg
  injection hg with hg
  injection hg with _ hg
  exact ht hg

/-- A map of numbers, whole. -/
def MapIs (w : World) (p : Option Addr) (t : Option Nd) : Prop := AtO w p t ∧ Nd.oWF t ∧ (Nd.oL t).length ≤ 1000
theorem MapIs.ext {w w' : World} {p : Option Addr} {t : Option Nd} (hx : Ext w w') (h : MapIs w p t) : MapIs w' p t := ⟨h.1.ext hx, h.2⟩
def MapPost (w : World) (t : Option Nd) (e : Ending) (w' : World) : Prop := ∃ p, e = .returned (.agg #[.pointer p]) ∧ AtO w' p t ∧ Ext w w'

theorem mput_calls (p : Option Addr) (t : Option Nd) (k : Nat) (v : Int) (w : World) (h : MapIs w p t) (hk : k < 2 ^ 64) :
    Calls Try.prog 25 #[.agg #[.pointer p], .int .u64 k, .string (str v)] w (MapPost w (some (putO k v t))) := by
  have hx0 : Ext w ((w.alloc (.cells #[.pointer p] 56)).alloc (.cells #[.pointer none] 56)) := ((Ext.refl w).alloc _).alloc _
  have hc : Calls Try.prog 39 #[.pointer p, .int .u64 k, .string (str v)] ((w.alloc (.cells #[.pointer p] 56)).alloc (.cells #[.pointer none] 56)) (NodePost ((w.alloc (.cells #[.pointer p] 56)).alloc (.cells #[.pointer none] 56)) (putO k v t)) := by
    obtain ⟨h1, h2, h3⟩ := h
    cases t with
    | none => obtain rfl : p = none := h1; exact put_new none k v _ (.inl rfl)
    | some t => exact put_calls k v hk t p _ (At.ext hx0 h1) h2 (by rw [Nd.many_eq]; have : (Nd.oL (some t)) = t.toL := rfl; rw [this] at h3; omega)
  have HC := hide hc
  clear hc h
  go_enter Try.func25, Try.ntmps25
  go_wp2_with fail
  refine (unhide HC).mono ?_
  rintro e w1 ⟨b, rfl, hat, hx⟩
  have hs := hx.size
  simp only [World.size_alloc] at hs
  have c0 : w1.cell? ⟨w.heap.size + 1, 0, none⟩ = some (.pointer none) := hx.cell (by simp)
  have f0 : w1.frozen? ⟨w.heap.size + 1, 0, none⟩ = false := by rw [hx.frozen (by simp)]; simp
  have hx2 := hx0.trans hx
  go_wp2
  have hblk : w1.heap[w.heap.size + 1]? = some (.cells #[.pointer none] 56 (0, 0)) := by
    have := hx.block (heap_alloc_new (w.alloc (.cells #[.pointer p] 56)) (.cells #[.pointer none] 56))
    simpa using this
  have h3 : (w1.setCell ⟨w.heap.size + 1, 0, none⟩ (.pointer (some ⟨b, 0, none⟩))).cell? ⟨w.heap.size + 1, 0, none⟩ = some (.pointer (some ⟨b, 0, none⟩)) := by
    rw [cell_of_row _ _ 0 _ _ _ (heap_setCell_same w1 _ 0 _ 56 _ hblk)]; rfl
  exact bodyPost_ret (v := .agg #[.pointer (some ⟨b, 0, none⟩)]) (by simp [results, Try.results25, go_sem, h3]) rfl
    ⟨_, rfl, At.keep (nodes_set hblk (by decide) 0 _) hat, hx2.setCell (p := ⟨w.heap.size + 1, 0, none⟩) (by simp) _⟩

theorem mdrop_calls (p : Option Addr) (t : Option Nd) (k : Nat) (w : World) (h : MapIs w p t) (hk : k < 2 ^ 64) :
    Calls Try.prog 26 #[.agg #[.pointer p], .int .u64 k] w (MapPost w (dropO k t)) := by
  have hx0 : Ext w ((w.alloc (.cells #[.pointer p] 56)).alloc (.cells #[.pointer none] 56)) := ((Ext.refl w).alloc _).alloc _
  have hc : Calls Try.prog 40 #[.pointer p, .int .u64 k] ((w.alloc (.cells #[.pointer p] 56)).alloc (.cells #[.pointer none] 56)) (OPost ((w.alloc (.cells #[.pointer p] 56)).alloc (.cells #[.pointer none] 56)) (dropO k t)) := by
    obtain ⟨h1, h2, h3⟩ := h
    cases t with
    | none => obtain rfl : p = none := h1; exact drop_nil k _
    | some t => exact drop_calls k hk t p _ (At.ext hx0 h1) h2 (by rw [Nd.many_eq]; have : (Nd.oL (some t)) = t.toL := rfl; rw [this] at h3; omega)
  have HC := hide hc
  clear hc h
  go_enter Try.func26, Try.ntmps26
  go_wp2_with fail
  refine (unhide HC).mono ?_
  rintro e w1 ⟨q, rfl, hat, hx⟩
  have hs := hx.size
  simp only [World.size_alloc] at hs
  have c0 : w1.cell? ⟨w.heap.size + 1, 0, none⟩ = some (.pointer none) := hx.cell (by simp)
  have f0 : w1.frozen? ⟨w.heap.size + 1, 0, none⟩ = false := by rw [hx.frozen (by simp)]; simp
  have hx2 := hx0.trans hx
  go_wp2
  have hblk : w1.heap[w.heap.size + 1]? = some (.cells #[.pointer none] 56 (0, 0)) := by
    have := hx.block (heap_alloc_new (w.alloc (.cells #[.pointer p] 56)) (.cells #[.pointer none] 56))
    simpa using this
  have h3 : (w1.setCell ⟨w.heap.size + 1, 0, none⟩ (.pointer q)).cell? ⟨w.heap.size + 1, 0, none⟩ = some (.pointer q) := by
    rw [cell_of_row _ _ 0 _ _ _ (heap_setCell_same w1 _ 0 _ 56 _ hblk)]; rfl
  exact bodyPost_ret (v := .agg #[.pointer q]) (by simp [results, Try.results26, go_sem, h3]) rfl
    ⟨_, rfl, AtO.keep (nodes_set hblk (by decide) 0 _) hat, hx2.setCell (p := ⟨w.heap.size + 1, 0, none⟩) (by simp) _⟩

theorem mlen_calls (p : Option Addr) (t : Option Nd) (w : World) (h : AtO w p t) :
    Calls Try.prog 30 #[.agg #[.pointer p]] w fun e w' => e = .returned (.int .i64 ((Nd.oL t).length : Int)) ∧ Ext w w' := by
  have hx0 : Ext w (w.alloc (.cells #[.pointer p] 56)) := (Ext.refl w).alloc _
  cases t with
  | none =>
    obtain rfl : p = none := h
    go_enter Try.func30, Try.ntmps30
    go_wp2
    go_ret
    exact ⟨rfl, hx0⟩
  | some t =>
    obtain ⟨b, rfl⟩ := at_some h
    have c5 := hx0.cell (at_md h).1
    have e : (Nd.oL (some t)).length = t.many := (Nd.many_eq t).symm
    rw [e]
    go_enter Try.func30, Try.ntmps30
    go_wp2
    go_ret
    exact ⟨rfl, hx0⟩
theorem mdepth_calls (p : Option Addr) (t : Option Nd) (w : World) (h : AtO w p t) :
    Calls Try.prog 31 #[.agg #[.pointer p]] w fun e w' => e = .returned (.int .i64 (depthO t : Int)) ∧ Ext w w' := by
  have hx0 : Ext w (w.alloc (.cells #[.pointer p] 56)) := (Ext.refl w).alloc _
  cases t with
  | none =>
    obtain rfl : p = none := h
    go_enter Try.func31, Try.ntmps31
    go_wp2
    go_ret
    exact ⟨rfl, hx0⟩
  | some t =>
    obtain ⟨b, rfl⟩ := at_some h
    have c5 := hx0.cell (at_md h).2
    have e : depthO (some t) = t.depth := rfl
    rw [e]
    go_enter Try.func31, Try.ntmps31
    go_wp2
    go_ret
    exact ⟨rfl, hx0⟩

def getV : Option Int → Value
  | none => .tuple #[.string (str 0), .bool false]
  | some v => .tuple #[.string (str v), .bool true]

open Classical in
/-- How much of the tree lies below a pointer, read off the world. -/
noncomputable def leftN (w : World) (v : Value) : Nat :=
  if h : ∃ r : Option Addr × Nd, v = .pointer r.1 ∧ At w r.1 r.2 then (Classical.choose h).2.many else 0
theorem leftN_eq {w : World} {q : Option Addr} {t : Nd} (h : At w q t) : leftN w (.pointer q) = t.many := by
  have hex : ∃ r : Option Addr × Nd, Value.pointer q = .pointer r.1 ∧ At w r.1 r.2 := ⟨(q, t), rfl, h⟩
  unfold leftN
  rw [dif_pos hex]
  obtain ⟨e, hl⟩ := Classical.choose_spec hex
  have e' : q = (Classical.choose hex).1 := by simpa using e
  rw [← e'] at hl
  exact (at_many hl h).1
theorem Nd.many_pos (t : Nd) : 0 < t.many := by
  induction t with
  | leaf => simp [Nd.many]
  | br p b z o hz ho => simp only [Nd.many]; omega

set_option maxRecDepth 100000 in
theorem mget_calls (p : Option Addr) (t : Option Nd) (k : Nat) (w : World) (h : AtO w p t) (hwf : Nd.oWF t) (hk : k < 2 ^ 64) :
    Calls Try.prog 28 #[.agg #[.pointer p], .int .u64 k] w fun e w' => e = .returned (getV (getO k t)) ∧ Ext w w' := by
  have hx0 : Ext w (w.alloc (.cells #[.pointer p] 56)) := (Ext.refl w).alloc _
  cases t with
  | none =>
    obtain rfl : p = none := h
    go_enter Try.func28, Try.ntmps28
    go_wp2
    go_loop [6] (fun v => v = .pointer none) (fun _ => 0)
    case atStart => rfl
    case round =>
      subst hrel
      go_wp2
      go_ret2
      exact ⟨rfl, hx0⟩
  | some t =>
    have h0 := At.ext hx0 h
    have H0 := Lib.hid h0
    clear h h0
    go_enter Try.func28, Try.ntmps28
    go_wp2
    generalize w.alloc (.cells #[.pointer p] 56) = W at *
    go_loop [6] (fun v => ∃ q t', v = .pointer q ∧ At W q t' ∧ t'.WF ∧ t'.get k = t.get k) (fun v => leftN W v)
    case atStart => exact ⟨p, t, rfl, H0.out, hwf, rfl⟩
    case round =>
      obtain ⟨q, t', rfl, hat, hw', hg⟩ := hrel
      have HA := Lib.hid hat
      have HG := Lib.hid hg
      clear hg
      cases t' with
      | leaf k' v' =>
        obtain ⟨b, rfl, c⟩ := hat
        obtain ⟨c0, c1, c2, c3, c4, c5, c6, cb⟩ := c
        clear cb
        by_cases e : k' = k
        · have e1 : ((k' : Int) == (k : Int)) = true := by simp [e]
          have HE := Lib.hid e
          clear e
          go_wp2
          go_ret2
          refine ⟨?_, hx0⟩
          have : getO k (some t) = some v' := HG.out.symm.trans (by simp [Nd.get, HE.out])
          rw [this]; rfl
        · have e1 : ((k' : Int) == (k : Int)) = false := by simp; omega
          have HE := Lib.hid e
          clear e
          go_wp2
          go_ret2
          refine ⟨?_, hx0⟩
          have : getO k (some t) = none := HG.out.symm.trans (by simp [Nd.get, HE.out])
          rw [this]; rfl
      | br pr i z o =>
        obtain ⟨b, zp, op, rfl, c, hz, ho⟩ := hat
        obtain ⟨c0, c1, c2, c3, c4, c5, c6, cb⟩ := c
        obtain ⟨w0, w1, w2, _, _⟩ := hw'
        have HZ := Lib.hid (And.intro hz w1)
        have HO := Lib.hid (And.intro ho w2)
        have hka := and1 k i hk
        clear cb hz ho w1 w2
        have hi0 : ¬ ((i : Int) < 0) := by omega
        have hi1 : (0 : Int) ≤ i := by omega
        by_cases hb : k / 2 ^ i % 2 = 0
        · have hb0 : (bits BinOp.and IntKind.u64 ((k : Int) / 2 ^ i) 1 == 0) = true := by rw [hka, hb]; rfl
          have HB := Lib.hid hb
          clear hka hb
          go_wp2
          go_round
          case rel => exact ⟨zp, z, rfl, HZ.out.1, HZ.out.2, HG.out ▸ (by simp [Nd.get, HB.out])⟩
          case measure =>
            rw [leftN_eq HZ.out.1, leftN_eq HA.out]
            have := o.many_pos
            simp only [Nd.many]; omega
        · have hb1 : k / 2 ^ i % 2 = 1 := by omega
          have hb0 : (bits BinOp.and IntKind.u64 ((k : Int) / 2 ^ i) 1 == 0) = false := by rw [hka, hb1]; rfl
          have HB := Lib.hid hb
          clear hka hb hb1
          go_wp2
          go_round
          case rel => exact ⟨op, o, rfl, HO.out.1, HO.out.2, HG.out ▸ (by simp [Nd.get, HB.out])⟩
          case measure =>
            rw [leftN_eq HO.out.1, leftN_eq HA.out]
            have := z.many_pos
            simp only [Nd.many]; omega
end Go.Proofs.Ytcdjhoejnjbgkaa.St
