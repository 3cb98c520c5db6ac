/- The index in memory; the contracts of right and of. -/
import Derived.Test.YtgcplndmhlideaaGreatRIB
import Derived.Test.YtgcplndmhlideaaGreatRNB
import Derived.Test.YtgcplndmhlideaaGreatRMB
import Derived.Test.YtgcplndmhlideaaGreatIxp
namespace Go.Proofs.YtgcplndmhlideaaGreat
open Go.RowKit

/-- The map at a pointer is this list. -/
def ItAt (w : World) (p : Mp) (l : List (Pr It)) : Prop := ∃ t, It.AtO w p t ∧ Nd.oWF t ∧ Nd.oL t = l
def NmAt (w : World) (p : Option Addr) (l : List (Pr Nm)) : Prop := ∃ t, Nm.AtO w p t ∧ Nd.oWF t ∧ Nd.oL t = l
def MpAt (w : World) (p : Option Addr) (l : List (Pr Mp)) : Prop := ∃ t, Mp.AtO w p t ∧ Nd.oWF t ∧ Nd.oL t = l
/-- The map of versions. -/
structure Vers (w : World) (l : List (Pr Mp)) (L : List Sl) : Prop where
  at_ : ∀ e ∈ l, ItAt w e.v (itemsOf L e.k)
  ne : ∀ e ∈ l, itemsOf L e.k ≠ []
  all : ∀ s ∈ L, ∃ e ∈ l, (e.k : Int) = s.v
/-- The index at xb is x, of slices of u bytes. -/
def IxAt (w : World) (xb : Nat) (u : Int) (x : Ix) : Prop :=
  ∃ p q lv, w.heap[xb]? = some (.cells #[.int .i64 u, .pointer p, .pointer q, .int .i64 x.c, .int .i64 (sumS x.L)] 77 (0, 0)) ∧ MpAt w p lv ∧ NmAt w q (cntOf x.L) ∧ Vers w lv x.L
/-- Small, and in order. -/
structure Fit (u : Int) (x : Ix) : Prop where
  ok : IxOk u x
  u0 : 1 ≤ u
  u1 : u ≤ 1048576
  len : x.L.length ≤ 900
  c1 : x.c ≤ 900
/-- Nothing but one block has turned. -/
def Chx (xb : Nat) (w w' : World) : Prop := w.grownBy w' (some xb)
section
variable {w w' w'' : World} {xb : Nat} {p : Option Addr} {u : Int} {x : Ix}
theorem ItAt.ext {l : List (Pr It)} (h : ItAt w p l) (hx : Ext w w') : ItAt w' p l := by
  obtain ⟨t, a, b, c⟩ := h; exact ⟨t, It.AtO.ext hx a, b, c⟩
theorem NmAt.ext {l : List (Pr Nm)} (h : NmAt w p l) (hx : Ext w w') : NmAt w' p l := by
  obtain ⟨t, a, b, c⟩ := h; exact ⟨t, Nm.AtO.ext hx a, b, c⟩
theorem MpAt.ext {l : List (Pr Mp)} (h : MpAt w p l) (hx : Ext w w') : MpAt w' p l := by
  obtain ⟨t, a, b, c⟩ := h; exact ⟨t, Mp.AtO.ext hx a, b, c⟩
theorem ItAt.up {l : List (Pr It)} (h : ItAt w p l) : Up l := by
  obtain ⟨t, _, b, rfl⟩ := h
  cases t with
  | none => exact List.Pairwise.nil
  | some t => exact Nd.up b
theorem MpAt.up {l : List (Pr Mp)} (h : MpAt w p l) : Up l := by
  obtain ⟨t, _, b, rfl⟩ := h
  cases t with
  | none => exact List.Pairwise.nil
  | some t => exact Nd.up b
theorem Vers.ext {l : List (Pr Mp)} {L : List Sl} (h : Vers w l L) (hx : Ext w w') : Vers w' l L := ⟨fun e he => (h.at_ e he).ext hx, h.ne, h.all⟩
theorem IxAt.ext (h : IxAt w xb u x) (hx : Ext w w') : IxAt w' xb u x := by
  obtain ⟨p, q, lv, a, b, c, d⟩ := h
  exact ⟨p, q, lv, hx.block a, b.ext hx, c.ext hx, d.ext hx⟩
/-- A block that holds no node of any map. -/
def Apt (xb : Nat) (w : World) : Prop := ∃ cs t, w.heap[xb]? = some (.cells cs t (0, 0)) ∧ t ≠ 123 ∧ t ≠ 148 ∧ t ≠ 135
theorem Apt.of {cs : Array Value} {t : TypeId} (h : w.heap[xb]? = some (.cells cs t (0, 0))) (ht : t ≠ 123 ∧ t ≠ 148 ∧ t ≠ 135) : Apt xb w := ⟨_, _, h, ht⟩
theorem Apt.ix {cs : Array Value} (h : w.heap[xb]? = some (.cells cs 77 (0, 0))) : Apt xb w := Apt.of h (by decide)
theorem Apt.map {cs : Array Value} (h : w.heap[xb]? = some (.cells cs 81 (0, 0))) : Apt xb w := Apt.of h (by decide)
theorem ItAt.set {l : List (Pr It)} (h : ItAt w p l) (hb : Apt xb w) (j : Nat) (v : Value) : ItAt (w.setCell ⟨xb, j, none⟩ v) p l := by
  obtain ⟨t, a, b, c⟩ := h
  obtain ⟨cs, ty, hb, h1, h2, h3⟩ := hb
  exact ⟨t, It.AtO.keep (It.nodes_set hb h1 j v) a, b, c⟩
theorem NmAt.set {l : List (Pr Nm)} (h : NmAt w p l) (hb : Apt xb w) (j : Nat) (v : Value) : NmAt (w.setCell ⟨xb, j, none⟩ v) p l := by
  obtain ⟨t, a, b, c⟩ := h
  obtain ⟨cs, ty, hb, h1, h2, h3⟩ := hb
  exact ⟨t, Nm.AtO.keep (Nm.nodes_set hb h2 j v) a, b, c⟩
theorem MpAt.set {l : List (Pr Mp)} (h : MpAt w p l) (hb : Apt xb w) (j : Nat) (v : Value) : MpAt (w.setCell ⟨xb, j, none⟩ v) p l := by
  obtain ⟨t, a, b, c⟩ := h
  obtain ⟨cs, ty, hb, h1, h2, h3⟩ := hb
  exact ⟨t, Mp.AtO.keep (Mp.nodes_set hb h3 j v) a, b, c⟩
theorem Vers.set {l : List (Pr Mp)} {L : List Sl} (h : Vers w l L) (hb : Apt xb w) (j : Nat) (v : Value) : Vers (w.setCell ⟨xb, j, none⟩ v) l L := ⟨fun e he => (h.at_ e he).set hb j v, h.ne, h.all⟩
theorem Apt.ext (h : Apt xb w) (hx : Ext w w') : Apt xb w' := by obtain ⟨cs, t, h, k⟩ := h; exact ⟨cs, t, hx.block h, k⟩
theorem Apt.set (h : Apt xb w) (j : Nat) (v : Value) : Apt xb (w.setCell ⟨xb, j, none⟩ v) := by
  obtain ⟨cs, t, h, k⟩ := h
  exact ⟨_, t, heap_setCell_same w xb j cs _ v h, k⟩
theorem IxAt.apt (h : IxAt w xb u x) : Apt xb w := by obtain ⟨p, q, lv, a, _⟩ := h; exact Apt.ix a
theorem Chx.refl (xb : Nat) (w : World) : Chx xb w w := ⟨rfl, rfl, rfl, Nat.le_refl _, fun _ _ _ => rfl⟩
theorem Chx.of_ext (h : Ext w w') : Chx xb w w' := ⟨h.os, h.tape, h.output, h.size, fun k hk _ => Below.block h k hk⟩
theorem Chx.trans (h : Chx xb w w') (k : Chx xb w' w'') : Chx xb w w'' := ⟨k.os.trans h.os, k.tape.trans h.tape, k.output.trans h.output, Nat.le_trans h.size k.size, fun i hi hne => (k.block i (Nat.lt_of_lt_of_le hi h.size) hne).trans (h.block i hi hne)⟩
theorem Chx.set (h : Chx xb w w') (j : Nat) (v : Value) : Chx xb w (w'.setCell ⟨xb, j, none⟩ v) := ⟨h.os, h.tape, h.output, by simpa [World.setCell] using h.size, fun i hi hne => (Below.heap_setCell w' ⟨xb, j, none⟩ v i (fun e => hne (by rw [e]))).trans (h.block i hi hne)⟩
theorem Chx.setNew (h : Chx xb w w') {mb : Nat} (hm : w.heap.size ≤ mb) (j : Nat) (v : Value) : Chx xb w (w'.setCell ⟨mb, j, none⟩ v) := ⟨h.os, h.tape, h.output, by simpa [World.setCell] using h.size, fun i hi hne => (Below.heap_setCell w' ⟨mb, j, none⟩ v i (fun e => by have : i = mb := e; omega)).trans (h.block i hi hne)⟩
theorem Chx.drew (h : Chx xb w w') : Chx xb w w'.drew := h.trans (Chx.of_ext (Ext.refl w').drew)
theorem Chx.ext (h : Chx xb w w') (hb : w.heap.size ≤ xb) : Ext w w' := ⟨h.os, h.tape, h.output, h.size, fun k hk => h.block k hk (by simp; omega)⟩
end

set_option maxRecDepth 100000 in
theorem rightN_calls (n : Int) (w : World) : Calls Tryz.prog 34 #[.int .i64 n] w fun e w' => e = .returned (.bool (decide (0 ≤ n) && decide (n ≤ 1099511627776))) ∧ Ext w w' := by
  cases e1 : decide (0 ≤ n)
  · go_enter Tryz.func34, Tryz.ntmps34
    go_wp2
    go_ret
    exact ⟨rfl, Ext.refl w⟩
  · go_enter Tryz.func34, Tryz.ntmps34
    go_wp2
    go_ret
    exact ⟨rfl, Ext.refl w⟩

/-- What a version's list is, as the map of versions has it. -/
theorem vers_get {w : World} {p : Option Addr} {lv : List (Pr Mp)} {u : Int} {x : Ix} (hm : MpAt w p lv) (h : Vers w lv x.L) (hf : Fit u x) (k : Nat) :
    (∀ q, getL k lv = some q → ItAt w q (itemsOf x.L k)) ∧ (getL k lv = none → itemsOf x.L k = []) := by
  refine ⟨fun q hq => h.at_ _ ((getL_some hm.up).1 hq), fun hn => (items_nil hf.ok.dis hf.ok.n0 k).2 fun s hs hv => ?_⟩
  obtain ⟨e, he, hk⟩ := h.all s hs
  exact getL_none'.1 hn e he (by omega)
theorem items_out {u : Int} {x : Ix} (hf : Fit u x) {v : Int} (h : ¬ (0 ≤ v ∧ v ≤ 1099511627776)) : itemsOf x.L v = [] :=
  (items_nil hf.ok.dis hf.ok.n0 v).2 fun s hs hv => by
    obtain ⟨a, b, _⟩ := hf.ok.ok s hs
    exact h ⟨by omega, by omega⟩
def OfPost (w : World) (l : List (Pr It)) (e : Ending) (w' : World) : Prop := ∃ p, e = .returned (.agg #[.pointer p]) ∧ ItAt w' p l ∧ Ext w w'
theorem it_nil (w : World) : ItAt w none [] := ⟨none, rfl, trivial, rfl⟩
theorem getO_getL {V : Type} (t : Option (Nd V)) (h : Nd.oWF t) (k : Nat) : (match t with | none => none | some t => t.get k) = getL k (Nd.oL t) := by
  cases t with
  | none => rfl
  | some t => exact get_ok h

set_option maxHeartbeats 1000000 in
set_option maxRecDepth 100000 in
theorem ofx_calls (xb : Nat) (u : Int) (x : Ix) (v : Int) (w : World) (h : IxAt w xb u x) (hf : Fit u x) :
    Calls Tryz.prog 30 #[.pointer (some ⟨xb, 0, none⟩), .int .i64 v] w (OfPost w (itemsOf x.L v)) := by
  have hx0 : Ext w (w.alloc (.cells #[.pointer none] 81)) := (Ext.refl w).alloc _
  have hb0 := heap_alloc_new w (.cells #[.pointer none] 81)
  have e0 : (w.alloc (.cells #[.pointer none] 81)).cell? ⟨w.heap.size, 0, none⟩ = some (.pointer none) := by rw [cell_of_row _ _ 0 _ _ _ hb0]; rfl
  have f0 : (w.alloc (.cells #[.pointer none] 81)).frozen? ⟨w.heap.size, 0, none⟩ = false := frozen_blk hb0 0
  have h0 := h.ext hx0
  have H0 := Lib.hid h0
  have HB0 := Lib.hid hb0
  clear h h0 hb0
  go_enter Tryz.func30, Tryz.ntmps30
  go_wp2_with fail
  generalize w.alloc (.cells #[.pointer none] 81) = W at *
  refine (rightN_calls v W).mono ?_
  rintro e w1 ⟨rfl, hx1⟩
  replace e0 := hx1.cell e0
  replace f0 : w1.frozen? ⟨w.heap.size, 0, none⟩ = false := frozen_blk (hx1.block HB0.out) 0
  have hb1 := Lib.hid (hx1.block HB0.out)
  have h1 := Lib.hid (H0.out.ext hx1)
  have HX := hx0.trans hx1
  clear H0 HB0 hx0 hx1
  cases eR : (decide (0 ≤ v) && decide (v ≤ 1099511627776))
  · have hi := items_out hf (v := v) (by simpa using eR)
    have HI := Lib.hid hi
    clear hi
    go_wp2
    have k0 := set1_cells hb1.out (.pointer none)
    exact bodyPost_ret (v := .agg #[.pointer none]) (by simp [results, Tryz.results30, go_sem, k0]) rfl ⟨none, rfl, by rw [HI.out]; exact it_nil _, HX.setCell (p := ⟨w.heap.size, 0, none⟩) (Nat.le_refl _) _⟩
  · obtain ⟨k, rfl⟩ : ∃ k : Nat, v = k := ⟨v.toNat, by simp at eR; omega⟩
    have hk : k ≤ 1099511627776 := by simp at eR; omega
    obtain ⟨p, q, lv, hb, hm, _, hv⟩ := h1.out
    have hgl := vers_get hm hv hf k
    obtain ⟨t, hat, hwf, hl⟩ := hm
    have hgo : Mp.getO k t = getL k lv := by rw [← hl, ← getO_getL t hwf k]; cases t <;> rfl
    rw [← hgo] at hgl
    have c1 : w1.cell? ⟨xb, 1, none⟩ = some (.pointer p) := by rw [cell_of_row _ _ 1 _ _ _ hb]; rfl
    have hw : IntKind.u64.wrap (k : Int) = (k : Int) := IntWalk.u64_in _ (by omega)
    have HC := Lib.hid (Mp.mget_calls p t k w1 hat hwf (by omega))
    have HF := Lib.hid hf
    generalize itemsOf x.L k = l at *
    generalize Mp.getO k t = R at *
    have HGL := Lib.hid hgl
    clear hgl hat hwf hl hgo hb hv h1 hf
    go_wp2_with fail
    refine HC.out.mono ?_
    rintro e w2 ⟨rfl, hx2⟩
    replace e0 := hx2.cell e0
    have hb2 := hx2.block hb1.out
    have hb3 : (w2.alloc (.cells #[.pointer none] 81)).heap[w.heap.size]? = some (.cells #[.pointer none] 81 (0, 0)) := ((Ext.refl w2).alloc _).block hb2
    replace f0 : w2.frozen? ⟨w.heap.size, 0, none⟩ = false := frozen_blk hb2 0
    replace HX := HX.trans hx2
    have HX12 := Lib.hid hx2
    have HB2 := Lib.hid hb2
    clear hb1 hx2 c1 hb2 hb3
    cases R with
    | none =>
      have HI := Lib.hid (HGL.out.2 rfl)
      have hm : Mp.getV none = .tuple #[.agg #[.pointer none], .bool false] := rfl
      have hx3 : Ext w2 (w2.alloc (.cells #[.pointer none] 81)) := (Ext.refl w2).alloc _
      have hb3 := Lib.hid (hx3.block HB2.out)
      have e3 := hx3.cell e0
      have f3 : (w2.alloc (.cells #[.pointer none] 81)).frozen? ⟨w.heap.size, 0, none⟩ = false := frozen_blk hb3.out 0
      replace HX := HX.trans hx3
      rw [hm]
      clear hm hx3
      go_wp2
      have k0 := set1_cells hb3.out (.pointer none)
      exact bodyPost_ret (v := .agg #[.pointer none]) (by simp [results, Tryz.results30, go_sem, k0]) rfl ⟨_, rfl, by rw [HI.out]; exact it_nil _, HX.setCell (p := ⟨w.heap.size, 0, none⟩) (Nat.le_refl _) _⟩
    | some q =>
      have HI := Lib.hid (HGL.out.1 q rfl)
      have HX1 := Lib.hid (HX12.out.alloc (.cells #[.pointer q] 81))
      have hm : Mp.getV (some q) = .tuple #[.agg #[.pointer q], .bool true] := rfl
      have hx3 : Ext w2 (w2.alloc (.cells #[.pointer q] 81)) := (Ext.refl w2).alloc _
      have hb3 := Lib.hid (hx3.block HB2.out)
      have e3 := hx3.cell e0
      have f3 : (w2.alloc (.cells #[.pointer q] 81)).frozen? ⟨w.heap.size, 0, none⟩ = false := frozen_blk hb3.out 0
      replace HX := HX.trans hx3
      rw [hm]
      clear hm hx3
      go_wp2
      have k0 := set1_cells hb3.out (.pointer q)
      refine bodyPost_ret (v := .agg #[.pointer q]) (by simp [results, Tryz.results30, go_sem, k0]) rfl ⟨_, rfl, ?_, HX.setCell (p := ⟨w.heap.size, 0, none⟩) (Nat.le_refl _) _⟩
      obtain ⟨t', ha, hb, hc⟩ := HI.out
      have ha2 := It.AtO.ext (HX1.out) ha
      exact ⟨t', It.AtO.keep (It.nodes_set hb3.out (by decide) 0 _) ha2, hb, hc⟩
end Go.Proofs.YtgcplndmhlideaaGreat
