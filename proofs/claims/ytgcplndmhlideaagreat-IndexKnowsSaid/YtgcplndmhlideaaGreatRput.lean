/- The contract of the document's Put. -/
import Derived.Test.YtgcplndmhlideaaGreatRsl
namespace Go.Proofs.YtgcplndmhlideaaGreat
open Go.RowKit

theorem set3_cells {w : World} {b : Nat} {x y z : Value} {ty : TypeId} (h : w.heap[b]? = some (.cells #[x, y, z] ty (0, 0))) (p q r : Value) :
    (((w.setCell ⟨b, 0, none⟩ p).setCell ⟨b, 1, none⟩ q).setCell ⟨b, 2, none⟩ r).heap[b]? = some (.cells #[p, q, r] ty (0, 0)) :=
  heap_setCell_same _ b 2 _ ty r (heap_setCell_same _ b 1 _ ty q (heap_setCell_same _ b 0 _ ty p h))
theorem Ext.set3 {a w : World} {b : Nat} (h : Ext a w) (hb : a.heap.size ≤ b) (p q r : Value) : Ext a (((w.setCell ⟨b, 0, none⟩ p).setCell ⟨b, 1, none⟩ q).setCell ⟨b, 2, none⟩ r) :=
  ((h.setCell (p := ⟨b, 0, none⟩) hb p).setCell (p := ⟨b, 1, none⟩) hb q).setCell (p := ⟨b, 2, none⟩) hb r
theorem RowS.set {w : World} {N : Nat} {v : Value} {L : List Sl} (h : RowS w N v L) {b : Nat} {cs : Array Value} {t : TypeId} (hb : w.heap[b]? = some (.cells cs t (0, 0))) (ht : t ≠ 84) (j : Nat) (u : Value) : RowS (w.setCell ⟨b, j, none⟩ u) N v L := by
  refine ⟨h.1, ?_⟩
  rcases h.2 with h2 | ⟨g, cap, cur, hv, hg, hh, r⟩
  · exact .inl h2
  · refine .inr ⟨g, cap, cur, hv, hg, (Below.heap_setCell w ⟨b, j, none⟩ u g (fun e => ?_)).trans hh, r⟩
    have e' : g = b := e
    subst e'
    rw [hb] at hh
    injection hh with hh
    injection hh with _ hh
    exact ht hh
theorem RowS.set3 {w : World} {N : Nat} {v : Value} {L : List Sl} (h : RowS w N v L) {b : Nat} {x y z : Value} {t : TypeId} (hb : w.heap[b]? = some (.cells #[x, y, z] t (0, 0))) (ht : t ≠ 84) (p q r : Value) :
    RowS (((w.setCell ⟨b, 0, none⟩ p).setCell ⟨b, 1, none⟩ q).setCell ⟨b, 2, none⟩ r) N v L :=
  ((h.set hb ht 0 p).set (heap_setCell_same _ b 0 _ t p hb) ht 1 q).set (heap_setCell_same _ b 1 _ t q (heap_setCell_same _ b 0 _ t p hb)) ht 2 r
/-- An index of the document's, and what is told beside it. -/
def RPost (w : World) (N : Nat) (u c : Int) (L : List Sl) (r : Value) (e : Ending) (w' : World) : Prop := ∃ v, e = .returned (.tuple #[.agg #[.int .i64 u, .int .i64 c, v], r]) ∧ RowS w' N v L ∧ Ext w w'

set_option maxHeartbeats 1000000 in
set_option maxRecDepth 100000 in
theorem rput_no (u c : Int) (A : Option Addr) (cp N : Nat) (L : List Sl) (v n b : Int) (w : World) (h : RowS w N (.slice A L.length cp) L) (hc : ¬ ((0 ≤ v ∧ v ≤ 1099511627776) ∧ (0 ≤ n ∧ n ≤ 1099511627776) ∧ 1 ≤ b ∧ b ≤ u)) :
    Calls Tryz.prog 22 #[.agg #[.int .i64 u, .int .i64 c, .slice A L.length cp], .agg #[.int .i64 v, .int .i64 n], .int .i64 b] w (RPost w N u c L (.int .i64 1)) := by
  have hx0 : Ext w (((w.alloc (.cells #[.int .i64 u, .int .i64 c, .slice A L.length cp] 27)).alloc (.cells #[.int .i64 v, .int .i64 n] 58)).alloc (.cells #[.int .i64 0, .int .i64 0, .slice none 0 0] 27)) := (((Ext.refl w).alloc _).alloc _).alloc _
  have bm : (((w.alloc (.cells #[.int .i64 u, .int .i64 c, .slice A L.length cp] 27)).alloc (.cells #[.int .i64 v, .int .i64 n] 58)).alloc (.cells #[.int .i64 0, .int .i64 0, .slice none 0 0] 27)).heap[w.heap.size]? = some (.cells #[.int .i64 u, .int .i64 c, .slice A L.length cp] 27 (0, 0)) := (((Ext.refl _).alloc _).alloc _).block (heap_alloc_new w _)
  have bn : (((w.alloc (.cells #[.int .i64 u, .int .i64 c, .slice A L.length cp] 27)).alloc (.cells #[.int .i64 v, .int .i64 n] 58)).alloc (.cells #[.int .i64 0, .int .i64 0, .slice none 0 0] 27)).heap[w.heap.size + 1]? = some (.cells #[.int .i64 v, .int .i64 n] 58 (0, 0)) := ((Ext.refl _).alloc _).block (heap_new1 w _ _)
  have bz : (((w.alloc (.cells #[.int .i64 u, .int .i64 c, .slice A L.length cp] 27)).alloc (.cells #[.int .i64 v, .int .i64 n] 58)).alloc (.cells #[.int .i64 0, .int .i64 0, .slice none 0 0] 27)).heap[w.heap.size + 1 + 1]? = some (.cells #[.int .i64 0, .int .i64 0, .slice none 0 0] 27 (0, 0)) := by
    have := heap_new1 (w.alloc (.cells #[.int .i64 u, .int .i64 c, .slice A L.length cp] 27)) (.cells #[.int .i64 v, .int .i64 n] 58) (.cells #[.int .i64 0, .int .i64 0, .slice none 0 0] 27)
    simpa using this
  have hr := h.ext hx0
  have HR := Lib.hid hr
  have HBM := Lib.hid bm
  have HBN := Lib.hid bn
  have HBZ := Lib.hid bz
  have m0 := cell_blk bm 0 rfl
  have m1 := cell_blk bm 1 rfl
  have m2 := cell_blk bm 2 rfl
  have n0 := cell_blk bn 0 rfl
  have n1 := cell_blk bn 1 rfl
  have z0 := cell_blk bz 0 rfl
  have z1 := cell_blk bz 1 rfl
  have z2 := cell_blk bz 2 rfl
  have y0 := frozen_blk bz 0
  have y1 := frozen_blk bz 1
  have y2 := frozen_blk bz 2
  clear h hr bm bn bz
  go_enter Tryz.func22, Tryz.ntmps22
  go_upto_region 1 with (fail)
  generalize (((w.alloc (.cells #[.int .i64 u, .int .i64 c, .slice A L.length cp] 27)).alloc (.cells #[.int .i64 v, .int .i64 n] 58)).alloc (.cells #[.int .i64 0, .int .i64 0, .slice none 0 0] 27)) = W at *
  by_cases c1 : v < 0
  · clear hc
    go_wp2
    have hf3 := set3_cells HBZ.out (.int .i64 u) (.int .i64 c) (.slice A L.length cp)
    have k0 := cell_blk hf3 0 rfl
    have k1 := cell_blk hf3 1 rfl
    have k2 := cell_blk hf3 2 rfl
    refine bodyPost_ret (v := .tuple #[.agg #[.int .i64 u, .int .i64 c, .slice A L.length cp], .int .i64 1]) (by simp [results, Tryz.results22, go_sem, k0, k1, k2]) rfl ⟨_, rfl, ?_, hx0.set3 (by show w.heap.size ≤ w.heap.size + 1 + 1; omega) _ _ _⟩
    exact HR.out.set3 HBZ.out (by decide) _ _ _
  by_cases c2 : 1099511627776 < v
  · clear hc
    go_wp2
    have hf3 := set3_cells HBZ.out (.int .i64 u) (.int .i64 c) (.slice A L.length cp)
    have k0 := cell_blk hf3 0 rfl
    have k1 := cell_blk hf3 1 rfl
    have k2 := cell_blk hf3 2 rfl
    refine bodyPost_ret (v := .tuple #[.agg #[.int .i64 u, .int .i64 c, .slice A L.length cp], .int .i64 1]) (by simp [results, Tryz.results22, go_sem, k0, k1, k2]) rfl ⟨_, rfl, ?_, hx0.set3 (by show w.heap.size ≤ w.heap.size + 1 + 1; omega) _ _ _⟩
    exact HR.out.set3 HBZ.out (by decide) _ _ _
  by_cases c3 : n < 0
  · clear hc
    go_wp2
    have hf3 := set3_cells HBZ.out (.int .i64 u) (.int .i64 c) (.slice A L.length cp)
    have k0 := cell_blk hf3 0 rfl
    have k1 := cell_blk hf3 1 rfl
    have k2 := cell_blk hf3 2 rfl
    refine bodyPost_ret (v := .tuple #[.agg #[.int .i64 u, .int .i64 c, .slice A L.length cp], .int .i64 1]) (by simp [results, Tryz.results22, go_sem, k0, k1, k2]) rfl ⟨_, rfl, ?_, hx0.set3 (by show w.heap.size ≤ w.heap.size + 1 + 1; omega) _ _ _⟩
    exact HR.out.set3 HBZ.out (by decide) _ _ _
  by_cases c4 : 1099511627776 < n
  · clear hc
    go_wp2
    have hf3 := set3_cells HBZ.out (.int .i64 u) (.int .i64 c) (.slice A L.length cp)
    have k0 := cell_blk hf3 0 rfl
    have k1 := cell_blk hf3 1 rfl
    have k2 := cell_blk hf3 2 rfl
    refine bodyPost_ret (v := .tuple #[.agg #[.int .i64 u, .int .i64 c, .slice A L.length cp], .int .i64 1]) (by simp [results, Tryz.results22, go_sem, k0, k1, k2]) rfl ⟨_, rfl, ?_, hx0.set3 (by show w.heap.size ≤ w.heap.size + 1 + 1; omega) _ _ _⟩
    exact HR.out.set3 HBZ.out (by decide) _ _ _
  by_cases c5 : b < 1
  · clear hc
    go_wp2
    have hf3 := set3_cells HBZ.out (.int .i64 u) (.int .i64 c) (.slice A L.length cp)
    have k0 := cell_blk hf3 0 rfl
    have k1 := cell_blk hf3 1 rfl
    have k2 := cell_blk hf3 2 rfl
    refine bodyPost_ret (v := .tuple #[.agg #[.int .i64 u, .int .i64 c, .slice A L.length cp], .int .i64 1]) (by simp [results, Tryz.results22, go_sem, k0, k1, k2]) rfl ⟨_, rfl, ?_, hx0.set3 (by show w.heap.size ≤ w.heap.size + 1 + 1; omega) _ _ _⟩
    exact HR.out.set3 HBZ.out (by decide) _ _ _
  by_cases c6 : u < b
  · clear hc
    go_wp2
    have hf3 := set3_cells HBZ.out (.int .i64 u) (.int .i64 c) (.slice A L.length cp)
    have k0 := cell_blk hf3 0 rfl
    have k1 := cell_blk hf3 1 rfl
    have k2 := cell_blk hf3 2 rfl
    refine bodyPost_ret (v := .tuple #[.agg #[.int .i64 u, .int .i64 c, .slice A L.length cp], .int .i64 1]) (by simp [results, Tryz.results22, go_sem, k0, k1, k2]) rfl ⟨_, rfl, ?_, hx0.set3 (by show w.heap.size ≤ w.heap.size + 1 + 1; omega) _ _ _⟩
    exact HR.out.set3 HBZ.out (by decide) _ _ _
  omega

set_option maxHeartbeats 1000000 in
set_option maxRecDepth 100000 in
theorem rput_twice (u c : Int) (A : Option Addr) (cp N : Nat) (L : List Sl) (v n b : Int) (s : Sl) (w : World) (h : RowS w N (.slice A L.length cp) L) (hl : L.length ≤ 1000) (hc : (0 ≤ v ∧ v ≤ 1099511627776) ∧ (0 ≤ n ∧ n ≤ 1099511627776) ∧ 1 ≤ b ∧ b ≤ u) (hg : getS L v n = some s) :
    Calls Tryz.prog 22 #[.agg #[.int .i64 u, .int .i64 c, .slice A L.length cp], .agg #[.int .i64 v, .int .i64 n], .int .i64 b] w (RPost w N u c L (.int .i64 7)) := by
  obtain ⟨sv, sn, sb, sc⟩ := s
  have hx0 : Ext w (((w.alloc (.cells #[.int .i64 u, .int .i64 c, .slice A L.length cp] 27)).alloc (.cells #[.int .i64 v, .int .i64 n] 58)).alloc (.cells #[.int .i64 0, .int .i64 0, .slice none 0 0] 27)) := (((Ext.refl w).alloc _).alloc _).alloc _
  have bm : (((w.alloc (.cells #[.int .i64 u, .int .i64 c, .slice A L.length cp] 27)).alloc (.cells #[.int .i64 v, .int .i64 n] 58)).alloc (.cells #[.int .i64 0, .int .i64 0, .slice none 0 0] 27)).heap[w.heap.size]? = some (.cells #[.int .i64 u, .int .i64 c, .slice A L.length cp] 27 (0, 0)) := (((Ext.refl _).alloc _).alloc _).block (heap_alloc_new w _)
  have bn : (((w.alloc (.cells #[.int .i64 u, .int .i64 c, .slice A L.length cp] 27)).alloc (.cells #[.int .i64 v, .int .i64 n] 58)).alloc (.cells #[.int .i64 0, .int .i64 0, .slice none 0 0] 27)).heap[w.heap.size + 1]? = some (.cells #[.int .i64 v, .int .i64 n] 58 (0, 0)) := ((Ext.refl _).alloc _).block (heap_new1 w _ _)
  have bz : (((w.alloc (.cells #[.int .i64 u, .int .i64 c, .slice A L.length cp] 27)).alloc (.cells #[.int .i64 v, .int .i64 n] 58)).alloc (.cells #[.int .i64 0, .int .i64 0, .slice none 0 0] 27)).heap[w.heap.size + 1 + 1]? = some (.cells #[.int .i64 0, .int .i64 0, .slice none 0 0] 27 (0, 0)) := by
    have := heap_new1 (w.alloc (.cells #[.int .i64 u, .int .i64 c, .slice A L.length cp] 27)) (.cells #[.int .i64 v, .int .i64 n] 58) (.cells #[.int .i64 0, .int .i64 0, .slice none 0 0] 27)
    simpa using this
  have hr := h.ext hx0
  have HR := Lib.hid hr
  have HBM := Lib.hid bm
  have HBN := Lib.hid bn
  have HBZ := Lib.hid bz
  have m0 := cell_blk bm 0 rfl
  have m1 := cell_blk bm 1 rfl
  have m2 := cell_blk bm 2 rfl
  have n0 := cell_blk bn 0 rfl
  have n1 := cell_blk bn 1 rfl
  have z0 := cell_blk bz 0 rfl
  have z1 := cell_blk bz 1 rfl
  have z2 := cell_blk bz 2 rfl
  have y0 := frozen_blk bz 0
  have y1 := frozen_blk bz 1
  have y2 := frozen_blk bz 2
  clear h hr bm bn bz
  go_enter Tryz.func22, Tryz.ntmps22
  go_upto_region 1 with (fail)
  generalize (((w.alloc (.cells #[.int .i64 u, .int .i64 c, .slice A L.length cp] 27)).alloc (.cells #[.int .i64 v, .int .i64 n] 58)).alloc (.cells #[.int .i64 0, .int .i64 0, .slice none 0 0] 27)) = W at *
  have HG := Lib.hid (refget_calls u c A cp N L v n W HR.out hl)
  rw [hg] at HG
  have c1 : ¬ v < 0 := by omega
  have c2 : ¬ 1099511627776 < v := by omega
  have c3 : ¬ n < 0 := by omega
  have c4 : ¬ 1099511627776 < n := by omega
  have c5 : ¬ b < 1 := by omega
  have c6 : ¬ u < b := by omega
  clear hc hg
  go_wp2_with fail
  refine HG.out.mono ?_
  rintro e w1 ⟨rfl, hx1⟩
  have hx2 := hx1.alloc (.cells #[.int .i64 sv, .int .i64 sn, .int .i64 sb, .int .i64 sc] 84)
  have bm := hx2.block HBM.out
  have bz := hx2.block HBZ.out
  replace HR := Lib.hid (HR.out.ext hx2)
  have m0 := cell_blk bm 0 rfl
  have m1 := cell_blk bm 1 rfl
  have m2 := cell_blk bm 2 rfl
  have z0 := cell_blk bz 0 rfl
  have z1 := cell_blk bz 1 rfl
  have z2 := cell_blk bz 2 rfl
  have y0 := frozen_blk bz 0
  have y1 := frozen_blk bz 1
  have y2 := frozen_blk bz 2
  have HX := hx0.trans hx2
  replace HBZ := Lib.hid bz
  have hgv : gotS (some ⟨sv, sn, sb, sc⟩) = .tuple #[.agg #[.int .i64 sv, .int .i64 sn, .int .i64 sb, .int .i64 sc], .bool true] := rfl
  rw [hgv]
  clear bm bz hx1 hx2 hx0 HG HBM HBN hgv
  go_wp2
  have hf3 := set3_cells HBZ.out (.int .i64 u) (.int .i64 c) (.slice A L.length cp)
  have k0 := cell_blk hf3 0 rfl
  have k1 := cell_blk hf3 1 rfl
  have k2 := cell_blk hf3 2 rfl
  refine bodyPost_ret (v := .tuple #[.agg #[.int .i64 u, .int .i64 c, .slice A L.length cp], .int .i64 7]) (by simp [results, Tryz.results22, go_sem, k0, k1, k2]) rfl ⟨_, rfl, ?_, HX.set3 (by show w.heap.size ≤ w.heap.size + 1 + 1; omega) _ _ _⟩
  exact HR.out.set3 HBZ.out (by decide) _ _ _

/-- Behind the two appends of the document's Put. -/
def CutR (W7 : World) (mb N : Nat) (L' : List Sl) (wx : World) : Prop := ∃ v w9, wx = w9.setCell ⟨mb, 2, none⟩ v ∧ Ext W7 w9 ∧ RowS w9 N v L'
theorem own_empty {w : World} {g N : Nat} {t : TypeId} (h : w.heap[g]? = some (.cells #[] t (0, 0))) (hN : N ≤ g) (size : Nat) : w.ownsRow N t size (.slice (some ⟨g, 0, none⟩) 0 0) 0 [] :=
  ⟨by simp, .inr ⟨g, 0, #[], rfl, hN, h, Nat.le_refl _, Nat.zero_le _, by simp, by simp⟩⟩
theorem reads_one {w : World} {g : Nat} {t : TypeId} {cs : Array Value} {size : Nat} (h : w.heap[g]? = some (.cells cs t (0, 0))) (hs : cs.size = size) : Reads w w.heap.size size (some ⟨g, 0, none⟩) 1 cs.toList := by
  refine ⟨by simp [hs], fun _ => ⟨_, rfl, (Array.getElem?_eq_some_iff.1 h).1, fun j u hu => ?_⟩⟩
  have : (⟨g, 0, none⟩ : Addr).add j = ⟨g, j, none⟩ := by cases j <;> simp [Addr.add]
  rw [this, cell_of_row _ _ j _ _ _ h]
  simpa using hu
theorem grown_ext {a w w' : World} {row : Option Nat} (h : Ext a w) (hg : w.grownBy w' row) (hr : ∀ g, row = some g → a.heap.size ≤ g) : Ext a w' :=
  ⟨hg.os.trans h.os, hg.tape.trans h.tape, hg.output.trans h.output, Nat.le_trans h.size hg.size, fun k hk => (hg.block k (Nat.lt_of_lt_of_le hk h.size) (fun e => by have := hr k e.symm; omega)).trans (Below.block h k hk)⟩
theorem grown_block {w w' : World} {row : Option Nat} (hg : w.grownBy w' row) {g : Nat} {o : Obj} (h : w.heap[g]? = some o) (hne : row ≠ some g) : w'.heap[g]? = some o := (hg.block g (Array.getElem?_eq_some_iff.1 h).1 (fun e => hne e.symm)).trans h

set_option maxHeartbeats 4000000 in
set_option maxRecDepth 100000 in
theorem rput_new (u c : Int) (A : Option Addr) (cp N : Nat) (L : List Sl) (v n b : Int) (w : World) (h : RowS w N (.slice A L.length cp) L) (hN : N ≤ w.heap.size) (hl : L.length ≤ 1000) (hc0 : 0 ≤ c) (hc1 : c ≤ 1000) (hc : (0 ≤ v ∧ v ≤ 1099511627776) ∧ (0 ≤ n ∧ n ≤ 1099511627776) ∧ 1 ≤ b ∧ b ≤ u) (hg : getS L v n = none) :
    Calls Tryz.prog 22 #[.agg #[.int .i64 u, .int .i64 c, .slice A L.length cp], .agg #[.int .i64 v, .int .i64 n], .int .i64 b] w (RPost w N u (c + 1) (L ++ [⟨v, n, b, c + 1⟩]) (.int .i64 0)) := by
  obtain ⟨i0, hi, hz0, hz1, hz2⟩ := info_parts infoSl
  have hx0 : Ext w (((w.alloc (.cells #[.int .i64 u, .int .i64 c, .slice A L.length cp] 27)).alloc (.cells #[.int .i64 v, .int .i64 n] 58)).alloc (.cells #[.int .i64 0, .int .i64 0, .slice none 0 0] 27)) := (((Ext.refl w).alloc _).alloc _).alloc _
  have bm : (((w.alloc (.cells #[.int .i64 u, .int .i64 c, .slice A L.length cp] 27)).alloc (.cells #[.int .i64 v, .int .i64 n] 58)).alloc (.cells #[.int .i64 0, .int .i64 0, .slice none 0 0] 27)).heap[w.heap.size]? = some (.cells #[.int .i64 u, .int .i64 c, .slice A L.length cp] 27 (0, 0)) := (((Ext.refl _).alloc _).alloc _).block (heap_alloc_new w _)
  have bn : (((w.alloc (.cells #[.int .i64 u, .int .i64 c, .slice A L.length cp] 27)).alloc (.cells #[.int .i64 v, .int .i64 n] 58)).alloc (.cells #[.int .i64 0, .int .i64 0, .slice none 0 0] 27)).heap[w.heap.size + 1]? = some (.cells #[.int .i64 v, .int .i64 n] 58 (0, 0)) := ((Ext.refl _).alloc _).block (heap_new1 w _ _)
  have bz : (((w.alloc (.cells #[.int .i64 u, .int .i64 c, .slice A L.length cp] 27)).alloc (.cells #[.int .i64 v, .int .i64 n] 58)).alloc (.cells #[.int .i64 0, .int .i64 0, .slice none 0 0] 27)).heap[w.heap.size + 1 + 1]? = some (.cells #[.int .i64 0, .int .i64 0, .slice none 0 0] 27 (0, 0)) := by
    have := heap_new1 (w.alloc (.cells #[.int .i64 u, .int .i64 c, .slice A L.length cp] 27)) (.cells #[.int .i64 v, .int .i64 n] 58) (.cells #[.int .i64 0, .int .i64 0, .slice none 0 0] 27)
    simpa using this
  have hr := h.ext hx0
  have HR := Lib.hid hr
  have HBM := Lib.hid bm
  have HBN := Lib.hid bn
  have HBZ := Lib.hid bz
  have m0 := cell_blk bm 0 rfl
  have m1 := cell_blk bm 1 rfl
  have m2 := cell_blk bm 2 rfl
  have n0 := cell_blk bn 0 rfl
  have n1 := cell_blk bn 1 rfl
  have z0 := cell_blk bz 0 rfl
  have z1 := cell_blk bz 1 rfl
  have z2 := cell_blk bz 2 rfl
  have y0 := frozen_blk bz 0
  have y1 := frozen_blk bz 1
  have y2 := frozen_blk bz 2
  clear h hr bm bn bz
  go_enter Tryz.func22, Tryz.ntmps22
  go_upto_region 1 with (fail)
  generalize (((w.alloc (.cells #[.int .i64 u, .int .i64 c, .slice A L.length cp] 27)).alloc (.cells #[.int .i64 v, .int .i64 n] 58)).alloc (.cells #[.int .i64 0, .int .i64 0, .slice none 0 0] 27)) = W at *
  have HG := Lib.hid (refget_calls u c A cp N L v n W HR.out hl)
  rw [hg] at HG
  have c1 : ¬ v < 0 := by omega
  have c2 : ¬ 1099511627776 < v := by omega
  have c3 : ¬ n < 0 := by omega
  have c4 : ¬ 1099511627776 < n := by omega
  have c5 : ¬ b < 1 := by omega
  have c6 : ¬ u < b := by omega
  obtain ⟨c', hc'⟩ : ∃ c', c + 1 = c' := ⟨_, rfl⟩
  have hcw : IntKind.i64.wrap (c + 1) = c' := by rw [IntWalk.i64_in _ (by omega)]; exact hc'
  clear hc hg
  go_wp2_with fail
  refine HG.out.mono ?_
  rintro e w1 ⟨rfl, hx1⟩
  have hgv : gotS none = .tuple #[.agg #[.int .i64 0, .int .i64 0, .int .i64 0, .int .i64 0], .bool false] := rfl
  rw [hgv]
  clear hgv m0 m1 m2 n0 n1 z0 z1 z2 y0 y1 y2 HG
  go_upto_region 7 with (fail)
  have hx2 := hx1.alloc (.cells #[.int .i64 0, .int .i64 0, .int .i64 0, .int .i64 0] 84)
  have bm := hx2.block HBM.out
  have bn := hx2.block HBN.out
  have bz := hx2.block HBZ.out
  replace HR := Lib.hid (HR.out.ext hx2)
  replace hx0 := hx0.trans hx2
  clear hx1 hx2 HBM HBN HBZ
  generalize (w1.alloc (.cells #[.int .i64 0, .int .i64 0, .int .i64 0, .int .i64 0] 84)) = w2 at *
  have m1 := cell_blk bm 1 rfl
  have y1 := frozen_blk bm 1
  have HCC := Lib.hid hc'
  clear hc' hc0 hc1
  go_upto_region 8 with (fail)
  clear m1 y1 c1 c2 c3 c4 c5 c6
  have bm2 := heap_setCell_same w2 w.heap.size 1 _ _ (.int .i64 c') bm
  have bn2 := (Below.heap_setCell w2 ⟨w.heap.size, 1, none⟩ (.int .i64 c') (w.heap.size + 1) (by show w.heap.size + 1 ≠ w.heap.size; omega)).trans bn
  have bz2 := (Below.heap_setCell w2 ⟨w.heap.size, 1, none⟩ (.int .i64 c') (w.heap.size + 1 + 1) (by show w.heap.size + 1 + 1 ≠ w.heap.size; omega)).trans bz
  have HR2 := Lib.hid (HR.out.set bm (by decide) 1 (.int .i64 c'))
  have HX := Lib.hid (hx0.setCell (p := ⟨w.heap.size, 1, none⟩) (Nat.le_refl _) (.int .i64 c'))
  clear bm bn bz HR hx0
  generalize w2.setCell ⟨w.heap.size, 1, none⟩ (.int .i64 c') = W7 at *
  have HBM := Lib.hid (show W7.heap[w.heap.size]? = some (.cells #[.int .i64 u, .int .i64 c', .slice A L.length cp] 27 (0, 0)) from bm2)
  have HBN := Lib.hid bn2
  have HBZ := Lib.hid bz2
  clear bm2 bn2 bz2
  have hszW : w.heap.size ≤ W7.heap.size := HX.out.size
  generalize hmb : w.heap.size = mb at *
  have m2 := cell_blk HBM.out 2 rfl
  have mW : mb < W7.heap.size := block_of_cell m2
  have HRD := Lib.hid (fun W (hx : Ext W7 W) => Reads.of_own (HR2.out.ext hx))
  have keep : Hid (∀ W', Ext W7 W' → W'.cell? ⟨mb + 1, 0, none⟩ = some (.int .i64 v) ∧ W'.cell? ⟨mb + 1, 1, none⟩ = some (.int .i64 n) ∧ W'.cell? ⟨mb, 1, none⟩ = some (.int .i64 c')) := Lib.hid fun W' hE => ⟨hE.cell (cell_blk HBN.out 0 rfl), hE.cell (cell_blk HBN.out 1 rfl), hE.cell (cell_blk HBM.out 1 rfl)⟩
  have keep2 : Hid (∀ W', Ext W7 W' → ∀ z, (W'.setCell ⟨mb, 2, none⟩ z).cell? ⟨mb + 1, 0, none⟩ = some (.int .i64 v) ∧ (W'.setCell ⟨mb, 2, none⟩ z).cell? ⟨mb + 1, 1, none⟩ = some (.int .i64 n) ∧ (W'.setCell ⟨mb, 2, none⟩ z).cell? ⟨mb, 1, none⟩ = some (.int .i64 c')) := Lib.hid fun W' hE z => ⟨(World.cell?_setCell_far _ _ _ z (by show mb ≠ mb + 1; omega)).trans (hE.cell (cell_blk HBN.out 0 rfl)), (World.cell?_setCell_far _ _ _ z (by show mb ≠ mb + 1; omega)).trans (hE.cell (cell_blk HBN.out 1 rfl)), cell_blk (heap_setCell_same W' mb 2 _ _ z (hE.block HBM.out)) 1 rfl⟩
  go_cut [] from 54 to 65 (fun wx => CutR W7 mb W7.heap.size (L ++ [⟨v, n, b, c'⟩]) wx)
  case first =>
    refine wp_region_noPanic ?_
    refine wp_region_held_drew (S := fun w' => w'.cell? ⟨mb + 1, 0, none⟩ = some (.int .i64 v) ∧ w'.cell? ⟨mb + 1, 1, none⟩ = some (.int .i64 n) ∧ w'.cell? ⟨mb, 1, none⟩ = some (.int .i64 c')) (by kernel_rfl) ?_ (fun hHeld => ?_)
    · exact keep.out _ (Ext.refl W7).drew
    have HE : Hid (Ext W7 W7.drew) := Lib.hid (Ext.refl W7).drew
    generalize W7.drew = W8x at *
    refine wpAnyH_take (i := 1) (v := ?_) rfl (by kernel_rfl) (by kernel_rfl) (by kernel_rfl) (fun _ _ _ h => h) (Or.inl ⟨by rfl, ?_⟩) (by assumption) ?_
    rotate_left
    · intro w hSw
      try dsimp only at hSw
      go_simp
      try with_reducible rfl
    try simp only [Act.put]
    try simp only [List.setIfInBounds_toArray]
    try simp only [List.set_cons_succ]
    try simp only [List.set_cons_zero]
    refine wpAnyH_take (i := 4) (v := ?_) rfl (by kernel_rfl) (by kernel_rfl) (by kernel_rfl) (fun _ _ _ h => h) (Or.inl ⟨by rfl, ?_⟩) (by assumption) ?_
    rotate_left
    · intro w hSw
      try dsimp only at hSw
      go_simp
      try with_reducible rfl
    try simp only [Act.put]
    try simp only [List.setIfInBounds_toArray]
    try simp only [List.set_cons_succ]
    try simp only [List.set_cons_zero]
    refine wpAnyH_take (i := 5) (v := ?_) rfl (by kernel_rfl) (by kernel_rfl) (by kernel_rfl) (fun _ _ _ h => h) (Or.inl ⟨by rfl, ?_⟩) (by assumption) ?_
    rotate_left
    · intro w hSw
      try dsimp only at hSw
      go_simp
      try with_reducible rfl
    try simp only [Act.put]
    try simp only [List.setIfInBounds_toArray]
    try simp only [List.set_cons_succ]
    try simp only [List.set_cons_zero]
    refine wpAnyH_take (i := 6) (v := ?_) rfl (by kernel_rfl) (by kernel_rfl) (by kernel_rfl) (fun _ _ _ h => h) (Or.inl ⟨by rfl, ?_⟩) (by assumption) ?_
    rotate_left
    · intro w hSw
      try dsimp only at hSw
      go_simp
      try with_reducible rfl
    try simp only [Act.put]
    try simp only [List.setIfInBounds_toArray]
    try simp only [List.set_cons_succ]
    try simp only [List.set_cons_zero]
    refine wpAnyH_take (i := 7) (v := ?_) rfl (by kernel_rfl) (by kernel_rfl) (by kernel_rfl) (fun _ _ _ h => h) (Or.inl ⟨by rfl, ?_⟩) (by assumption) ?_
    rotate_left
    · intro w hSw
      try dsimp only at hSw
      go_simp
      try with_reducible rfl
    try simp only [Act.put]
    try simp only [List.setIfInBounds_toArray]
    try simp only [List.set_cons_succ]
    try simp only [List.set_cons_zero]
    refine wpAnyH_take (i := 8) (v := ?_) rfl (by kernel_rfl) (by kernel_rfl) (by kernel_rfl) (fun _ _ _ h => h) (Or.inl ⟨by rfl, ?_⟩) (by assumption) ?_
    rotate_left
    · intro w hSw
      try dsimp only at hSw
      go_simp
      try with_reducible rfl
    try simp only [Act.put]
    try simp only [List.setIfInBounds_toArray]
    try simp only [List.set_cons_succ]
    try simp only [List.set_cons_zero]
    refine wpAnyH_ready (rs := [0, 2, 9]) (by kernel_rfl) (by simp) ?_
    refine AllReadyH.cons rfl (fun K hK => ?_) (AllReadyH.cons rfl (fun K hK => ?_) (AllReadyH.cons rfl (fun K hK => ?_) AllReadyH.nil))
    · have hx : Ext W8x (W8x.alloc (.cells #[] 84)) := (Ext.refl _).alloc _
      have B0 := heap_alloc_new W8x (.cells #[] 84)
      have Z0 : W7.heap.size ≤ W8x.heap.size := HE.out.size
      replace HE := Lib.hid (HE.out.trans hx)
      go_simp
      refine hK.out _ _ ?_ (fun hHeld2 => ?_)
      · exact keep.out _ HE.out
      clear hHeld
      have hHeld := hHeld2
      clear hHeld2 hK K
      try simp only [Act.put]
      try simp only [List.setIfInBounds_toArray]
      try simp only [List.set_cons_succ]
      try simp only [List.set_cons_zero]
      clear hx
      generalize W8x.alloc (.cells #[] 84) = W9x at *
      generalize hn0 : W8x.heap.size = n0 at *
      clear hn0
      refine wpAnyH_ready (rs := [2, 9]) (by kernel_rfl) (by simp) ?_
      refine AllReadyH.cons rfl (fun K hK => ?_) (AllReadyH.cons rfl (fun K hK => ?_) AllReadyH.nil)
      · have e5' := HE.out.cell m2
        go_simp
        clear e5'
        refine hK.out _ _ ?_ (fun hHeld2 => ?_)
        · exact keep.out _ HE.out
        clear hHeld
        have hHeld := hHeld2
        clear hHeld2 hK K
        try simp only [Act.put]
        try simp only [List.setIfInBounds_toArray]
        try simp only [List.set_cons_succ]
        try simp only [List.set_cons_zero]
        refine wpAnyH_ready (rs := [3, 9]) (by kernel_rfl) (by simp) ?_
        refine AllReadyH.cons rfl (fun K hK => ?_) (AllReadyH.cons rfl (fun K hK => ?_) AllReadyH.nil)
        · refine wp_append_any _ _ _ 25 (by rfl) W7.heap.size 84 i0 (.agg #[.int .i64 0, .int .i64 0, .int .i64 0, .int .i64 0]) 4 32 Tryz.underlying25 hi hz0 hz1 hz2 rfl (by decide) (.slice (some ⟨n0, 0, none⟩) 0 0) 0 [] (by rfl) (own_empty B0 Z0 4) W9x.heap.size A L.length cp (slsV L) (by rfl) (HRD.out _ HE.out) (slsV_plain L) (by unfold maxLen; omega) (by omega) HE.out.size ?_
          intro v3 W10x O3 hg3 hv3
          have hE3 : Ext W7 W10x := grown_ext HE.out hg3 (fun g e => by simp [Value.ownBlock] at e; omega)
          rw [Nat.zero_add, List.nil_append] at O3
          replace HE := Lib.hid hE3
          clear hg3 hv3 hE3
          refine hK.out _ _ ?_ (fun hHeld2 => ?_)
          · exact keep.out _ HE.out
          clear hHeld
          have hHeld := hHeld2
          clear hHeld2 hK K
          try simp only [Act.put]
          try simp only [List.setIfInBounds_toArray]
          try simp only [List.set_cons_succ]
          try simp only [List.set_cons_zero]
          refine wpAnyH_ready (rs := [9]) (by kernel_rfl) (by simp) ?_
          refine AllReadyH.cons rfl (fun K hK => ?_) AllReadyH.nil
          have hx : Ext W10x (W10x.alloc (.cells #[.int .i64 v, .int .i64 n, .int .i64 b, .int .i64 c'] 84)) := (Ext.refl _).alloc _
          have B9 := heap_alloc_new W10x (.cells #[.int .i64 v, .int .i64 n, .int .i64 b, .int .i64 c'] 84)
          have Z9 : W7.heap.size ≤ W10x.heap.size := HE.out.size
          have D93 : ∀ g, v3.ownBlock = some g → g ≠ W10x.heap.size := fun g e => by have := O3.lt g e; omega
          replace O3 := ownsRow_ext O3 hx
          replace HE := Lib.hid (HE.out.trans hx)
          go_simp
          refine hK.out _ _ ?_ (fun hHeld2 => ?_)
          · exact keep.out _ HE.out
          clear hHeld
          have hHeld := hHeld2
          clear hHeld2 hK K
          try simp only [Act.put]
          try simp only [List.setIfInBounds_toArray]
          try simp only [List.set_cons_succ]
          try simp only [List.set_cons_zero]
          clear hx
          generalize W10x.alloc (.cells #[.int .i64 v, .int .i64 n, .int .i64 b, .int .i64 c'] 84) = W11x at *
          generalize hn9 : W10x.heap.size = n9 at *
          clear hn9
          refine wpAnyH_ready (rs := [10]) (by kernel_rfl) (by simp) ?_
          refine AllReadyH.cons rfl (fun K hK => ?_) AllReadyH.nil
          refine wp_append_any _ _ _ 25 (by rfl) W7.heap.size 84 i0 (.agg #[.int .i64 0, .int .i64 0, .int .i64 0, .int .i64 0]) 4 32 Tryz.underlying25 hi hz0 hz1 hz2 rfl (by decide) v3 L.length (slsV L) (by rfl) O3 W11x.heap.size (some ⟨n9, 0, none⟩) 1 1 [.int .i64 v, .int .i64 n, .int .i64 b, .int .i64 c'] (by rfl) (reads_one B9 rfl) (by simp [Value.oneCell']) (by unfold maxLen; omega) (by omega) HE.out.size ?_
          intro v4 W12x O4 hg4 hv4
          obtain ⟨A4, k4, rfl, _⟩ := own_shape O4
          have hE4 : Ext W7 W12x := grown_ext HE.out hg4 (fun g e => (O3.lt g e).1)
          have HROW : Hid (RowS W12x W7.heap.size (.slice A4 (L.length + 1) k4) (L ++ [⟨v, n, b, c'⟩])) := Lib.hid (by unfold RowS; rw [slsV_append, slsV_one, List.length_append]; exact O4)
          replace HE := Lib.hid hE4
          clear hg4 hv4 hE4 O4 O3 B9
          refine hK.out _ _ ?_ (fun hHeld2 => ?_)
          · exact keep.out _ HE.out
          clear hHeld
          have hHeld := hHeld2
          clear hHeld2 hK K
          try simp only [Act.put]
          try simp only [List.setIfInBounds_toArray]
          try simp only [List.set_cons_succ]
          try simp only [List.set_cons_zero]
          refine wpAnyH_take (i := 11) (v := ?_) rfl (by kernel_rfl) (by kernel_rfl) (by kernel_rfl) (fun _ _ _ h => h) (Or.inl ⟨by rfl, ?_⟩) (by assumption) ?_
          rotate_left
          · intro w hSw
            try dsimp only at hSw
            go_simp
            try with_reducible rfl
          try simp only [Act.put]
          try simp only [List.setIfInBounds_toArray]
          try simp only [List.set_cons_succ]
          try simp only [List.set_cons_zero]
          refine wpAnyH_ready (rs := [12]) (by kernel_rfl) (by simp) ?_
          refine AllReadyH.cons rfl (fun K hK => ?_) AllReadyH.nil
          have q1 := HE.out.cell m2
          have q2 : W12x.frozen? ⟨mb, 2, none⟩ = false := frozen_blk (HE.out.block HBM.out) 2
          go_simp
          refine hK.out _ _ ?_ (fun hHeld2 => ?_)
          · exact keep2.out _ HE.out _
          clear hHeld hHeld2 hK K q1 q2
          try simp only [Act.put]
          try simp only [List.setIfInBounds_toArray]
          try simp only [List.set_cons_succ]
          try simp only [List.set_cons_zero]
          refine wpAnyH_done (by kernel_rfl) ?_ _
          refine noPanic_intro ?_
          go_wp2_with fail
          go_meet
          case rel => exact ⟨_, W12x, rfl, HE.out, HROW.out⟩
        · have hx : Ext W9x (W9x.alloc (.cells #[.int .i64 v, .int .i64 n, .int .i64 b, .int .i64 c'] 84)) := (Ext.refl _).alloc _
          have B9 := heap_alloc_new W9x (.cells #[.int .i64 v, .int .i64 n, .int .i64 b, .int .i64 c'] 84)
          have Z9 : W7.heap.size ≤ W9x.heap.size := HE.out.size
          have D90 : W9x.heap.size ≠ n0 := by have := (Array.getElem?_eq_some_iff.1 B0).1; omega
          replace B0 := hx.block B0
          replace HE := Lib.hid (HE.out.trans hx)
          go_simp
          refine hK.out _ _ ?_ (fun hHeld2 => ?_)
          · exact keep.out _ HE.out
          clear hHeld
          have hHeld := hHeld2
          clear hHeld2 hK K
          try simp only [Act.put]
          try simp only [List.setIfInBounds_toArray]
          try simp only [List.set_cons_succ]
          try simp only [List.set_cons_zero]
          clear hx
          generalize W9x.alloc (.cells #[.int .i64 v, .int .i64 n, .int .i64 b, .int .i64 c'] 84) = W10x at *
          generalize hn9 : W9x.heap.size = n9 at *
          clear hn9
          refine wpAnyH_ready (rs := [3]) (by kernel_rfl) (by simp) ?_
          refine AllReadyH.cons rfl (fun K hK => ?_) AllReadyH.nil
          have N9 := Lib.hid (Array.getElem?_eq_some_iff.1 B9).1
          refine wp_append_any _ _ _ 25 (by rfl) W7.heap.size 84 i0 (.agg #[.int .i64 0, .int .i64 0, .int .i64 0, .int .i64 0]) 4 32 Tryz.underlying25 hi hz0 hz1 hz2 rfl (by decide) (.slice (some ⟨n0, 0, none⟩) 0 0) 0 [] (by rfl) (own_empty B0 Z0 4) W10x.heap.size A L.length cp (slsV L) (by rfl) (HRD.out _ HE.out) (slsV_plain L) (by unfold maxLen; omega) (by omega) HE.out.size ?_
          intro v3 W11x O3 hg3 hv3
          have hE3 : Ext W7 W11x := grown_ext HE.out hg3 (fun g e => by simp [Value.ownBlock] at e; omega)
          replace B9 := grown_block hg3 B9 (by simp [Value.ownBlock]; omega)
          have D93 : ∀ g, v3.ownBlock = some g → g ≠ n9 := fun g e => by rcases hv3 with h | h <;> rw [h] at e <;> simp [Value.ownBlock] at e <;> (try have := (Array.getElem?_eq_some_iff.1 B9).1) <;> (try have := N9.out) <;> omega
          rw [Nat.zero_add, List.nil_append] at O3
          replace HE := Lib.hid hE3
          clear hg3 hv3 hE3
          refine hK.out _ _ ?_ (fun hHeld2 => ?_)
          · exact keep.out _ HE.out
          clear hHeld
          have hHeld := hHeld2
          clear hHeld2 hK K
          try simp only [Act.put]
          try simp only [List.setIfInBounds_toArray]
          try simp only [List.set_cons_succ]
          try simp only [List.set_cons_zero]
          refine wpAnyH_ready (rs := [10]) (by kernel_rfl) (by simp) ?_
          refine AllReadyH.cons rfl (fun K hK => ?_) AllReadyH.nil
          refine wp_append_any _ _ _ 25 (by rfl) W7.heap.size 84 i0 (.agg #[.int .i64 0, .int .i64 0, .int .i64 0, .int .i64 0]) 4 32 Tryz.underlying25 hi hz0 hz1 hz2 rfl (by decide) v3 L.length (slsV L) (by rfl) O3 W11x.heap.size (some ⟨n9, 0, none⟩) 1 1 [.int .i64 v, .int .i64 n, .int .i64 b, .int .i64 c'] (by rfl) (reads_one B9 rfl) (by simp [Value.oneCell']) (by unfold maxLen; omega) (by omega) HE.out.size ?_
          intro v4 W12x O4 hg4 hv4
          obtain ⟨A4, k4, rfl, _⟩ := own_shape O4
          have hE4 : Ext W7 W12x := grown_ext HE.out hg4 (fun g e => (O3.lt g e).1)
          have HROW : Hid (RowS W12x W7.heap.size (.slice A4 (L.length + 1) k4) (L ++ [⟨v, n, b, c'⟩])) := Lib.hid (by unfold RowS; rw [slsV_append, slsV_one, List.length_append]; exact O4)
          replace HE := Lib.hid hE4
          clear hg4 hv4 hE4 O4 O3 B9
          refine hK.out _ _ ?_ (fun hHeld2 => ?_)
          · exact keep.out _ HE.out
          clear hHeld
          have hHeld := hHeld2
          clear hHeld2 hK K
          try simp only [Act.put]
          try simp only [List.setIfInBounds_toArray]
          try simp only [List.set_cons_succ]
          try simp only [List.set_cons_zero]
          refine wpAnyH_take (i := 11) (v := ?_) rfl (by kernel_rfl) (by kernel_rfl) (by kernel_rfl) (fun _ _ _ h => h) (Or.inl ⟨by rfl, ?_⟩) (by assumption) ?_
          rotate_left
          · intro w hSw
            try dsimp only at hSw
            go_simp
            try with_reducible rfl
          try simp only [Act.put]
          try simp only [List.setIfInBounds_toArray]
          try simp only [List.set_cons_succ]
          try simp only [List.set_cons_zero]
          refine wpAnyH_ready (rs := [12]) (by kernel_rfl) (by simp) ?_
          refine AllReadyH.cons rfl (fun K hK => ?_) AllReadyH.nil
          have q1 := HE.out.cell m2
          have q2 : W12x.frozen? ⟨mb, 2, none⟩ = false := frozen_blk (HE.out.block HBM.out) 2
          go_simp
          refine hK.out _ _ ?_ (fun hHeld2 => ?_)
          · exact keep2.out _ HE.out _
          clear hHeld hHeld2 hK K q1 q2
          try simp only [Act.put]
          try simp only [List.setIfInBounds_toArray]
          try simp only [List.set_cons_succ]
          try simp only [List.set_cons_zero]
          refine wpAnyH_done (by kernel_rfl) ?_ _
          refine noPanic_intro ?_
          go_wp2_with fail
          go_meet
          case rel => exact ⟨_, W12x, rfl, HE.out, HROW.out⟩
      · have hx : Ext W9x (W9x.alloc (.cells #[.int .i64 v, .int .i64 n, .int .i64 b, .int .i64 c'] 84)) := (Ext.refl _).alloc _
        have B9 := heap_alloc_new W9x (.cells #[.int .i64 v, .int .i64 n, .int .i64 b, .int .i64 c'] 84)
        have Z9 : W7.heap.size ≤ W9x.heap.size := HE.out.size
        have D90 : W9x.heap.size ≠ n0 := by have := (Array.getElem?_eq_some_iff.1 B0).1; omega
        replace B0 := hx.block B0
        replace HE := Lib.hid (HE.out.trans hx)
        go_simp
        refine hK.out _ _ ?_ (fun hHeld2 => ?_)
        · exact keep.out _ HE.out
        clear hHeld
        have hHeld := hHeld2
        clear hHeld2 hK K
        try simp only [Act.put]
        try simp only [List.setIfInBounds_toArray]
        try simp only [List.set_cons_succ]
        try simp only [List.set_cons_zero]
        clear hx
        generalize W9x.alloc (.cells #[.int .i64 v, .int .i64 n, .int .i64 b, .int .i64 c'] 84) = W10x at *
        generalize hn9 : W9x.heap.size = n9 at *
        clear hn9
        refine wpAnyH_ready (rs := [2]) (by kernel_rfl) (by simp) ?_
        refine AllReadyH.cons rfl (fun K hK => ?_) AllReadyH.nil
        have e5' := HE.out.cell m2
        go_simp
        clear e5'
        refine hK.out _ _ ?_ (fun hHeld2 => ?_)
        · exact keep.out _ HE.out
        clear hHeld
        have hHeld := hHeld2
        clear hHeld2 hK K
        try simp only [Act.put]
        try simp only [List.setIfInBounds_toArray]
        try simp only [List.set_cons_succ]
        try simp only [List.set_cons_zero]
        refine wpAnyH_ready (rs := [3]) (by kernel_rfl) (by simp) ?_
        refine AllReadyH.cons rfl (fun K hK => ?_) AllReadyH.nil
        have N9 := Lib.hid (Array.getElem?_eq_some_iff.1 B9).1
        refine wp_append_any _ _ _ 25 (by rfl) W7.heap.size 84 i0 (.agg #[.int .i64 0, .int .i64 0, .int .i64 0, .int .i64 0]) 4 32 Tryz.underlying25 hi hz0 hz1 hz2 rfl (by decide) (.slice (some ⟨n0, 0, none⟩) 0 0) 0 [] (by rfl) (own_empty B0 Z0 4) W10x.heap.size A L.length cp (slsV L) (by rfl) (HRD.out _ HE.out) (slsV_plain L) (by unfold maxLen; omega) (by omega) HE.out.size ?_
        intro v3 W11x O3 hg3 hv3
        have hE3 : Ext W7 W11x := grown_ext HE.out hg3 (fun g e => by simp [Value.ownBlock] at e; omega)
        replace B9 := grown_block hg3 B9 (by simp [Value.ownBlock]; omega)
        have D93 : ∀ g, v3.ownBlock = some g → g ≠ n9 := fun g e => by rcases hv3 with h | h <;> rw [h] at e <;> simp [Value.ownBlock] at e <;> (try have := (Array.getElem?_eq_some_iff.1 B9).1) <;> (try have := N9.out) <;> omega
        rw [Nat.zero_add, List.nil_append] at O3
        replace HE := Lib.hid hE3
        clear hg3 hv3 hE3
        refine hK.out _ _ ?_ (fun hHeld2 => ?_)
        · exact keep.out _ HE.out
        clear hHeld
        have hHeld := hHeld2
        clear hHeld2 hK K
        try simp only [Act.put]
        try simp only [List.setIfInBounds_toArray]
        try simp only [List.set_cons_succ]
        try simp only [List.set_cons_zero]
        refine wpAnyH_ready (rs := [10]) (by kernel_rfl) (by simp) ?_
        refine AllReadyH.cons rfl (fun K hK => ?_) AllReadyH.nil
        refine wp_append_any _ _ _ 25 (by rfl) W7.heap.size 84 i0 (.agg #[.int .i64 0, .int .i64 0, .int .i64 0, .int .i64 0]) 4 32 Tryz.underlying25 hi hz0 hz1 hz2 rfl (by decide) v3 L.length (slsV L) (by rfl) O3 W11x.heap.size (some ⟨n9, 0, none⟩) 1 1 [.int .i64 v, .int .i64 n, .int .i64 b, .int .i64 c'] (by rfl) (reads_one B9 rfl) (by simp [Value.oneCell']) (by unfold maxLen; omega) (by omega) HE.out.size ?_
        intro v4 W12x O4 hg4 hv4
        obtain ⟨A4, k4, rfl, _⟩ := own_shape O4
        have hE4 : Ext W7 W12x := grown_ext HE.out hg4 (fun g e => (O3.lt g e).1)
        have HROW : Hid (RowS W12x W7.heap.size (.slice A4 (L.length + 1) k4) (L ++ [⟨v, n, b, c'⟩])) := Lib.hid (by unfold RowS; rw [slsV_append, slsV_one, List.length_append]; exact O4)
        replace HE := Lib.hid hE4
        clear hg4 hv4 hE4 O4 O3 B9
        refine hK.out _ _ ?_ (fun hHeld2 => ?_)
        · exact keep.out _ HE.out
        clear hHeld
        have hHeld := hHeld2
        clear hHeld2 hK K
        try simp only [Act.put]
        try simp only [List.setIfInBounds_toArray]
        try simp only [List.set_cons_succ]
        try simp only [List.set_cons_zero]
        refine wpAnyH_take (i := 11) (v := ?_) rfl (by kernel_rfl) (by kernel_rfl) (by kernel_rfl) (fun _ _ _ h => h) (Or.inl ⟨by rfl, ?_⟩) (by assumption) ?_
        rotate_left
        · intro w hSw
          try dsimp only at hSw
          go_simp
          try with_reducible rfl
        try simp only [Act.put]
        try simp only [List.setIfInBounds_toArray]
        try simp only [List.set_cons_succ]
        try simp only [List.set_cons_zero]
        refine wpAnyH_ready (rs := [12]) (by kernel_rfl) (by simp) ?_
        refine AllReadyH.cons rfl (fun K hK => ?_) AllReadyH.nil
        have q1 := HE.out.cell m2
        have q2 : W12x.frozen? ⟨mb, 2, none⟩ = false := frozen_blk (HE.out.block HBM.out) 2
        go_simp
        refine hK.out _ _ ?_ (fun hHeld2 => ?_)
        · exact keep2.out _ HE.out _
        clear hHeld hHeld2 hK K q1 q2
        try simp only [Act.put]
        try simp only [List.setIfInBounds_toArray]
        try simp only [List.set_cons_succ]
        try simp only [List.set_cons_zero]
        refine wpAnyH_done (by kernel_rfl) ?_ _
        refine noPanic_intro ?_
        go_wp2_with fail
        go_meet
        case rel => exact ⟨_, W12x, rfl, HE.out, HROW.out⟩
    · have e5' := HE.out.cell m2
      go_simp
      clear e5'
      refine hK.out _ _ ?_ (fun hHeld2 => ?_)
      · exact keep.out _ HE.out
      clear hHeld
      have hHeld := hHeld2
      clear hHeld2 hK K
      try simp only [Act.put]
      try simp only [List.setIfInBounds_toArray]
      try simp only [List.set_cons_succ]
      try simp only [List.set_cons_zero]
      refine wpAnyH_ready (rs := [0, 9]) (by kernel_rfl) (by simp) ?_
      refine AllReadyH.cons rfl (fun K hK => ?_) (AllReadyH.cons rfl (fun K hK => ?_) AllReadyH.nil)
      · have hx : Ext W8x (W8x.alloc (.cells #[] 84)) := (Ext.refl _).alloc _
        have B0 := heap_alloc_new W8x (.cells #[] 84)
        have Z0 : W7.heap.size ≤ W8x.heap.size := HE.out.size
        replace HE := Lib.hid (HE.out.trans hx)
        go_simp
        refine hK.out _ _ ?_ (fun hHeld2 => ?_)
        · exact keep.out _ HE.out
        clear hHeld
        have hHeld := hHeld2
        clear hHeld2 hK K
        try simp only [Act.put]
        try simp only [List.setIfInBounds_toArray]
        try simp only [List.set_cons_succ]
        try simp only [List.set_cons_zero]
        clear hx
        generalize W8x.alloc (.cells #[] 84) = W9x at *
        generalize hn0 : W8x.heap.size = n0 at *
        clear hn0
        refine wpAnyH_ready (rs := [3, 9]) (by kernel_rfl) (by simp) ?_
        refine AllReadyH.cons rfl (fun K hK => ?_) (AllReadyH.cons rfl (fun K hK => ?_) AllReadyH.nil)
        · refine wp_append_any _ _ _ 25 (by rfl) W7.heap.size 84 i0 (.agg #[.int .i64 0, .int .i64 0, .int .i64 0, .int .i64 0]) 4 32 Tryz.underlying25 hi hz0 hz1 hz2 rfl (by decide) (.slice (some ⟨n0, 0, none⟩) 0 0) 0 [] (by rfl) (own_empty B0 Z0 4) W9x.heap.size A L.length cp (slsV L) (by rfl) (HRD.out _ HE.out) (slsV_plain L) (by unfold maxLen; omega) (by omega) HE.out.size ?_
          intro v3 W10x O3 hg3 hv3
          have hE3 : Ext W7 W10x := grown_ext HE.out hg3 (fun g e => by simp [Value.ownBlock] at e; omega)
          rw [Nat.zero_add, List.nil_append] at O3
          replace HE := Lib.hid hE3
          clear hg3 hv3 hE3
          refine hK.out _ _ ?_ (fun hHeld2 => ?_)
          · exact keep.out _ HE.out
          clear hHeld
          have hHeld := hHeld2
          clear hHeld2 hK K
          try simp only [Act.put]
          try simp only [List.setIfInBounds_toArray]
          try simp only [List.set_cons_succ]
          try simp only [List.set_cons_zero]
          refine wpAnyH_ready (rs := [9]) (by kernel_rfl) (by simp) ?_
          refine AllReadyH.cons rfl (fun K hK => ?_) AllReadyH.nil
          have hx : Ext W10x (W10x.alloc (.cells #[.int .i64 v, .int .i64 n, .int .i64 b, .int .i64 c'] 84)) := (Ext.refl _).alloc _
          have B9 := heap_alloc_new W10x (.cells #[.int .i64 v, .int .i64 n, .int .i64 b, .int .i64 c'] 84)
          have Z9 : W7.heap.size ≤ W10x.heap.size := HE.out.size
          have D93 : ∀ g, v3.ownBlock = some g → g ≠ W10x.heap.size := fun g e => by have := O3.lt g e; omega
          replace O3 := ownsRow_ext O3 hx
          replace HE := Lib.hid (HE.out.trans hx)
          go_simp
          refine hK.out _ _ ?_ (fun hHeld2 => ?_)
          · exact keep.out _ HE.out
          clear hHeld
          have hHeld := hHeld2
          clear hHeld2 hK K
          try simp only [Act.put]
          try simp only [List.setIfInBounds_toArray]
          try simp only [List.set_cons_succ]
          try simp only [List.set_cons_zero]
          clear hx
          generalize W10x.alloc (.cells #[.int .i64 v, .int .i64 n, .int .i64 b, .int .i64 c'] 84) = W11x at *
          generalize hn9 : W10x.heap.size = n9 at *
          clear hn9
          refine wpAnyH_ready (rs := [10]) (by kernel_rfl) (by simp) ?_
          refine AllReadyH.cons rfl (fun K hK => ?_) AllReadyH.nil
          refine wp_append_any _ _ _ 25 (by rfl) W7.heap.size 84 i0 (.agg #[.int .i64 0, .int .i64 0, .int .i64 0, .int .i64 0]) 4 32 Tryz.underlying25 hi hz0 hz1 hz2 rfl (by decide) v3 L.length (slsV L) (by rfl) O3 W11x.heap.size (some ⟨n9, 0, none⟩) 1 1 [.int .i64 v, .int .i64 n, .int .i64 b, .int .i64 c'] (by rfl) (reads_one B9 rfl) (by simp [Value.oneCell']) (by unfold maxLen; omega) (by omega) HE.out.size ?_
          intro v4 W12x O4 hg4 hv4
          obtain ⟨A4, k4, rfl, _⟩ := own_shape O4
          have hE4 : Ext W7 W12x := grown_ext HE.out hg4 (fun g e => (O3.lt g e).1)
          have HROW : Hid (RowS W12x W7.heap.size (.slice A4 (L.length + 1) k4) (L ++ [⟨v, n, b, c'⟩])) := Lib.hid (by unfold RowS; rw [slsV_append, slsV_one, List.length_append]; exact O4)
          replace HE := Lib.hid hE4
          clear hg4 hv4 hE4 O4 O3 B9
          refine hK.out _ _ ?_ (fun hHeld2 => ?_)
          · exact keep.out _ HE.out
          clear hHeld
          have hHeld := hHeld2
          clear hHeld2 hK K
          try simp only [Act.put]
          try simp only [List.setIfInBounds_toArray]
          try simp only [List.set_cons_succ]
          try simp only [List.set_cons_zero]
          refine wpAnyH_take (i := 11) (v := ?_) rfl (by kernel_rfl) (by kernel_rfl) (by kernel_rfl) (fun _ _ _ h => h) (Or.inl ⟨by rfl, ?_⟩) (by assumption) ?_
          rotate_left
          · intro w hSw
            try dsimp only at hSw
            go_simp
            try with_reducible rfl
          try simp only [Act.put]
          try simp only [List.setIfInBounds_toArray]
          try simp only [List.set_cons_succ]
          try simp only [List.set_cons_zero]
          refine wpAnyH_ready (rs := [12]) (by kernel_rfl) (by simp) ?_
          refine AllReadyH.cons rfl (fun K hK => ?_) AllReadyH.nil
          have q1 := HE.out.cell m2
          have q2 : W12x.frozen? ⟨mb, 2, none⟩ = false := frozen_blk (HE.out.block HBM.out) 2
          go_simp
          refine hK.out _ _ ?_ (fun hHeld2 => ?_)
          · exact keep2.out _ HE.out _
          clear hHeld hHeld2 hK K q1 q2
          try simp only [Act.put]
          try simp only [List.setIfInBounds_toArray]
          try simp only [List.set_cons_succ]
          try simp only [List.set_cons_zero]
          refine wpAnyH_done (by kernel_rfl) ?_ _
          refine noPanic_intro ?_
          go_wp2_with fail
          go_meet
          case rel => exact ⟨_, W12x, rfl, HE.out, HROW.out⟩
        · have hx : Ext W9x (W9x.alloc (.cells #[.int .i64 v, .int .i64 n, .int .i64 b, .int .i64 c'] 84)) := (Ext.refl _).alloc _
          have B9 := heap_alloc_new W9x (.cells #[.int .i64 v, .int .i64 n, .int .i64 b, .int .i64 c'] 84)
          have Z9 : W7.heap.size ≤ W9x.heap.size := HE.out.size
          have D90 : W9x.heap.size ≠ n0 := by have := (Array.getElem?_eq_some_iff.1 B0).1; omega
          replace B0 := hx.block B0
          replace HE := Lib.hid (HE.out.trans hx)
          go_simp
          refine hK.out _ _ ?_ (fun hHeld2 => ?_)
          · exact keep.out _ HE.out
          clear hHeld
          have hHeld := hHeld2
          clear hHeld2 hK K
          try simp only [Act.put]
          try simp only [List.setIfInBounds_toArray]
          try simp only [List.set_cons_succ]
          try simp only [List.set_cons_zero]
          clear hx
          generalize W9x.alloc (.cells #[.int .i64 v, .int .i64 n, .int .i64 b, .int .i64 c'] 84) = W10x at *
          generalize hn9 : W9x.heap.size = n9 at *
          clear hn9
          refine wpAnyH_ready (rs := [3]) (by kernel_rfl) (by simp) ?_
          refine AllReadyH.cons rfl (fun K hK => ?_) AllReadyH.nil
          have N9 := Lib.hid (Array.getElem?_eq_some_iff.1 B9).1
          refine wp_append_any _ _ _ 25 (by rfl) W7.heap.size 84 i0 (.agg #[.int .i64 0, .int .i64 0, .int .i64 0, .int .i64 0]) 4 32 Tryz.underlying25 hi hz0 hz1 hz2 rfl (by decide) (.slice (some ⟨n0, 0, none⟩) 0 0) 0 [] (by rfl) (own_empty B0 Z0 4) W10x.heap.size A L.length cp (slsV L) (by rfl) (HRD.out _ HE.out) (slsV_plain L) (by unfold maxLen; omega) (by omega) HE.out.size ?_
          intro v3 W11x O3 hg3 hv3
          have hE3 : Ext W7 W11x := grown_ext HE.out hg3 (fun g e => by simp [Value.ownBlock] at e; omega)
          replace B9 := grown_block hg3 B9 (by simp [Value.ownBlock]; omega)
          have D93 : ∀ g, v3.ownBlock = some g → g ≠ n9 := fun g e => by rcases hv3 with h | h <;> rw [h] at e <;> simp [Value.ownBlock] at e <;> (try have := (Array.getElem?_eq_some_iff.1 B9).1) <;> (try have := N9.out) <;> omega
          rw [Nat.zero_add, List.nil_append] at O3
          replace HE := Lib.hid hE3
          clear hg3 hv3 hE3
          refine hK.out _ _ ?_ (fun hHeld2 => ?_)
          · exact keep.out _ HE.out
          clear hHeld
          have hHeld := hHeld2
          clear hHeld2 hK K
          try simp only [Act.put]
          try simp only [List.setIfInBounds_toArray]
          try simp only [List.set_cons_succ]
          try simp only [List.set_cons_zero]
          refine wpAnyH_ready (rs := [10]) (by kernel_rfl) (by simp) ?_
          refine AllReadyH.cons rfl (fun K hK => ?_) AllReadyH.nil
          refine wp_append_any _ _ _ 25 (by rfl) W7.heap.size 84 i0 (.agg #[.int .i64 0, .int .i64 0, .int .i64 0, .int .i64 0]) 4 32 Tryz.underlying25 hi hz0 hz1 hz2 rfl (by decide) v3 L.length (slsV L) (by rfl) O3 W11x.heap.size (some ⟨n9, 0, none⟩) 1 1 [.int .i64 v, .int .i64 n, .int .i64 b, .int .i64 c'] (by rfl) (reads_one B9 rfl) (by simp [Value.oneCell']) (by unfold maxLen; omega) (by omega) HE.out.size ?_
          intro v4 W12x O4 hg4 hv4
          obtain ⟨A4, k4, rfl, _⟩ := own_shape O4
          have hE4 : Ext W7 W12x := grown_ext HE.out hg4 (fun g e => (O3.lt g e).1)
          have HROW : Hid (RowS W12x W7.heap.size (.slice A4 (L.length + 1) k4) (L ++ [⟨v, n, b, c'⟩])) := Lib.hid (by unfold RowS; rw [slsV_append, slsV_one, List.length_append]; exact O4)
          replace HE := Lib.hid hE4
          clear hg4 hv4 hE4 O4 O3 B9
          refine hK.out _ _ ?_ (fun hHeld2 => ?_)
          · exact keep.out _ HE.out
          clear hHeld
          have hHeld := hHeld2
          clear hHeld2 hK K
          try simp only [Act.put]
          try simp only [List.setIfInBounds_toArray]
          try simp only [List.set_cons_succ]
          try simp only [List.set_cons_zero]
          refine wpAnyH_take (i := 11) (v := ?_) rfl (by kernel_rfl) (by kernel_rfl) (by kernel_rfl) (fun _ _ _ h => h) (Or.inl ⟨by rfl, ?_⟩) (by assumption) ?_
          rotate_left
          · intro w hSw
            try dsimp only at hSw
            go_simp
            try with_reducible rfl
          try simp only [Act.put]
          try simp only [List.setIfInBounds_toArray]
          try simp only [List.set_cons_succ]
          try simp only [List.set_cons_zero]
          refine wpAnyH_ready (rs := [12]) (by kernel_rfl) (by simp) ?_
          refine AllReadyH.cons rfl (fun K hK => ?_) AllReadyH.nil
          have q1 := HE.out.cell m2
          have q2 : W12x.frozen? ⟨mb, 2, none⟩ = false := frozen_blk (HE.out.block HBM.out) 2
          go_simp
          refine hK.out _ _ ?_ (fun hHeld2 => ?_)
          · exact keep2.out _ HE.out _
          clear hHeld hHeld2 hK K q1 q2
          try simp only [Act.put]
          try simp only [List.setIfInBounds_toArray]
          try simp only [List.set_cons_succ]
          try simp only [List.set_cons_zero]
          refine wpAnyH_done (by kernel_rfl) ?_ _
          refine noPanic_intro ?_
          go_wp2_with fail
          go_meet
          case rel => exact ⟨_, W12x, rfl, HE.out, HROW.out⟩
      · have hx : Ext W8x (W8x.alloc (.cells #[.int .i64 v, .int .i64 n, .int .i64 b, .int .i64 c'] 84)) := (Ext.refl _).alloc _
        have B9 := heap_alloc_new W8x (.cells #[.int .i64 v, .int .i64 n, .int .i64 b, .int .i64 c'] 84)
        have Z9 : W7.heap.size ≤ W8x.heap.size := HE.out.size
        replace HE := Lib.hid (HE.out.trans hx)
        go_simp
        refine hK.out _ _ ?_ (fun hHeld2 => ?_)
        · exact keep.out _ HE.out
        clear hHeld
        have hHeld := hHeld2
        clear hHeld2 hK K
        try simp only [Act.put]
        try simp only [List.setIfInBounds_toArray]
        try simp only [List.set_cons_succ]
        try simp only [List.set_cons_zero]
        clear hx
        generalize W8x.alloc (.cells #[.int .i64 v, .int .i64 n, .int .i64 b, .int .i64 c'] 84) = W9x at *
        generalize hn9 : W8x.heap.size = n9 at *
        clear hn9
        refine wpAnyH_ready (rs := [0]) (by kernel_rfl) (by simp) ?_
        refine AllReadyH.cons rfl (fun K hK => ?_) AllReadyH.nil
        have hx : Ext W9x (W9x.alloc (.cells #[] 84)) := (Ext.refl _).alloc _
        have B0 := heap_alloc_new W9x (.cells #[] 84)
        have Z0 : W7.heap.size ≤ W9x.heap.size := HE.out.size
        have D90 : n9 ≠ W9x.heap.size := by have := (Array.getElem?_eq_some_iff.1 B9).1; omega
        replace B9 := hx.block B9
        replace HE := Lib.hid (HE.out.trans hx)
        go_simp
        refine hK.out _ _ ?_ (fun hHeld2 => ?_)
        · exact keep.out _ HE.out
        clear hHeld
        have hHeld := hHeld2
        clear hHeld2 hK K
        try simp only [Act.put]
        try simp only [List.setIfInBounds_toArray]
        try simp only [List.set_cons_succ]
        try simp only [List.set_cons_zero]
        clear hx
        generalize W9x.alloc (.cells #[] 84) = W10x at *
        generalize hn0 : W9x.heap.size = n0 at *
        clear hn0
        refine wpAnyH_ready (rs := [3]) (by kernel_rfl) (by simp) ?_
        refine AllReadyH.cons rfl (fun K hK => ?_) AllReadyH.nil
        have N9 := Lib.hid (Array.getElem?_eq_some_iff.1 B9).1
        refine wp_append_any _ _ _ 25 (by rfl) W7.heap.size 84 i0 (.agg #[.int .i64 0, .int .i64 0, .int .i64 0, .int .i64 0]) 4 32 Tryz.underlying25 hi hz0 hz1 hz2 rfl (by decide) (.slice (some ⟨n0, 0, none⟩) 0 0) 0 [] (by rfl) (own_empty B0 Z0 4) W10x.heap.size A L.length cp (slsV L) (by rfl) (HRD.out _ HE.out) (slsV_plain L) (by unfold maxLen; omega) (by omega) HE.out.size ?_
        intro v3 W11x O3 hg3 hv3
        have hE3 : Ext W7 W11x := grown_ext HE.out hg3 (fun g e => by simp [Value.ownBlock] at e; omega)
        replace B9 := grown_block hg3 B9 (by simp [Value.ownBlock]; omega)
        have D93 : ∀ g, v3.ownBlock = some g → g ≠ n9 := fun g e => by rcases hv3 with h | h <;> rw [h] at e <;> simp [Value.ownBlock] at e <;> (try have := (Array.getElem?_eq_some_iff.1 B9).1) <;> (try have := N9.out) <;> omega
        rw [Nat.zero_add, List.nil_append] at O3
        replace HE := Lib.hid hE3
        clear hg3 hv3 hE3
        refine hK.out _ _ ?_ (fun hHeld2 => ?_)
        · exact keep.out _ HE.out
        clear hHeld
        have hHeld := hHeld2
        clear hHeld2 hK K
        try simp only [Act.put]
        try simp only [List.setIfInBounds_toArray]
        try simp only [List.set_cons_succ]
        try simp only [List.set_cons_zero]
        refine wpAnyH_ready (rs := [10]) (by kernel_rfl) (by simp) ?_
        refine AllReadyH.cons rfl (fun K hK => ?_) AllReadyH.nil
        refine wp_append_any _ _ _ 25 (by rfl) W7.heap.size 84 i0 (.agg #[.int .i64 0, .int .i64 0, .int .i64 0, .int .i64 0]) 4 32 Tryz.underlying25 hi hz0 hz1 hz2 rfl (by decide) v3 L.length (slsV L) (by rfl) O3 W11x.heap.size (some ⟨n9, 0, none⟩) 1 1 [.int .i64 v, .int .i64 n, .int .i64 b, .int .i64 c'] (by rfl) (reads_one B9 rfl) (by simp [Value.oneCell']) (by unfold maxLen; omega) (by omega) HE.out.size ?_
        intro v4 W12x O4 hg4 hv4
        obtain ⟨A4, k4, rfl, _⟩ := own_shape O4
        have hE4 : Ext W7 W12x := grown_ext HE.out hg4 (fun g e => (O3.lt g e).1)
        have HROW : Hid (RowS W12x W7.heap.size (.slice A4 (L.length + 1) k4) (L ++ [⟨v, n, b, c'⟩])) := Lib.hid (by unfold RowS; rw [slsV_append, slsV_one, List.length_append]; exact O4)
        replace HE := Lib.hid hE4
        clear hg4 hv4 hE4 O4 O3 B9
        refine hK.out _ _ ?_ (fun hHeld2 => ?_)
        · exact keep.out _ HE.out
        clear hHeld
        have hHeld := hHeld2
        clear hHeld2 hK K
        try simp only [Act.put]
        try simp only [List.setIfInBounds_toArray]
        try simp only [List.set_cons_succ]
        try simp only [List.set_cons_zero]
        refine wpAnyH_take (i := 11) (v := ?_) rfl (by kernel_rfl) (by kernel_rfl) (by kernel_rfl) (fun _ _ _ h => h) (Or.inl ⟨by rfl, ?_⟩) (by assumption) ?_
        rotate_left
        · intro w hSw
          try dsimp only at hSw
          go_simp
          try with_reducible rfl
        try simp only [Act.put]
        try simp only [List.setIfInBounds_toArray]
        try simp only [List.set_cons_succ]
        try simp only [List.set_cons_zero]
        refine wpAnyH_ready (rs := [12]) (by kernel_rfl) (by simp) ?_
        refine AllReadyH.cons rfl (fun K hK => ?_) AllReadyH.nil
        have q1 := HE.out.cell m2
        have q2 : W12x.frozen? ⟨mb, 2, none⟩ = false := frozen_blk (HE.out.block HBM.out) 2
        go_simp
        refine hK.out _ _ ?_ (fun hHeld2 => ?_)
        · exact keep2.out _ HE.out _
        clear hHeld hHeld2 hK K q1 q2
        try simp only [Act.put]
        try simp only [List.setIfInBounds_toArray]
        try simp only [List.set_cons_succ]
        try simp only [List.set_cons_zero]
        refine wpAnyH_done (by kernel_rfl) ?_ _
        refine noPanic_intro ?_
        go_wp2_with fail
        go_meet
        case rel => exact ⟨_, W12x, rfl, HE.out, HROW.out⟩
    · have hx : Ext W8x (W8x.alloc (.cells #[.int .i64 v, .int .i64 n, .int .i64 b, .int .i64 c'] 84)) := (Ext.refl _).alloc _
      have B9 := heap_alloc_new W8x (.cells #[.int .i64 v, .int .i64 n, .int .i64 b, .int .i64 c'] 84)
      have Z9 : W7.heap.size ≤ W8x.heap.size := HE.out.size
      replace HE := Lib.hid (HE.out.trans hx)
      go_simp
      refine hK.out _ _ ?_ (fun hHeld2 => ?_)
      · exact keep.out _ HE.out
      clear hHeld
      have hHeld := hHeld2
      clear hHeld2 hK K
      try simp only [Act.put]
      try simp only [List.setIfInBounds_toArray]
      try simp only [List.set_cons_succ]
      try simp only [List.set_cons_zero]
      clear hx
      generalize W8x.alloc (.cells #[.int .i64 v, .int .i64 n, .int .i64 b, .int .i64 c'] 84) = W9x at *
      generalize hn9 : W8x.heap.size = n9 at *
      clear hn9
      refine wpAnyH_ready (rs := [0, 2]) (by kernel_rfl) (by simp) ?_
      refine AllReadyH.cons rfl (fun K hK => ?_) (AllReadyH.cons rfl (fun K hK => ?_) AllReadyH.nil)
      · have hx : Ext W9x (W9x.alloc (.cells #[] 84)) := (Ext.refl _).alloc _
        have B0 := heap_alloc_new W9x (.cells #[] 84)
        have Z0 : W7.heap.size ≤ W9x.heap.size := HE.out.size
        have D90 : n9 ≠ W9x.heap.size := by have := (Array.getElem?_eq_some_iff.1 B9).1; omega
        replace B9 := hx.block B9
        replace HE := Lib.hid (HE.out.trans hx)
        go_simp
        refine hK.out _ _ ?_ (fun hHeld2 => ?_)
        · exact keep.out _ HE.out
        clear hHeld
        have hHeld := hHeld2
        clear hHeld2 hK K
        try simp only [Act.put]
        try simp only [List.setIfInBounds_toArray]
        try simp only [List.set_cons_succ]
        try simp only [List.set_cons_zero]
        clear hx
        generalize W9x.alloc (.cells #[] 84) = W10x at *
        generalize hn0 : W9x.heap.size = n0 at *
        clear hn0
        refine wpAnyH_ready (rs := [2]) (by kernel_rfl) (by simp) ?_
        refine AllReadyH.cons rfl (fun K hK => ?_) AllReadyH.nil
        have e5' := HE.out.cell m2
        go_simp
        clear e5'
        refine hK.out _ _ ?_ (fun hHeld2 => ?_)
        · exact keep.out _ HE.out
        clear hHeld
        have hHeld := hHeld2
        clear hHeld2 hK K
        try simp only [Act.put]
        try simp only [List.setIfInBounds_toArray]
        try simp only [List.set_cons_succ]
        try simp only [List.set_cons_zero]
        refine wpAnyH_ready (rs := [3]) (by kernel_rfl) (by simp) ?_
        refine AllReadyH.cons rfl (fun K hK => ?_) AllReadyH.nil
        have N9 := Lib.hid (Array.getElem?_eq_some_iff.1 B9).1
        refine wp_append_any _ _ _ 25 (by rfl) W7.heap.size 84 i0 (.agg #[.int .i64 0, .int .i64 0, .int .i64 0, .int .i64 0]) 4 32 Tryz.underlying25 hi hz0 hz1 hz2 rfl (by decide) (.slice (some ⟨n0, 0, none⟩) 0 0) 0 [] (by rfl) (own_empty B0 Z0 4) W10x.heap.size A L.length cp (slsV L) (by rfl) (HRD.out _ HE.out) (slsV_plain L) (by unfold maxLen; omega) (by omega) HE.out.size ?_
        intro v3 W11x O3 hg3 hv3
        have hE3 : Ext W7 W11x := grown_ext HE.out hg3 (fun g e => by simp [Value.ownBlock] at e; omega)
        replace B9 := grown_block hg3 B9 (by simp [Value.ownBlock]; omega)
        have D93 : ∀ g, v3.ownBlock = some g → g ≠ n9 := fun g e => by rcases hv3 with h | h <;> rw [h] at e <;> simp [Value.ownBlock] at e <;> (try have := (Array.getElem?_eq_some_iff.1 B9).1) <;> (try have := N9.out) <;> omega
        rw [Nat.zero_add, List.nil_append] at O3
        replace HE := Lib.hid hE3
        clear hg3 hv3 hE3
        refine hK.out _ _ ?_ (fun hHeld2 => ?_)
        · exact keep.out _ HE.out
        clear hHeld
        have hHeld := hHeld2
        clear hHeld2 hK K
        try simp only [Act.put]
        try simp only [List.setIfInBounds_toArray]
        try simp only [List.set_cons_succ]
        try simp only [List.set_cons_zero]
        refine wpAnyH_ready (rs := [10]) (by kernel_rfl) (by simp) ?_
        refine AllReadyH.cons rfl (fun K hK => ?_) AllReadyH.nil
        refine wp_append_any _ _ _ 25 (by rfl) W7.heap.size 84 i0 (.agg #[.int .i64 0, .int .i64 0, .int .i64 0, .int .i64 0]) 4 32 Tryz.underlying25 hi hz0 hz1 hz2 rfl (by decide) v3 L.length (slsV L) (by rfl) O3 W11x.heap.size (some ⟨n9, 0, none⟩) 1 1 [.int .i64 v, .int .i64 n, .int .i64 b, .int .i64 c'] (by rfl) (reads_one B9 rfl) (by simp [Value.oneCell']) (by unfold maxLen; omega) (by omega) HE.out.size ?_
        intro v4 W12x O4 hg4 hv4
        obtain ⟨A4, k4, rfl, _⟩ := own_shape O4
        have hE4 : Ext W7 W12x := grown_ext HE.out hg4 (fun g e => (O3.lt g e).1)
        have HROW : Hid (RowS W12x W7.heap.size (.slice A4 (L.length + 1) k4) (L ++ [⟨v, n, b, c'⟩])) := Lib.hid (by unfold RowS; rw [slsV_append, slsV_one, List.length_append]; exact O4)
        replace HE := Lib.hid hE4
        clear hg4 hv4 hE4 O4 O3 B9
        refine hK.out _ _ ?_ (fun hHeld2 => ?_)
        · exact keep.out _ HE.out
        clear hHeld
        have hHeld := hHeld2
        clear hHeld2 hK K
        try simp only [Act.put]
        try simp only [List.setIfInBounds_toArray]
        try simp only [List.set_cons_succ]
        try simp only [List.set_cons_zero]
        refine wpAnyH_take (i := 11) (v := ?_) rfl (by kernel_rfl) (by kernel_rfl) (by kernel_rfl) (fun _ _ _ h => h) (Or.inl ⟨by rfl, ?_⟩) (by assumption) ?_
        rotate_left
        · intro w hSw
          try dsimp only at hSw
          go_simp
          try with_reducible rfl
        try simp only [Act.put]
        try simp only [List.setIfInBounds_toArray]
        try simp only [List.set_cons_succ]
        try simp only [List.set_cons_zero]
        refine wpAnyH_ready (rs := [12]) (by kernel_rfl) (by simp) ?_
        refine AllReadyH.cons rfl (fun K hK => ?_) AllReadyH.nil
        have q1 := HE.out.cell m2
        have q2 : W12x.frozen? ⟨mb, 2, none⟩ = false := frozen_blk (HE.out.block HBM.out) 2
        go_simp
        refine hK.out _ _ ?_ (fun hHeld2 => ?_)
        · exact keep2.out _ HE.out _
        clear hHeld hHeld2 hK K q1 q2
        try simp only [Act.put]
        try simp only [List.setIfInBounds_toArray]
        try simp only [List.set_cons_succ]
        try simp only [List.set_cons_zero]
        refine wpAnyH_done (by kernel_rfl) ?_ _
        refine noPanic_intro ?_
        go_wp2_with fail
        go_meet
        case rel => exact ⟨_, W12x, rfl, HE.out, HROW.out⟩
      · have e5' := HE.out.cell m2
        go_simp
        clear e5'
        refine hK.out _ _ ?_ (fun hHeld2 => ?_)
        · exact keep.out _ HE.out
        clear hHeld
        have hHeld := hHeld2
        clear hHeld2 hK K
        try simp only [Act.put]
        try simp only [List.setIfInBounds_toArray]
        try simp only [List.set_cons_succ]
        try simp only [List.set_cons_zero]
        refine wpAnyH_ready (rs := [0]) (by kernel_rfl) (by simp) ?_
        refine AllReadyH.cons rfl (fun K hK => ?_) AllReadyH.nil
        have hx : Ext W9x (W9x.alloc (.cells #[] 84)) := (Ext.refl _).alloc _
        have B0 := heap_alloc_new W9x (.cells #[] 84)
        have Z0 : W7.heap.size ≤ W9x.heap.size := HE.out.size
        have D90 : n9 ≠ W9x.heap.size := by have := (Array.getElem?_eq_some_iff.1 B9).1; omega
        replace B9 := hx.block B9
        replace HE := Lib.hid (HE.out.trans hx)
        go_simp
        refine hK.out _ _ ?_ (fun hHeld2 => ?_)
        · exact keep.out _ HE.out
        clear hHeld
        have hHeld := hHeld2
        clear hHeld2 hK K
        try simp only [Act.put]
        try simp only [List.setIfInBounds_toArray]
        try simp only [List.set_cons_succ]
        try simp only [List.set_cons_zero]
        clear hx
        generalize W9x.alloc (.cells #[] 84) = W10x at *
        generalize hn0 : W9x.heap.size = n0 at *
        clear hn0
        refine wpAnyH_ready (rs := [3]) (by kernel_rfl) (by simp) ?_
        refine AllReadyH.cons rfl (fun K hK => ?_) AllReadyH.nil
        have N9 := Lib.hid (Array.getElem?_eq_some_iff.1 B9).1
        refine wp_append_any _ _ _ 25 (by rfl) W7.heap.size 84 i0 (.agg #[.int .i64 0, .int .i64 0, .int .i64 0, .int .i64 0]) 4 32 Tryz.underlying25 hi hz0 hz1 hz2 rfl (by decide) (.slice (some ⟨n0, 0, none⟩) 0 0) 0 [] (by rfl) (own_empty B0 Z0 4) W10x.heap.size A L.length cp (slsV L) (by rfl) (HRD.out _ HE.out) (slsV_plain L) (by unfold maxLen; omega) (by omega) HE.out.size ?_
        intro v3 W11x O3 hg3 hv3
        have hE3 : Ext W7 W11x := grown_ext HE.out hg3 (fun g e => by simp [Value.ownBlock] at e; omega)
        replace B9 := grown_block hg3 B9 (by simp [Value.ownBlock]; omega)
        have D93 : ∀ g, v3.ownBlock = some g → g ≠ n9 := fun g e => by rcases hv3 with h | h <;> rw [h] at e <;> simp [Value.ownBlock] at e <;> (try have := (Array.getElem?_eq_some_iff.1 B9).1) <;> (try have := N9.out) <;> omega
        rw [Nat.zero_add, List.nil_append] at O3
        replace HE := Lib.hid hE3
        clear hg3 hv3 hE3
        refine hK.out _ _ ?_ (fun hHeld2 => ?_)
        · exact keep.out _ HE.out
        clear hHeld
        have hHeld := hHeld2
        clear hHeld2 hK K
        try simp only [Act.put]
        try simp only [List.setIfInBounds_toArray]
        try simp only [List.set_cons_succ]
        try simp only [List.set_cons_zero]
        refine wpAnyH_ready (rs := [10]) (by kernel_rfl) (by simp) ?_
        refine AllReadyH.cons rfl (fun K hK => ?_) AllReadyH.nil
        refine wp_append_any _ _ _ 25 (by rfl) W7.heap.size 84 i0 (.agg #[.int .i64 0, .int .i64 0, .int .i64 0, .int .i64 0]) 4 32 Tryz.underlying25 hi hz0 hz1 hz2 rfl (by decide) v3 L.length (slsV L) (by rfl) O3 W11x.heap.size (some ⟨n9, 0, none⟩) 1 1 [.int .i64 v, .int .i64 n, .int .i64 b, .int .i64 c'] (by rfl) (reads_one B9 rfl) (by simp [Value.oneCell']) (by unfold maxLen; omega) (by omega) HE.out.size ?_
        intro v4 W12x O4 hg4 hv4
        obtain ⟨A4, k4, rfl, _⟩ := own_shape O4
        have hE4 : Ext W7 W12x := grown_ext HE.out hg4 (fun g e => (O3.lt g e).1)
        have HROW : Hid (RowS W12x W7.heap.size (.slice A4 (L.length + 1) k4) (L ++ [⟨v, n, b, c'⟩])) := Lib.hid (by unfold RowS; rw [slsV_append, slsV_one, List.length_append]; exact O4)
        replace HE := Lib.hid hE4
        clear hg4 hv4 hE4 O4 O3 B9
        refine hK.out _ _ ?_ (fun hHeld2 => ?_)
        · exact keep.out _ HE.out
        clear hHeld
        have hHeld := hHeld2
        clear hHeld2 hK K
        try simp only [Act.put]
        try simp only [List.setIfInBounds_toArray]
        try simp only [List.set_cons_succ]
        try simp only [List.set_cons_zero]
        refine wpAnyH_take (i := 11) (v := ?_) rfl (by kernel_rfl) (by kernel_rfl) (by kernel_rfl) (fun _ _ _ h => h) (Or.inl ⟨by rfl, ?_⟩) (by assumption) ?_
        rotate_left
        · intro w hSw
          try dsimp only at hSw
          go_simp
          try with_reducible rfl
        try simp only [Act.put]
        try simp only [List.setIfInBounds_toArray]
        try simp only [List.set_cons_succ]
        try simp only [List.set_cons_zero]
        refine wpAnyH_ready (rs := [12]) (by kernel_rfl) (by simp) ?_
        refine AllReadyH.cons rfl (fun K hK => ?_) AllReadyH.nil
        have q1 := HE.out.cell m2
        have q2 : W12x.frozen? ⟨mb, 2, none⟩ = false := frozen_blk (HE.out.block HBM.out) 2
        go_simp
        refine hK.out _ _ ?_ (fun hHeld2 => ?_)
        · exact keep2.out _ HE.out _
        clear hHeld hHeld2 hK K q1 q2
        try simp only [Act.put]
        try simp only [List.setIfInBounds_toArray]
        try simp only [List.set_cons_succ]
        try simp only [List.set_cons_zero]
        refine wpAnyH_done (by kernel_rfl) ?_ _
        refine noPanic_intro ?_
        go_wp2_with fail
        go_meet
        case rel => exact ⟨_, W12x, rfl, HE.out, HROW.out⟩

  case rest =>
    obtain ⟨v9, w9, rfl, hx9, hrow9⟩ := hcut
    obtain ⟨A9, k9, rfl, _⟩ := own_shape hrow9
    obtain ⟨n9, hn9⟩ : ∃ n9, (L ++ [(⟨v, n, b, c'⟩ : Sl)]).length = n9 := ⟨_, rfl⟩
    rw [hn9] at hrow9 ⊢
    clear hn9
    have bm9 := heap_setCell_same w9 mb 2 _ _ (.slice A9 n9 k9) (hx9.block HBM.out)
    have bz9 := (Below.heap_setCell w9 ⟨mb, 2, none⟩ (.slice A9 n9 k9) (mb + 1 + 1) (by show mb + 1 + 1 ≠ mb; omega)).trans (hx9.block HBZ.out)
    have HRW := Lib.hid (hrow9.set (hx9.block HBM.out) (by decide) 2 (.slice A9 n9 k9))
    have HXW := Lib.hid ((HX.out.trans hx9).setCell (p := ⟨mb, 2, none⟩) (by rw [hmb]; exact Nat.le_refl _) (.slice A9 n9 k9))
    clear keep keep2 HRD m2 hx9 hrow9 HR2 HBM HBN HBZ HX
    generalize w9.setCell ⟨mb, 2, none⟩ (.slice A9 n9 k9) = w10 at *
    replace bm9 : w10.heap[mb]? = some (.cells #[.int .i64 u, .int .i64 c', (.slice A9 n9 k9)] 27 (0, 0)) := bm9
    have m0 := cell_blk bm9 0 rfl
    have m1 := cell_blk bm9 1 rfl
    have m2 := cell_blk bm9 2 rfl
    have z0 := cell_blk bz9 0 rfl
    have z1 := cell_blk bz9 1 rfl
    have z2 := cell_blk bz9 2 rfl
    have y0 := frozen_blk bz9 0
    have y1 := frozen_blk bz9 1
    have y2 := frozen_blk bz9 2
    have hf3 := set3_cells bz9 (.int .i64 u) (.int .i64 c') (.slice A9 n9 k9)
    have HRF := Lib.hid (HRW.out.set3 bz9 (by decide) (.int .i64 u) (.int .i64 c') (.slice A9 n9 k9))
    have HXF := Lib.hid (HXW.out.set3 (b := mb + 1 + 1) (by omega) (.int .i64 u) (.int .i64 c') (.slice A9 n9 k9))
    clear bm9 bz9 HRW HXW
    go_wp2
    have k0 := cell_blk hf3 0 rfl
    have k1 := cell_blk hf3 1 rfl
    have k2 := cell_blk hf3 2 rfl
    refine bodyPost_ret (v := .tuple #[.agg #[.int .i64 u, .int .i64 c', (.slice A9 n9 k9)], .int .i64 0]) (by simp [results, Tryz.results22, go_sem, k0, k1, k2]) rfl ?_
    exact ⟨_, by rw [HCC.out], by rw [HCC.out]; exact HRF.out.less (by omega), HXF.out⟩
theorem rput_calls (u c : Int) (A : Option Addr) (cp N : Nat) (L : List Sl) (v n b : Int) (w : World) (h : RowS w N (.slice A L.length cp) L) (hN : N ≤ w.heap.size) (hl : L.length ≤ 1000) (hc0 : 0 ≤ c) (hc1 : c ≤ 1000) :
    Calls Tryz.prog 22 #[.agg #[.int .i64 u, .int .i64 c, .slice A L.length cp], .agg #[.int .i64 v, .int .i64 n], .int .i64 b] w (RPost w N u (putX u ⟨L, c⟩ v n b).1.c (putX u ⟨L, c⟩ v n b).1.L (.int .i64 (putX u ⟨L, c⟩ v n b).2)) := by
  by_cases hc : (0 ≤ v ∧ v ≤ 1099511627776) ∧ (0 ≤ n ∧ n ≤ 1099511627776) ∧ 1 ≤ b ∧ b ≤ u
  · cases hg : getS L v n with
    | some s =>
      have e : putX u ⟨L, c⟩ v n b = (⟨L, c⟩, 7) := by unfold putX; rw [if_pos hc, hg]
      rw [e]; exact rput_twice u c A cp N L v n b s w h hl hc hg
    | none =>
      have e : putX u ⟨L, c⟩ v n b = (putS ⟨L, c⟩ v n b, 0) := by unfold putX; rw [if_pos hc, hg]
      rw [e]; exact rput_new u c A cp N L v n b w h hN hl hc0 hc1 hc hg
  · have e : putX u ⟨L, c⟩ v n b = (⟨L, c⟩, 1) := by unfold putX; rw [if_neg hc]
    rw [e]; exact rput_no u c A cp N L v n b w h hc
end Go.Proofs.YtgcplndmhlideaaGreat
