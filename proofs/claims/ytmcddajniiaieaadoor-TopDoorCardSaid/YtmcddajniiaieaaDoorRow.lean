/- The contracts of row.push and row.pull. -/
import Derived.Test.YtmcddajniiaieaaDoorSeg
import Derived.Test.YtmcddajniiaieaaDoorProg
import Derived.BigRegion
import Derived.Deep.Cut
import Derived.IntWalk
namespace Go.Proofs.YtmcddajniiaieaaDoor
open Go.RowKit

theorem ne_of_ty {w : World} {a b : Nat} {cs ds : Array Value} {t u : TypeId} (h : w.heap[a]? = some (.cells cs t (0, 0))) (k : w.heap[b]? = some (.cells ds u (0, 0))) (hne : t ≠ u) : a ≠ b := fun e => by
  subst e
  rw [h] at k
  simp at k
  exact hne k.2
theorem blk_cell {w : World} {b : Nat} {cs : Array Value} {t : TypeId} (h : w.heap[b]? = some (.cells cs t (0, 0))) (i : Nat) {u : Value} (hi : cs[i]? = some u) : w.cell? ⟨b, i, none⟩ = some u := by rw [cell_of_row _ _ i _ _ _ h]; simpa using hi
theorem nd_split {A B : List Nd} {x : Nd} (h : ((A ++ x :: B).map Nd.b).Nodup) : (∀ z ∈ A, z.b ≠ x.b) ∧ (∀ z ∈ B, z.b ≠ x.b) ∧ (∀ z ∈ A, ∀ y ∈ B, z.b ≠ y.b) ∧ (A.map Nd.b).Nodup ∧ (B.map Nd.b).Nodup := by
  rw [List.map_append, List.map_cons, List.nodup_append, List.nodup_cons] at h
  obtain ⟨h1, ⟨h2, h3⟩, h4⟩ := h
  refine ⟨fun z hz => h4 _ (List.mem_map_of_mem hz) _ (List.mem_cons_self ..), fun z hz e => h2 (e ▸ List.mem_map_of_mem hz), fun z hz y hy => h4 _ (List.mem_map_of_mem hz) _ (List.mem_cons_of_mem _ (List.mem_map_of_mem hy)), h1, h3⟩
theorem blk_frozen {w : World} {b : Nat} {cs : Array Value} {t : TypeId} (h : w.heap[b]? = some (.cells cs t (0, 0))) (i : Nat) : w.frozen? ⟨b, i, none⟩ = false := by simp [World.frozen?, h]

def PushPost2 (w : World) (lb : Nat) (v0 v1 v5 v6 v7 : Value) (kp : Bool) (L : List Nd) (x : Nd) (e : Ending) (w' : World) : Prop :=
  e = .returned (.tuple #[]) ∧ w'.heap[lb]? = some (.cells #[v0, v1, .pointer (x.ptr), .pointer (hdP (L ++ [x]) none), .int .i64 (sumN (L ++ [x])), v5, v6, v7] 97 (0, 0)) ∧ Seg 108 w' kp none (L ++ [x]) none ∧ Ch (lb :: x.b :: L.map Nd.b) w w'
set_option maxHeartbeats 1000000 in
set_option maxRecDepth 100000 in
theorem push2_calls (lb : Nat) (v0 v1 v5 v6 v7 : Value) (kp : Bool) (L : List Nd) (x : Nd) (p q : Option Addr) (w : World) (hb : w.heap[lb]? = some (.cells #[v0, v1, .pointer (lsP L none), .pointer (hdP L none), .int .i64 (sumN L), v5, v6, v7] 97 (0, 0)))
    (hs : Seg 108 w kp none L none) (hx : x.At 108 w kp p q) (hn : ∀ y ∈ L, y.b ≠ x.b) (hd : (L.map Nd.b).Nodup) (hS : -9223372036854775808 ≤ sumN L + x.n ∧ sumN L + x.n ≤ 9223372036854775807) :
    Calls Tryd.prog 43 #[.pointer (some ⟨lb, 2, none⟩), .pointer x.ptr] w (PushPost2 w lb v0 v1 v5 v6 v7 kp L x) := by
  have hlx : lb ≠ x.b := ne_of_ty hb hx (by decide)
  have x0 : w.cell? ⟨x.b, 0, none⟩ = some (.int .i64 x.k) := blk_cell hx 0 rfl
  have x3 : w.cell? ⟨x.b, 3, none⟩ = some (.pointer p) := blk_cell hx 3 rfl
  have x4 : w.cell? ⟨x.b, 4, none⟩ = some (.pointer q) := blk_cell hx 4 rfl
  have fx : ∀ i, w.frozen? ⟨x.b, i, none⟩ = false := fun i => blk_frozen hx i
  have fl : ∀ i, w.frozen? ⟨lb, i, none⟩ = false := fun i => blk_frozen hb i
  have hxl : x.b ≠ lb := fun e => hlx e.symm
  have HB := Lib.hid hb
  have HX := Lib.hid hx
  have HS := Lib.hid hS
  rcases List.eq_nil_or_concat L with rfl | ⟨A, y, rfl⟩
  · have l0 : w.cell? ⟨lb, 2, none⟩ = some (.pointer none) := blk_cell hb 2 rfl
    have l1 : w.cell? ⟨lb, 3, none⟩ = some (.pointer none) := blk_cell hb 3 rfl
    clear hb hx hs hn hd hS
    unfold Nd.ptr
    go_enter Tryd.func43, Tryd.ntmps43
    go_wp2
    obtain ⟨W5, hW⟩ : ∃ W, ((((w.setCell ⟨x.b, 3, none⟩ (.pointer none)).setCell ⟨x.b, 4, none⟩ (.pointer none)).setCell ⟨lb, 3, none⟩ (.pointer (some ⟨x.b, 0, none⟩))).setCell ⟨lb, 2, none⟩ (.pointer (some ⟨x.b, 0, none⟩))) = W := ⟨_, rfl⟩
    rw [hW]
    have Bl : W5.heap[lb]? = some (.cells #[v0, v1, .pointer (some ⟨x.b, 0, none⟩), .pointer (some ⟨x.b, 0, none⟩), .int .i64 (sumN []), v5, v6, v7] 97 (0, 0)) := by rw [← hW]; simp [heap_set, stO, show w.heap[lb]? = _ from HB.out, hlx]
    have Bx : W5.heap[x.b]? = some (.cells #[.int .i64 x.k, .int .i64 x.n, .bool kp, .pointer none, .pointer none] 108 (0, 0)) := by rw [← hW]; simp [heap_set, stO, show w.heap[x.b]? = _ from HX.out, hxl]
    have HC := Lib.hid (show Ch (lb :: x.b :: List.map Nd.b []) w W5 by rw [← hW]; exact ((((Ch.refl _ _).set (by simp) _ _).set (by simp) _ _).set (by simp) _ _).set (by simp) _ _)
    clear hW
    have c2 : W5.cell? ⟨lb, 4, none⟩ = some (.int .i64 (sumN ([]))) := blk_cell Bl 4 rfl
    have c1 : W5.cell? ⟨x.b, 1, none⟩ = some (.int .i64 x.n) := blk_cell Bx 1 rfl
    have c3 : W5.frozen? ⟨lb, 4, none⟩ = false := blk_frozen Bl 4
    have hS := HS.out
    obtain ⟨s0, hs0⟩ : ∃ s, sumN ([]) = s := ⟨_, rfl⟩
    obtain ⟨n0, hn0⟩ : ∃ n, x.n = n := ⟨_, rfl⟩
    rw [hs0] at c2 hS
    rw [hn0] at c1 hS
    have hw : IntKind.i64.wrap (s0 + n0) = s0 + n0 := IntWalk.i64_in _ (by omega)
    have HBl := Lib.hid Bl
    have HW := Lib.hid (show Seg 108 W5 kp none [x] none from ⟨Bx, trivial⟩)
    have HSN := Lib.hid (show sumN ([] ++ [x]) = s0 + n0 by rw [← hs0, ← hn0]; simp only [List.nil_append, sumN_cons]; (try rw [show sumN [] = 0 from rfl]); omega)
    clear Bl Bx hs0 hn0
    go_region
    go_end0
    refine ⟨rfl, ?_, ?_, ?_⟩
    · show (W5.setCell ⟨lb, 4, none⟩ (.int .i64 (s0 + n0))).heap[lb]? = _
      rw [set_blk (show W5.heap[lb]? = _ from HBl.out), HSN.out]
      rfl
    · refine Seg.ext (w := W5.setCell ⟨lb, 4, none⟩ (.int .i64 (s0 + n0))) ?_ (Ext.refl _).drew
      refine Seg.far (S := [lb]) HW.out ((Ch.refl _ _).set (by simp) _ _) ?_
      intro z hz; simp at hz; subst hz; simpa using hxl
    · exact (HC.out.set (by simp) _ _).trans (Ch.of_ext (Ext.refl _).drew)
  · rw [List.concat_eq_append] at *
    have hyx : y.b ≠ x.b := hn y (by simp)
    obtain ⟨hsA, hy⟩ := (seg_snoc A y none none).1 hs
    have hyl : y.b ≠ lb := fun e => ne_of_ty hb hy (by decide) e.symm
    have hxy : x.b ≠ y.b := fun e => hyx e.symm
    have hly : lb ≠ y.b := fun e => hyl e.symm
    rw [lsP_snoc] at hb
    have l0 : w.cell? ⟨lb, 2, none⟩ = some (.pointer (some ⟨y.b, 0, none⟩)) := blk_cell hb 2 rfl
    have y3 : w.cell? ⟨y.b, 3, none⟩ = some (.pointer none) := blk_cell hy 3 rfl
    have fy : ∀ i, w.frozen? ⟨y.b, i, none⟩ = false := fun i => blk_frozen hy i
    have HY := Lib.hid hy
    have HSA := Lib.hid hsA
    have hAy : ∀ z ∈ A, z.b ≠ y.b := fun z hz e => by
      rw [List.map_append, List.nodup_append] at hd
      exact hd.2.2 z.b (List.mem_map_of_mem hz) y.b (by simp) e
    have hAx : ∀ z ∈ A, z.b ≠ x.b := fun z hz => hn z (by simp [hz])
    have hAl : ∀ z ∈ A, z.b ≠ lb := fun z hz e => by
      obtain ⟨p, q, hz⟩ := hsA.mem hz
      exact ne_of_ty hb hz (by decide) e.symm
    have HA := Lib.hid (And.intro hAy (And.intro hAx hAl))
    replace HB := Lib.hid hb
    clear hb hx hs hn hd hS hy hsA hAy hAx hAl
    unfold Nd.ptr
    go_enter Tryd.func43, Tryd.ntmps43
    go_wp2
    obtain ⟨W5, hW⟩ : ∃ W, ((((w.setCell ⟨x.b, 3, none⟩ (.pointer none)).setCell ⟨x.b, 4, none⟩ (.pointer (some ⟨y.b, 0, none⟩))).setCell ⟨y.b, 3, none⟩ (.pointer (some ⟨x.b, 0, none⟩))).setCell ⟨lb, 2, none⟩ (.pointer (some ⟨x.b, 0, none⟩))) = W := ⟨_, rfl⟩
    rw [hW]
    have Bl : W5.heap[lb]? = some (.cells #[v0, v1, .pointer (some ⟨x.b, 0, none⟩), .pointer (hdP (A ++ [y]) none), .int .i64 (sumN (A ++ [y])), v5, v6, v7] 97 (0, 0)) := by rw [← hW]; simp [heap_set, stO, show w.heap[lb]? = _ from HB.out, hlx, hly]
    have Bx : W5.heap[x.b]? = some (.cells #[.int .i64 x.k, .int .i64 x.n, .bool kp, .pointer none, .pointer (some ⟨y.b, 0, none⟩)] 108 (0, 0)) := by rw [← hW]; simp [heap_set, stO, show w.heap[x.b]? = _ from HX.out, hxl, hxy]
    have By : W5.heap[y.b]? = some (.cells #[.int .i64 y.k, .int .i64 y.n, .bool kp, .pointer (some ⟨x.b, 0, none⟩), .pointer (lsP A none)] 108 (0, 0)) := by rw [← hW]; simp [heap_set, stO, show w.heap[y.b]? = _ from HY.out, hyx, hyl]
    have HC := Lib.hid (show Ch (lb :: x.b :: List.map Nd.b (A ++ [y])) w W5 by rw [← hW]; exact ((((Ch.refl _ _).set (by simp) _ _).set (by simp) _ _).set (by simp) _ _).set (by simp) _ _)
    have hA5 : Seg 108 W5 kp none A y.ptr := HSA.out.keep fun z hz => by
      have h1 := HA.out.1 z hz
      have h2 := HA.out.2.1 z hz
      have h3 := HA.out.2.2 z hz
      rw [← hW]
      simp [heap_set, h1, h2, h3]
    have hsg : Seg 108 W5 kp none ((A ++ [y]) ++ [x]) none := (seg_snoc (A ++ [y]) x none none).2 ⟨(seg_snoc A y none _).2 ⟨hA5, By⟩, by rw [lsP_snoc]; exact Bx⟩
    clear By hA5
    clear hW
    have c2 : W5.cell? ⟨lb, 4, none⟩ = some (.int .i64 (sumN (A ++ [y]))) := blk_cell Bl 4 rfl
    have c1 : W5.cell? ⟨x.b, 1, none⟩ = some (.int .i64 x.n) := blk_cell Bx 1 rfl
    have c3 : W5.frozen? ⟨lb, 4, none⟩ = false := blk_frozen Bl 4
    have hS := HS.out
    obtain ⟨s0, hs0⟩ : ∃ s, sumN (A ++ [y]) = s := ⟨_, rfl⟩
    obtain ⟨n0, hn0⟩ : ∃ n, x.n = n := ⟨_, rfl⟩
    rw [hs0] at c2 hS
    rw [hn0] at c1 hS
    have hw : IntKind.i64.wrap (s0 + n0) = s0 + n0 := IntWalk.i64_in _ (by omega)
    have HBl := Lib.hid Bl
    have HW := Lib.hid hsg
    have HSN := Lib.hid (show sumN ((A ++ [y]) ++ [x]) = s0 + n0 by rw [← hs0, ← hn0]; simp only [sumN_append, sumN_cons]; (try rw [show sumN [] = 0 from rfl]); omega)
    clear Bl Bx hs0 hn0
    go_region
    go_end0
    refine ⟨rfl, ?_, ?_, ?_⟩
    · show (W5.setCell ⟨lb, 4, none⟩ (.int .i64 (s0 + n0))).heap[lb]? = _
      rw [set_blk (show W5.heap[lb]? = _ from HBl.out), HSN.out]
      simp only [List.setIfInBounds_toArray, List.set_cons_succ, List.set_cons_zero, hdP_append]; rfl
    · refine Seg.ext (w := W5.setCell ⟨lb, 4, none⟩ (.int .i64 (s0 + n0))) ?_ (Ext.refl _).drew
      refine Seg.far (S := [lb]) HW.out ((Ch.refl _ _).set (by simp) _ _) ?_
      intro z hz; simp at hz; rcases hz with hz | rfl | rfl
      · simpa using HA.out.2.2 z hz
      · simpa using hyl
      · simpa using hxl
    · exact (HC.out.set (by simp) _ _).trans (Ch.of_ext (Ext.refl _).drew)

def PushPost5 (w : World) (lb : Nat) (v0 v1 v2 v3 v4 : Value) (kp : Bool) (L : List Nd) (x : Nd) (e : Ending) (w' : World) : Prop :=
  e = .returned (.tuple #[]) ∧ w'.heap[lb]? = some (.cells #[v0, v1, v2, v3, v4, .pointer (x.ptr), .pointer (hdP (L ++ [x]) none), .int .i64 (sumN (L ++ [x]))] 97 (0, 0)) ∧ Seg 108 w' kp none (L ++ [x]) none ∧ Ch (lb :: x.b :: L.map Nd.b) w w'
set_option maxHeartbeats 1000000 in
set_option maxRecDepth 100000 in
theorem push5_calls (lb : Nat) (v0 v1 v2 v3 v4 : Value) (kp : Bool) (L : List Nd) (x : Nd) (p q : Option Addr) (w : World) (hb : w.heap[lb]? = some (.cells #[v0, v1, v2, v3, v4, .pointer (lsP L none), .pointer (hdP L none), .int .i64 (sumN L)] 97 (0, 0)))
    (hs : Seg 108 w kp none L none) (hx : x.At 108 w kp p q) (hn : ∀ y ∈ L, y.b ≠ x.b) (hd : (L.map Nd.b).Nodup) (hS : -9223372036854775808 ≤ sumN L + x.n ∧ sumN L + x.n ≤ 9223372036854775807) :
    Calls Tryd.prog 43 #[.pointer (some ⟨lb, 5, none⟩), .pointer x.ptr] w (PushPost5 w lb v0 v1 v2 v3 v4 kp L x) := by
  have hlx : lb ≠ x.b := ne_of_ty hb hx (by decide)
  have x0 : w.cell? ⟨x.b, 0, none⟩ = some (.int .i64 x.k) := blk_cell hx 0 rfl
  have x3 : w.cell? ⟨x.b, 3, none⟩ = some (.pointer p) := blk_cell hx 3 rfl
  have x4 : w.cell? ⟨x.b, 4, none⟩ = some (.pointer q) := blk_cell hx 4 rfl
  have fx : ∀ i, w.frozen? ⟨x.b, i, none⟩ = false := fun i => blk_frozen hx i
  have fl : ∀ i, w.frozen? ⟨lb, i, none⟩ = false := fun i => blk_frozen hb i
  have hxl : x.b ≠ lb := fun e => hlx e.symm
  have HB := Lib.hid hb
  have HX := Lib.hid hx
  have HS := Lib.hid hS
  rcases List.eq_nil_or_concat L with rfl | ⟨A, y, rfl⟩
  · have l0 : w.cell? ⟨lb, 5, none⟩ = some (.pointer none) := blk_cell hb 5 rfl
    have l1 : w.cell? ⟨lb, 6, none⟩ = some (.pointer none) := blk_cell hb 6 rfl
    clear hb hx hs hn hd hS
    unfold Nd.ptr
    go_enter Tryd.func43, Tryd.ntmps43
    go_wp2
    obtain ⟨W5, hW⟩ : ∃ W, ((((w.setCell ⟨x.b, 3, none⟩ (.pointer none)).setCell ⟨x.b, 4, none⟩ (.pointer none)).setCell ⟨lb, 6, none⟩ (.pointer (some ⟨x.b, 0, none⟩))).setCell ⟨lb, 5, none⟩ (.pointer (some ⟨x.b, 0, none⟩))) = W := ⟨_, rfl⟩
    rw [hW]
    have Bl : W5.heap[lb]? = some (.cells #[v0, v1, v2, v3, v4, .pointer (some ⟨x.b, 0, none⟩), .pointer (some ⟨x.b, 0, none⟩), .int .i64 (sumN [])] 97 (0, 0)) := by rw [← hW]; simp [heap_set, stO, show w.heap[lb]? = _ from HB.out, hlx]
    have Bx : W5.heap[x.b]? = some (.cells #[.int .i64 x.k, .int .i64 x.n, .bool kp, .pointer none, .pointer none] 108 (0, 0)) := by rw [← hW]; simp [heap_set, stO, show w.heap[x.b]? = _ from HX.out, hxl]
    have HC := Lib.hid (show Ch (lb :: x.b :: List.map Nd.b []) w W5 by rw [← hW]; exact ((((Ch.refl _ _).set (by simp) _ _).set (by simp) _ _).set (by simp) _ _).set (by simp) _ _)
    clear hW
    have c2 : W5.cell? ⟨lb, 7, none⟩ = some (.int .i64 (sumN ([]))) := blk_cell Bl 7 rfl
    have c1 : W5.cell? ⟨x.b, 1, none⟩ = some (.int .i64 x.n) := blk_cell Bx 1 rfl
    have c3 : W5.frozen? ⟨lb, 7, none⟩ = false := blk_frozen Bl 7
    have hS := HS.out
    obtain ⟨s0, hs0⟩ : ∃ s, sumN ([]) = s := ⟨_, rfl⟩
    obtain ⟨n0, hn0⟩ : ∃ n, x.n = n := ⟨_, rfl⟩
    rw [hs0] at c2 hS
    rw [hn0] at c1 hS
    have hw : IntKind.i64.wrap (s0 + n0) = s0 + n0 := IntWalk.i64_in _ (by omega)
    have HBl := Lib.hid Bl
    have HW := Lib.hid (show Seg 108 W5 kp none [x] none from ⟨Bx, trivial⟩)
    have HSN := Lib.hid (show sumN ([] ++ [x]) = s0 + n0 by rw [← hs0, ← hn0]; simp only [List.nil_append, sumN_cons]; (try rw [show sumN [] = 0 from rfl]); omega)
    clear Bl Bx hs0 hn0
    go_region
    go_end0
    refine ⟨rfl, ?_, ?_, ?_⟩
    · show (W5.setCell ⟨lb, 7, none⟩ (.int .i64 (s0 + n0))).heap[lb]? = _
      rw [set_blk (show W5.heap[lb]? = _ from HBl.out), HSN.out]
      rfl
    · refine Seg.ext (w := W5.setCell ⟨lb, 7, none⟩ (.int .i64 (s0 + n0))) ?_ (Ext.refl _).drew
      refine Seg.far (S := [lb]) HW.out ((Ch.refl _ _).set (by simp) _ _) ?_
      intro z hz; simp at hz; subst hz; simpa using hxl
    · exact (HC.out.set (by simp) _ _).trans (Ch.of_ext (Ext.refl _).drew)
  · rw [List.concat_eq_append] at *
    have hyx : y.b ≠ x.b := hn y (by simp)
    obtain ⟨hsA, hy⟩ := (seg_snoc A y none none).1 hs
    have hyl : y.b ≠ lb := fun e => ne_of_ty hb hy (by decide) e.symm
    have hxy : x.b ≠ y.b := fun e => hyx e.symm
    have hly : lb ≠ y.b := fun e => hyl e.symm
    rw [lsP_snoc] at hb
    have l0 : w.cell? ⟨lb, 5, none⟩ = some (.pointer (some ⟨y.b, 0, none⟩)) := blk_cell hb 5 rfl
    have y3 : w.cell? ⟨y.b, 3, none⟩ = some (.pointer none) := blk_cell hy 3 rfl
    have fy : ∀ i, w.frozen? ⟨y.b, i, none⟩ = false := fun i => blk_frozen hy i
    have HY := Lib.hid hy
    have HSA := Lib.hid hsA
    have hAy : ∀ z ∈ A, z.b ≠ y.b := fun z hz e => by
      rw [List.map_append, List.nodup_append] at hd
      exact hd.2.2 z.b (List.mem_map_of_mem hz) y.b (by simp) e
    have hAx : ∀ z ∈ A, z.b ≠ x.b := fun z hz => hn z (by simp [hz])
    have hAl : ∀ z ∈ A, z.b ≠ lb := fun z hz e => by
      obtain ⟨p, q, hz⟩ := hsA.mem hz
      exact ne_of_ty hb hz (by decide) e.symm
    have HA := Lib.hid (And.intro hAy (And.intro hAx hAl))
    replace HB := Lib.hid hb
    clear hb hx hs hn hd hS hy hsA hAy hAx hAl
    unfold Nd.ptr
    go_enter Tryd.func43, Tryd.ntmps43
    go_wp2
    obtain ⟨W5, hW⟩ : ∃ W, ((((w.setCell ⟨x.b, 3, none⟩ (.pointer none)).setCell ⟨x.b, 4, none⟩ (.pointer (some ⟨y.b, 0, none⟩))).setCell ⟨y.b, 3, none⟩ (.pointer (some ⟨x.b, 0, none⟩))).setCell ⟨lb, 5, none⟩ (.pointer (some ⟨x.b, 0, none⟩))) = W := ⟨_, rfl⟩
    rw [hW]
    have Bl : W5.heap[lb]? = some (.cells #[v0, v1, v2, v3, v4, .pointer (some ⟨x.b, 0, none⟩), .pointer (hdP (A ++ [y]) none), .int .i64 (sumN (A ++ [y]))] 97 (0, 0)) := by rw [← hW]; simp [heap_set, stO, show w.heap[lb]? = _ from HB.out, hlx, hly]
    have Bx : W5.heap[x.b]? = some (.cells #[.int .i64 x.k, .int .i64 x.n, .bool kp, .pointer none, .pointer (some ⟨y.b, 0, none⟩)] 108 (0, 0)) := by rw [← hW]; simp [heap_set, stO, show w.heap[x.b]? = _ from HX.out, hxl, hxy]
    have By : W5.heap[y.b]? = some (.cells #[.int .i64 y.k, .int .i64 y.n, .bool kp, .pointer (some ⟨x.b, 0, none⟩), .pointer (lsP A none)] 108 (0, 0)) := by rw [← hW]; simp [heap_set, stO, show w.heap[y.b]? = _ from HY.out, hyx, hyl]
    have HC := Lib.hid (show Ch (lb :: x.b :: List.map Nd.b (A ++ [y])) w W5 by rw [← hW]; exact ((((Ch.refl _ _).set (by simp) _ _).set (by simp) _ _).set (by simp) _ _).set (by simp) _ _)
    have hA5 : Seg 108 W5 kp none A y.ptr := HSA.out.keep fun z hz => by
      have h1 := HA.out.1 z hz
      have h2 := HA.out.2.1 z hz
      have h3 := HA.out.2.2 z hz
      rw [← hW]
      simp [heap_set, h1, h2, h3]
    have hsg : Seg 108 W5 kp none ((A ++ [y]) ++ [x]) none := (seg_snoc (A ++ [y]) x none none).2 ⟨(seg_snoc A y none _).2 ⟨hA5, By⟩, by rw [lsP_snoc]; exact Bx⟩
    clear By hA5
    clear hW
    have c2 : W5.cell? ⟨lb, 7, none⟩ = some (.int .i64 (sumN (A ++ [y]))) := blk_cell Bl 7 rfl
    have c1 : W5.cell? ⟨x.b, 1, none⟩ = some (.int .i64 x.n) := blk_cell Bx 1 rfl
    have c3 : W5.frozen? ⟨lb, 7, none⟩ = false := blk_frozen Bl 7
    have hS := HS.out
    obtain ⟨s0, hs0⟩ : ∃ s, sumN (A ++ [y]) = s := ⟨_, rfl⟩
    obtain ⟨n0, hn0⟩ : ∃ n, x.n = n := ⟨_, rfl⟩
    rw [hs0] at c2 hS
    rw [hn0] at c1 hS
    have hw : IntKind.i64.wrap (s0 + n0) = s0 + n0 := IntWalk.i64_in _ (by omega)
    have HBl := Lib.hid Bl
    have HW := Lib.hid hsg
    have HSN := Lib.hid (show sumN ((A ++ [y]) ++ [x]) = s0 + n0 by rw [← hs0, ← hn0]; simp only [sumN_append, sumN_cons]; (try rw [show sumN [] = 0 from rfl]); omega)
    clear Bl Bx hs0 hn0
    go_region
    go_end0
    refine ⟨rfl, ?_, ?_, ?_⟩
    · show (W5.setCell ⟨lb, 7, none⟩ (.int .i64 (s0 + n0))).heap[lb]? = _
      rw [set_blk (show W5.heap[lb]? = _ from HBl.out), HSN.out]
      simp only [List.setIfInBounds_toArray, List.set_cons_succ, List.set_cons_zero, hdP_append]; rfl
    · refine Seg.ext (w := W5.setCell ⟨lb, 7, none⟩ (.int .i64 (s0 + n0))) ?_ (Ext.refl _).drew
      refine Seg.far (S := [lb]) HW.out ((Ch.refl _ _).set (by simp) _ _) ?_
      intro z hz; simp at hz; rcases hz with hz | rfl | rfl
      · simpa using HA.out.2.2 z hz
      · simpa using hyl
      · simpa using hxl
    · exact (HC.out.set (by simp) _ _).trans (Ch.of_ext (Ext.refl _).drew)

def PullPost2 (w : World) (lb : Nat) (v0 v1 v5 v6 v7 : Value) (kp : Bool) (L : List Nd) (e : Ending) (w' : World) : Prop :=
  e = .returned (.tuple #[]) ∧ w'.heap[lb]? = some (.cells #[v0, v1, .pointer (lsP L none), .pointer (hdP L none), .int .i64 (sumN L), v5, v6, v7] 97 (0, 0)) ∧ Seg 108 w' kp none L none ∧ Ch (lb :: L.map Nd.b) w w'
set_option maxHeartbeats 4000000 in
set_option maxRecDepth 100000 in
theorem pull2_calls (lb : Nat) (v0 v1 v5 v6 v7 : Value) (kp : Bool) (A B : List Nd) (x : Nd) (w : World) (hb : w.heap[lb]? = some (.cells #[v0, v1, .pointer (lsP (A ++ x :: B) none), .pointer (hdP (A ++ x :: B) none), .int .i64 (sumN (A ++ x :: B)), v5, v6, v7] 97 (0, 0)))
    (hs : Seg 108 w kp none (A ++ x :: B) none) (hn : ((A ++ x :: B).map Nd.b).Nodup) (hS : -9223372036854775808 ≤ sumN (A ++ x :: B) - x.n ∧ sumN (A ++ x :: B) - x.n ≤ 9223372036854775807) :
    Calls Tryd.prog 42 #[.pointer (some ⟨lb, 2, none⟩), .pointer x.ptr] w (PullPost2 w lb v0 v1 v5 v6 v7 kp (A ++ B)) := by
  rcases List.eq_nil_or_concat A with rfl | ⟨A, y, rfl⟩
  · cases B with
    | nil =>
      obtain ⟨hsA, hx, hsB⟩ := (show _ ∧ _ ∧ _ from (seg_append ([]) (x :: []) none none).1 hs)
      obtain ⟨hAx, hBx, hAB, hnA, hnB⟩ := nd_split hn
      have hlx : lb ≠ x.b := ne_of_ty hb hx (by decide)
      have hxl : x.b ≠ lb := fun e => hlx e.symm
      replace hx : x.At 108 w kp (none) (none) := by exact hx
      have HB := Lib.hid hb
      have HX := Lib.hid hx
      have HS := Lib.hid hS
      have x3 : w.cell? ⟨x.b, 3, none⟩ = some (.pointer (none)) := blk_cell hx 3 rfl
      have x4 : w.cell? ⟨x.b, 4, none⟩ = some (.pointer (none)) := blk_cell hx 4 rfl
      have fl : ∀ i, w.frozen? ⟨lb, i, none⟩ = false := fun i => blk_frozen hb i
      have l0 : w.cell? ⟨lb, 2, none⟩ = some (.pointer (lsP (([]) ++ x :: []) none)) := blk_cell hb 2 rfl
      obtain ⟨FP, hFP⟩ : ∃ F, lsP (([]) ++ x :: []) none = F := ⟨_, rfl⟩
      obtain ⟨BP, hBP⟩ : ∃ F, hdP (([]) ++ x :: []) none = F := ⟨_, rfl⟩
      have HFP := Lib.hid hFP
      have HBP := Lib.hid hBP
      rw [hFP, hBP] at HB
      rw [hFP] at l0
      clear hb hx hs hn hS hsA hsB hAx hBx hAB hnA hnB hFP hBP
      unfold Nd.ptr
      go_enter Tryd.func42, Tryd.ntmps42
      go_upto_region 3 with (fail)
      obtain ⟨W1, hW1⟩ : ∃ W, (w.setCell ⟨lb, 2, none⟩ (.pointer (none))) = W := ⟨_, rfl⟩
      rw [hW1]
      have Bl : W1.heap[lb]? = some (.cells #[v0, v1, .pointer (none), .pointer (BP), .int .i64 (sumN (([]) ++ x :: [])), v5, v6, v7] 97 (0, 0)) := by rw [← hW1]; show (w.setCell ⟨lb, 2, none⟩ (.pointer (none))).heap[lb]? = _; simp [heap_set, stO, show w.heap[lb]? = _ from HB.out]
      have Bx : W1.heap[x.b]? = some (.cells #[.int .i64 x.k, .int .i64 x.n, .bool kp, .pointer (none), .pointer (none)] 108 (0, 0)) := by rw [← hW1]; show (w.setCell ⟨lb, 2, none⟩ (.pointer (none))).heap[x.b]? = _; simp [heap_set, show w.heap[x.b]? = _ from HX.out, hxl]
      have HC1 := Lib.hid (show Ch (lb :: List.map Nd.b (([]) ++ [])) w W1 by rw [← hW1]; exact (Ch.refl _ _).set (by simp) _ _)
      have HB1 := Lib.hid Bl
      have HX1 := Lib.hid Bx
      have x3' : W1.cell? ⟨x.b, 3, none⟩ = some (.pointer (none)) := blk_cell Bx 3 rfl
      have x4' : W1.cell? ⟨x.b, 4, none⟩ = some (.pointer (none)) := blk_cell Bx 4 rfl
      have fl' : ∀ i, W1.frozen? ⟨lb, i, none⟩ = false := fun i => blk_frozen Bl i
      have l1' : W1.cell? ⟨lb, 3, none⟩ = some (.pointer BP) := blk_cell Bl 3 rfl
      clear hW1 x3 x4 fl Bl Bx l0
      go_upto_region 6 with (fail)
      obtain ⟨W5, hW⟩ : ∃ W, (W1.setCell ⟨lb, 3, none⟩ (.pointer (none))) = W := ⟨_, rfl⟩
      rw [hW]
      have hW5 := hW
      have Bl : W5.heap[lb]? = some (.cells #[v0, v1, .pointer (none), .pointer (none), .int .i64 (sumN (([]) ++ x :: [])), v5, v6, v7] 97 (0, 0)) := by rw [← hW5]; show (W1.setCell ⟨lb, 3, none⟩ (.pointer (none))).heap[lb]? = _; simp [heap_set, stO, show W1.heap[lb]? = _ from HB1.out]
      have Bx : W5.heap[x.b]? = some (.cells #[.int .i64 x.k, .int .i64 x.n, .bool kp, .pointer (none), .pointer (none)] 108 (0, 0)) := by rw [← hW5]; show (W1.setCell ⟨lb, 3, none⟩ (.pointer (none))).heap[x.b]? = _; simp [heap_set, show W1.heap[x.b]? = _ from HX1.out, hxl]
      have HC := Lib.hid (show Ch (lb :: List.map Nd.b (([]) ++ [])) w W5 by rw [← hW5]; exact HC1.out.set (by simp) _ _)
      have hsg : Seg 108 W5 kp none (([]) ++ []) none := trivial
      clear hW5 x3' x4' fl' l1' HB1 HX1 HC1
      clear hW
      have c2 : W5.cell? ⟨lb, 4, none⟩ = some (.int .i64 (sumN (([]) ++ x :: []))) := blk_cell Bl 4 rfl
      have c1 : W5.cell? ⟨x.b, 1, none⟩ = some (.int .i64 x.n) := blk_cell Bx 1 rfl
      have c3 : W5.frozen? ⟨lb, 4, none⟩ = false := blk_frozen Bl 4
      have hS := HS.out
      obtain ⟨s0, hs0⟩ : ∃ s, sumN (([]) ++ x :: []) = s := ⟨_, rfl⟩
      obtain ⟨n0, hn0⟩ : ∃ n, x.n = n := ⟨_, rfl⟩
      rw [hs0] at c2 hS
      rw [hn0] at c1 hS
      have hw : IntKind.i64.wrap (s0 - n0) = s0 - n0 := IntWalk.i64_in _ (by omega)
      have HBl := Lib.hid Bl
      have HW := Lib.hid hsg
      have HSN := Lib.hid (show sumN (([]) ++ []) = s0 - n0 by rw [← hs0, ← hn0]; simp only [List.nil_append, List.append_nil, sumN_cons]; (try rw [show sumN [] = 0 from rfl]); omega)
      clear Bl Bx hs0 hn0
      go_region
      go_end0
      refine ⟨rfl, ?_, ?_, ?_⟩
      · have e1 : lsP (([]) ++ []) none = none := rfl
        have e2 : hdP (([]) ++ []) none = none := rfl
        show (W5.setCell ⟨lb, 4, none⟩ (.int .i64 (s0 - n0))).heap[lb]? = some (.cells #[v0, v1, .pointer (lsP (([]) ++ []) none), .pointer (hdP (([]) ++ []) none), .int .i64 (sumN (([]) ++ [])), v5, v6, v7] 97 (0, 0))
        rw [e1, e2, HSN.out, set_blk (show W5.heap[lb]? = _ from HBl.out)]
        rfl
      · refine Seg.ext (w := W5.setCell ⟨lb, 4, none⟩ (.int .i64 (s0 - n0))) ?_ (Ext.refl _).drew
        refine Seg.far (S := [lb]) HW.out ((Ch.refl _ _).set (by simp) _ _) ?_
        intro u hu; simp at hu
      · exact (HC.out.set (by simp) _ _).trans (Ch.of_ext (Ext.refl _).drew)
    | cons z D =>
      obtain ⟨hsA, hx, hsB⟩ := (show _ ∧ _ ∧ _ from (seg_append ([]) (x :: (z :: D)) none none).1 hs)
      obtain ⟨hAx, hBx, hAB, hnA, hnB⟩ := nd_split hn
      have hlx : lb ≠ x.b := ne_of_ty hb hx (by decide)
      have hxl : x.b ≠ lb := fun e => hlx e.symm
      replace hx : x.At 108 w kp (some ⟨z.b, 0, none⟩) (none) := by exact hx
      have hzx : z.b ≠ x.b := hBx z (by simp)
      have hxz : x.b ≠ z.b := fun e => hzx e.symm
      obtain ⟨hz, hsD⟩ := (show _ ∧ _ from hsB)
      obtain ⟨-, hDz, -, -, -⟩ := nd_split (A := []) (x := z) (B := D) hnB
      have hlz : lb ≠ z.b := ne_of_ty hb hz (by decide)
      have hzl : z.b ≠ lb := fun e => hlz e.symm
      have hDx : ∀ u ∈ D, u.b ≠ x.b := fun u hu => hBx u (by simp [hu])
      have hDl : ∀ u ∈ D, u.b ≠ lb := fun u hu e => by
        obtain ⟨p, q, hu⟩ := hsD.mem hu
        exact ne_of_ty hb hu (by decide) e.symm
      have HZ := Lib.hid hz
      have HSD := Lib.hid hsD
      have HD := Lib.hid (And.intro hDz (And.intro hDx hDl))
      have HB := Lib.hid hb
      have HX := Lib.hid hx
      have HS := Lib.hid hS
      have x3 : w.cell? ⟨x.b, 3, none⟩ = some (.pointer (some ⟨z.b, 0, none⟩)) := blk_cell hx 3 rfl
      have x4 : w.cell? ⟨x.b, 4, none⟩ = some (.pointer (none)) := blk_cell hx 4 rfl
      have fl : ∀ i, w.frozen? ⟨lb, i, none⟩ = false := fun i => blk_frozen hb i
      have fz : ∀ i, w.frozen? ⟨z.b, i, none⟩ = false := fun i => blk_frozen hz i
      have z4 : w.cell? ⟨z.b, 4, none⟩ = some (.pointer x.ptr) := blk_cell hz 4 rfl
      obtain ⟨FP, hFP⟩ : ∃ F, lsP (([]) ++ x :: (z :: D)) none = F := ⟨_, rfl⟩
      obtain ⟨BP, hBP⟩ : ∃ F, hdP (([]) ++ x :: (z :: D)) none = F := ⟨_, rfl⟩
      have HFP := Lib.hid hFP
      have HBP := Lib.hid hBP
      rw [hFP, hBP] at HB
      clear hb hx hs hn hS hsA hsB hAx hBx hAB hnA hnB hFP hBP hz hsD hDz hDx hDl
      unfold Nd.ptr
      go_enter Tryd.func42, Tryd.ntmps42
      go_upto_region 2 with (fail)
      go_region
      obtain ⟨W1, hW1⟩ : ∃ W, (w.setCell ⟨z.b, 4, none⟩ (.pointer (none))).drew = W := ⟨_, rfl⟩
      rw [hW1]
      have Bl : W1.heap[lb]? = some (.cells #[v0, v1, .pointer (FP), .pointer (BP), .int .i64 (sumN (([]) ++ x :: (z :: D))), v5, v6, v7] 97 (0, 0)) := by rw [← hW1]; show (w.setCell ⟨z.b, 4, none⟩ (.pointer (none))).heap[lb]? = _; simp [heap_set, show w.heap[lb]? = _ from HB.out, hlz]
      have Bx : W1.heap[x.b]? = some (.cells #[.int .i64 x.k, .int .i64 x.n, .bool kp, .pointer (some ⟨z.b, 0, none⟩), .pointer (none)] 108 (0, 0)) := by rw [← hW1]; show (w.setCell ⟨z.b, 4, none⟩ (.pointer (none))).heap[x.b]? = _; simp [heap_set, show w.heap[x.b]? = _ from HX.out, hxz]
      have Bz : W1.heap[z.b]? = some (.cells #[.int .i64 z.k, .int .i64 z.n, .bool kp, .pointer (hdP D none), .pointer (none)] 108 (0, 0)) := by rw [← hW1]; show (w.setCell ⟨z.b, 4, none⟩ (.pointer (none))).heap[z.b]? = _; simp [heap_set, stO, show w.heap[z.b]? = _ from HZ.out]
      have HC1 := Lib.hid (show Ch (lb :: List.map Nd.b (([]) ++ (z :: D))) w W1 by rw [← hW1]; exact ((Ch.refl _ _).set (by simp) _ _).trans (Ch.of_ext (Ext.refl _).drew))
      have HSD1 := Lib.hid (show Seg 108 W1 kp z.ptr D none from HSD.out.keep fun u hu => by
        have h1 := HD.out.1 u hu
        have h2 := HD.out.2.1 u hu
        have h3 := HD.out.2.2 u hu
        rw [← hW1]
        show (w.setCell ⟨z.b, 4, none⟩ (.pointer (none))).heap[u.b]? = _
        simp [heap_set, h1])
      have HB1 := Lib.hid Bl
      have HX1 := Lib.hid Bx
      have x3' : W1.cell? ⟨x.b, 3, none⟩ = some (.pointer (some ⟨z.b, 0, none⟩)) := blk_cell Bx 3 rfl
      have x4' : W1.cell? ⟨x.b, 4, none⟩ = some (.pointer (none)) := blk_cell Bx 4 rfl
      have fl' : ∀ i, W1.frozen? ⟨lb, i, none⟩ = false := fun i => blk_frozen Bl i
      have l1' : W1.cell? ⟨lb, 3, none⟩ = some (.pointer BP) := blk_cell Bl 3 rfl
      have HZ1 := Lib.hid Bz
      clear hW1 x3 x4 fl Bl Bx Bz fz z4
      go_upto_region 6 with (fail)
      obtain ⟨W5, hW⟩ : ∃ W, (W1.setCell ⟨lb, 3, none⟩ (.pointer (some ⟨z.b, 0, none⟩))) = W := ⟨_, rfl⟩
      rw [hW]
      have hW5 := hW
      have Bl : W5.heap[lb]? = some (.cells #[v0, v1, .pointer (FP), .pointer (some ⟨z.b, 0, none⟩), .int .i64 (sumN (([]) ++ x :: (z :: D))), v5, v6, v7] 97 (0, 0)) := by rw [← hW5]; show (W1.setCell ⟨lb, 3, none⟩ (.pointer (some ⟨z.b, 0, none⟩))).heap[lb]? = _; simp [heap_set, stO, show W1.heap[lb]? = _ from HB1.out]
      have Bx : W5.heap[x.b]? = some (.cells #[.int .i64 x.k, .int .i64 x.n, .bool kp, .pointer (some ⟨z.b, 0, none⟩), .pointer (none)] 108 (0, 0)) := by rw [← hW5]; show (W1.setCell ⟨lb, 3, none⟩ (.pointer (some ⟨z.b, 0, none⟩))).heap[x.b]? = _; simp [heap_set, show W1.heap[x.b]? = _ from HX1.out, hxl]
      have Bz : W5.heap[z.b]? = some (.cells #[.int .i64 z.k, .int .i64 z.n, .bool kp, .pointer (hdP D none), .pointer (none)] 108 (0, 0)) := by rw [← hW5]; show (W1.setCell ⟨lb, 3, none⟩ (.pointer (some ⟨z.b, 0, none⟩))).heap[z.b]? = _; simp [heap_set, show W1.heap[z.b]? = _ from HZ1.out, hzl]
      have HC := Lib.hid (show Ch (lb :: List.map Nd.b (([]) ++ (z :: D))) w W5 by rw [← hW5]; exact HC1.out.set (by simp) _ _)
      have hD5 : Seg 108 W5 kp z.ptr D none := HSD1.out.keep fun u hu => by
        have h1 := HD.out.1 u hu
        have h2 := HD.out.2.1 u hu
        have h3 := HD.out.2.2 u hu
        rw [← hW5]
        show (W1.setCell ⟨lb, 3, none⟩ (.pointer (some ⟨z.b, 0, none⟩))).heap[u.b]? = _
        simp [heap_set, h3]
      have hsg : Seg 108 W5 kp none (([]) ++ (z :: D)) none := ⟨Bz, hD5⟩
      clear hW5 Bz hD5 x3' x4' fl' l1' HB1 HX1 HC1
      clear hW
      have c2 : W5.cell? ⟨lb, 4, none⟩ = some (.int .i64 (sumN (([]) ++ x :: (z :: D)))) := blk_cell Bl 4 rfl
      have c1 : W5.cell? ⟨x.b, 1, none⟩ = some (.int .i64 x.n) := blk_cell Bx 1 rfl
      have c3 : W5.frozen? ⟨lb, 4, none⟩ = false := blk_frozen Bl 4
      have hS := HS.out
      obtain ⟨s0, hs0⟩ : ∃ s, sumN (([]) ++ x :: (z :: D)) = s := ⟨_, rfl⟩
      obtain ⟨n0, hn0⟩ : ∃ n, x.n = n := ⟨_, rfl⟩
      rw [hs0] at c2 hS
      rw [hn0] at c1 hS
      have hw : IntKind.i64.wrap (s0 - n0) = s0 - n0 := IntWalk.i64_in _ (by omega)
      have HBl := Lib.hid Bl
      have HW := Lib.hid hsg
      have HSN := Lib.hid (show sumN (([]) ++ (z :: D)) = s0 - n0 by rw [← hs0, ← hn0]; simp only [List.nil_append, sumN_cons]; (try rw [show sumN [] = 0 from rfl]); omega)
      clear Bl Bx hs0 hn0
      go_region
      go_end0
      refine ⟨rfl, ?_, ?_, ?_⟩
      · have e1 : lsP (([]) ++ (z :: D)) none = FP := HFP.out
        have e2 : hdP (([]) ++ (z :: D)) none = some ⟨z.b, 0, none⟩ := rfl
        show (W5.setCell ⟨lb, 4, none⟩ (.int .i64 (s0 - n0))).heap[lb]? = some (.cells #[v0, v1, .pointer (lsP (([]) ++ (z :: D)) none), .pointer (hdP (([]) ++ (z :: D)) none), .int .i64 (sumN (([]) ++ (z :: D))), v5, v6, v7] 97 (0, 0))
        rw [e1, e2, HSN.out, set_blk (show W5.heap[lb]? = _ from HBl.out)]
        rfl
      · refine Seg.ext (w := W5.setCell ⟨lb, 4, none⟩ (.int .i64 (s0 - n0))) ?_ (Ext.refl _).drew
        refine Seg.far (S := [lb]) HW.out ((Ch.refl _ _).set (by simp) _ _) ?_
        intro u hu
        simp only [List.mem_cons] at hu
        rcases hu with rfl | hu
        · simpa using hzl
        · simpa using HD.out.2.2 u hu
      · exact (HC.out.set (by simp) _ _).trans (Ch.of_ext (Ext.refl _).drew)
  · rw [List.concat_eq_append] at *
    cases B with
    | nil =>
      obtain ⟨hsA, hx, hsB⟩ := (show _ ∧ _ ∧ _ from (seg_append (A ++ [y]) (x :: []) none none).1 hs)
      obtain ⟨hAx, hBx, hAB, hnA, hnB⟩ := nd_split hn
      have hlx : lb ≠ x.b := ne_of_ty hb hx (by decide)
      have hxl : x.b ≠ lb := fun e => hlx e.symm
      replace hx : x.At 108 w kp (none) (some ⟨y.b, 0, none⟩) := by rw [lsP_snoc] at hx; exact hx
      have hyx : y.b ≠ x.b := hAx y (by simp)
      have hxy : x.b ≠ y.b := fun e => hyx e.symm
      obtain ⟨hsA2, hy⟩ := (seg_snoc A y none _).1 hsA
      replace hy : y.At 108 w kp (some ⟨x.b, 0, none⟩) (lsP A none) := hy
      obtain ⟨hAy, -, -, -, -⟩ := nd_split (A := A) (x := y) (B := []) hnA
      have hly : lb ≠ y.b := ne_of_ty hb hy (by decide)
      have hyl : y.b ≠ lb := fun e => hly e.symm
      have hA2x : ∀ u ∈ A, u.b ≠ x.b := fun u hu => hAx u (by simp [hu])
      have hA2l : ∀ u ∈ A, u.b ≠ lb := fun u hu e => by
        obtain ⟨p, q, hu⟩ := hsA2.mem hu
        exact ne_of_ty hb hu (by decide) e.symm
      have HY := Lib.hid hy
      have HSA := Lib.hid hsA2
      have HA := Lib.hid (And.intro hAy (And.intro hA2x hA2l))
      have HB := Lib.hid hb
      have HX := Lib.hid hx
      have HS := Lib.hid hS
      have x3 : w.cell? ⟨x.b, 3, none⟩ = some (.pointer (none)) := blk_cell hx 3 rfl
      have x4 : w.cell? ⟨x.b, 4, none⟩ = some (.pointer (some ⟨y.b, 0, none⟩)) := blk_cell hx 4 rfl
      have fl : ∀ i, w.frozen? ⟨lb, i, none⟩ = false := fun i => blk_frozen hb i
      have l0 : w.cell? ⟨lb, 2, none⟩ = some (.pointer (lsP ((A ++ [y]) ++ x :: []) none)) := blk_cell hb 2 rfl
      obtain ⟨FP, hFP⟩ : ∃ F, lsP ((A ++ [y]) ++ x :: []) none = F := ⟨_, rfl⟩
      obtain ⟨BP, hBP⟩ : ∃ F, hdP ((A ++ [y]) ++ x :: []) none = F := ⟨_, rfl⟩
      have HFP := Lib.hid hFP
      have HBP := Lib.hid hBP
      rw [hFP, hBP] at HB
      rw [hFP] at l0
      clear hb hx hs hn hS hsA hsB hAx hBx hAB hnA hnB hFP hBP hy hsA2 hAy hA2x hA2l
      unfold Nd.ptr
      go_enter Tryd.func42, Tryd.ntmps42
      go_upto_region 3 with (fail)
      obtain ⟨W1, hW1⟩ : ∃ W, (w.setCell ⟨lb, 2, none⟩ (.pointer (some ⟨y.b, 0, none⟩))) = W := ⟨_, rfl⟩
      rw [hW1]
      have Bl : W1.heap[lb]? = some (.cells #[v0, v1, .pointer (some ⟨y.b, 0, none⟩), .pointer (BP), .int .i64 (sumN ((A ++ [y]) ++ x :: [])), v5, v6, v7] 97 (0, 0)) := by rw [← hW1]; show (w.setCell ⟨lb, 2, none⟩ (.pointer (some ⟨y.b, 0, none⟩))).heap[lb]? = _; simp [heap_set, stO, show w.heap[lb]? = _ from HB.out]
      have Bx : W1.heap[x.b]? = some (.cells #[.int .i64 x.k, .int .i64 x.n, .bool kp, .pointer (none), .pointer (some ⟨y.b, 0, none⟩)] 108 (0, 0)) := by rw [← hW1]; show (w.setCell ⟨lb, 2, none⟩ (.pointer (some ⟨y.b, 0, none⟩))).heap[x.b]? = _; simp [heap_set, show w.heap[x.b]? = _ from HX.out, hxl]
      have By : W1.heap[y.b]? = some (.cells #[.int .i64 y.k, .int .i64 y.n, .bool kp, .pointer (some ⟨x.b, 0, none⟩), .pointer (lsP A none)] 108 (0, 0)) := by rw [← hW1]; show (w.setCell ⟨lb, 2, none⟩ (.pointer (some ⟨y.b, 0, none⟩))).heap[y.b]? = _; simp [heap_set, show w.heap[y.b]? = _ from HY.out, hyl]
      have HC1 := Lib.hid (show Ch (lb :: List.map Nd.b ((A ++ [y]) ++ [])) w W1 by rw [← hW1]; exact (Ch.refl _ _).set (by simp) _ _)
      have HSA1 := Lib.hid (show Seg 108 W1 kp none A y.ptr from HSA.out.keep fun u hu => by
        have h1 := HA.out.1 u hu
        have h2 := HA.out.2.1 u hu
        have h3 := HA.out.2.2 u hu
        rw [← hW1]
        show (w.setCell ⟨lb, 2, none⟩ (.pointer (some ⟨y.b, 0, none⟩))).heap[u.b]? = _
        simp [heap_set, h3])
      have HB1 := Lib.hid Bl
      have HX1 := Lib.hid Bx
      have x3' : W1.cell? ⟨x.b, 3, none⟩ = some (.pointer (none)) := blk_cell Bx 3 rfl
      have x4' : W1.cell? ⟨x.b, 4, none⟩ = some (.pointer (some ⟨y.b, 0, none⟩)) := blk_cell Bx 4 rfl
      have fl' : ∀ i, W1.frozen? ⟨lb, i, none⟩ = false := fun i => blk_frozen Bl i
      have HY1 := Lib.hid By
      have fy' : ∀ i, W1.frozen? ⟨y.b, i, none⟩ = false := fun i => blk_frozen By i
      have y3' : W1.cell? ⟨y.b, 3, none⟩ = some (.pointer (some ⟨x.b, 0, none⟩)) := blk_cell By 3 rfl
      clear hW1 x3 x4 fl Bl Bx By l0
      go_upto_region 5 with (fail)
      go_region
      go_upto_region 6 with (fail)
      obtain ⟨W5, hW⟩ : ∃ W, (W1.setCell ⟨y.b, 3, none⟩ (.pointer (none))).drew = W := ⟨_, rfl⟩
      rw [hW]
      have hW5 := hW
      have Bl : W5.heap[lb]? = some (.cells #[v0, v1, .pointer (some ⟨y.b, 0, none⟩), .pointer (BP), .int .i64 (sumN ((A ++ [y]) ++ x :: [])), v5, v6, v7] 97 (0, 0)) := by rw [← hW5]; show (W1.setCell ⟨y.b, 3, none⟩ (.pointer (none))).heap[lb]? = _; simp [heap_set, show W1.heap[lb]? = _ from HB1.out, hly]
      have Bx : W5.heap[x.b]? = some (.cells #[.int .i64 x.k, .int .i64 x.n, .bool kp, .pointer (none), .pointer (some ⟨y.b, 0, none⟩)] 108 (0, 0)) := by rw [← hW5]; show (W1.setCell ⟨y.b, 3, none⟩ (.pointer (none))).heap[x.b]? = _; simp [heap_set, show W1.heap[x.b]? = _ from HX1.out, hxy]
      have By : W5.heap[y.b]? = some (.cells #[.int .i64 y.k, .int .i64 y.n, .bool kp, .pointer (none), .pointer (lsP A none)] 108 (0, 0)) := by rw [← hW5]; show (W1.setCell ⟨y.b, 3, none⟩ (.pointer (none))).heap[y.b]? = _; simp [heap_set, stO, show W1.heap[y.b]? = _ from HY1.out]
      have HC := Lib.hid (show Ch (lb :: List.map Nd.b ((A ++ [y]) ++ [])) w W5 by rw [← hW5]; exact (HC1.out.set (by simp) _ _).trans (Ch.of_ext (Ext.refl _).drew))
      have hA5 : Seg 108 W5 kp none A y.ptr := HSA1.out.keep fun u hu => by
        have h1 := HA.out.1 u hu
        have h2 := HA.out.2.1 u hu
        have h3 := HA.out.2.2 u hu
        rw [← hW5]
        show (W1.setCell ⟨y.b, 3, none⟩ (.pointer (none))).heap[u.b]? = _
        simp [heap_set, h1]
      have hsg : Seg 108 W5 kp none ((A ++ [y]) ++ []) none := by rw [List.append_nil]; exact (seg_snoc A y none none).2 ⟨hA5, By⟩
      clear hW5 By hA5 x3' x4' fl' fy' y3' HB1 HX1 HC1
      clear hW
      have c2 : W5.cell? ⟨lb, 4, none⟩ = some (.int .i64 (sumN ((A ++ [y]) ++ x :: []))) := blk_cell Bl 4 rfl
      have c1 : W5.cell? ⟨x.b, 1, none⟩ = some (.int .i64 x.n) := blk_cell Bx 1 rfl
      have c3 : W5.frozen? ⟨lb, 4, none⟩ = false := blk_frozen Bl 4
      have hS := HS.out
      obtain ⟨s0, hs0⟩ : ∃ s, sumN ((A ++ [y]) ++ x :: []) = s := ⟨_, rfl⟩
      obtain ⟨n0, hn0⟩ : ∃ n, x.n = n := ⟨_, rfl⟩
      rw [hs0] at c2 hS
      rw [hn0] at c1 hS
      have hw : IntKind.i64.wrap (s0 - n0) = s0 - n0 := IntWalk.i64_in _ (by omega)
      have HBl := Lib.hid Bl
      have HW := Lib.hid hsg
      have HSN := Lib.hid (show sumN ((A ++ [y]) ++ []) = s0 - n0 by rw [← hs0, ← hn0]; simp only [List.append_nil, sumN_append, sumN_cons]; (try rw [show sumN [] = 0 from rfl]); omega)
      clear Bl Bx hs0 hn0
      go_region
      go_end0
      refine ⟨rfl, ?_, ?_, ?_⟩
      · have e1 : lsP ((A ++ [y]) ++ []) none = some ⟨y.b, 0, none⟩ := by rw [List.append_nil, lsP_snoc]; rfl
        have e2 : hdP ((A ++ [y]) ++ []) none = BP := by rw [← HBP.out, hdP_append, hdP_append, hdP_append, hdP_append]; rfl
        show (W5.setCell ⟨lb, 4, none⟩ (.int .i64 (s0 - n0))).heap[lb]? = some (.cells #[v0, v1, .pointer (lsP ((A ++ [y]) ++ []) none), .pointer (hdP ((A ++ [y]) ++ []) none), .int .i64 (sumN ((A ++ [y]) ++ [])), v5, v6, v7] 97 (0, 0))
        rw [e1, e2, HSN.out, set_blk (show W5.heap[lb]? = _ from HBl.out)]
        rfl
      · refine Seg.ext (w := W5.setCell ⟨lb, 4, none⟩ (.int .i64 (s0 - n0))) ?_ (Ext.refl _).drew
        refine Seg.far (S := [lb]) HW.out ((Ch.refl _ _).set (by simp) _ _) ?_
        intro u hu
        simp only [List.append_nil, List.mem_append, List.mem_singleton] at hu
        rcases hu with hu | rfl
        · simpa using HA.out.2.2 u hu
        · simpa using hyl
      · exact (HC.out.set (by simp) _ _).trans (Ch.of_ext (Ext.refl _).drew)
    | cons z D =>
      obtain ⟨hsA, hx, hsB⟩ := (show _ ∧ _ ∧ _ from (seg_append (A ++ [y]) (x :: (z :: D)) none none).1 hs)
      obtain ⟨hAx, hBx, hAB, hnA, hnB⟩ := nd_split hn
      have hlx : lb ≠ x.b := ne_of_ty hb hx (by decide)
      have hxl : x.b ≠ lb := fun e => hlx e.symm
      replace hx : x.At 108 w kp (some ⟨z.b, 0, none⟩) (some ⟨y.b, 0, none⟩) := by rw [lsP_snoc] at hx; exact hx
      have hyx : y.b ≠ x.b := hAx y (by simp)
      have hxy : x.b ≠ y.b := fun e => hyx e.symm
      obtain ⟨hsA2, hy⟩ := (seg_snoc A y none _).1 hsA
      replace hy : y.At 108 w kp (some ⟨x.b, 0, none⟩) (lsP A none) := hy
      obtain ⟨hAy, -, -, -, -⟩ := nd_split (A := A) (x := y) (B := []) hnA
      have hly : lb ≠ y.b := ne_of_ty hb hy (by decide)
      have hyl : y.b ≠ lb := fun e => hly e.symm
      have hA2x : ∀ u ∈ A, u.b ≠ x.b := fun u hu => hAx u (by simp [hu])
      have hA2l : ∀ u ∈ A, u.b ≠ lb := fun u hu e => by
        obtain ⟨p, q, hu⟩ := hsA2.mem hu
        exact ne_of_ty hb hu (by decide) e.symm
      have HY := Lib.hid hy
      have HSA := Lib.hid hsA2
      have HA := Lib.hid (And.intro hAy (And.intro hA2x hA2l))
      have hzx : z.b ≠ x.b := hBx z (by simp)
      have hxz : x.b ≠ z.b := fun e => hzx e.symm
      obtain ⟨hz, hsD⟩ := (show _ ∧ _ from hsB)
      obtain ⟨-, hDz, -, -, -⟩ := nd_split (A := []) (x := z) (B := D) hnB
      have hlz : lb ≠ z.b := ne_of_ty hb hz (by decide)
      have hzl : z.b ≠ lb := fun e => hlz e.symm
      have hDx : ∀ u ∈ D, u.b ≠ x.b := fun u hu => hBx u (by simp [hu])
      have hDl : ∀ u ∈ D, u.b ≠ lb := fun u hu e => by
        obtain ⟨p, q, hu⟩ := hsD.mem hu
        exact ne_of_ty hb hu (by decide) e.symm
      have HZ := Lib.hid hz
      have HSD := Lib.hid hsD
      have HD := Lib.hid (And.intro hDz (And.intro hDx hDl))
      have hyz : y.b ≠ z.b := hAB y (by simp) z (by simp)
      have hzy : z.b ≠ y.b := fun e => hyz e.symm
      have hAz : ∀ u ∈ A, u.b ≠ z.b := fun u hu => hAB u (by simp [hu]) z (by simp)
      have hDy : ∀ u ∈ D, u.b ≠ y.b := fun u hu e => hAB y (by simp) u (by simp [hu]) e.symm
      have HAD := Lib.hid (And.intro hAz hDy)
      have HB := Lib.hid hb
      have HX := Lib.hid hx
      have HS := Lib.hid hS
      have x3 : w.cell? ⟨x.b, 3, none⟩ = some (.pointer (some ⟨z.b, 0, none⟩)) := blk_cell hx 3 rfl
      have x4 : w.cell? ⟨x.b, 4, none⟩ = some (.pointer (some ⟨y.b, 0, none⟩)) := blk_cell hx 4 rfl
      have fl : ∀ i, w.frozen? ⟨lb, i, none⟩ = false := fun i => blk_frozen hb i
      have fz : ∀ i, w.frozen? ⟨z.b, i, none⟩ = false := fun i => blk_frozen hz i
      have z4 : w.cell? ⟨z.b, 4, none⟩ = some (.pointer x.ptr) := blk_cell hz 4 rfl
      obtain ⟨FP, hFP⟩ : ∃ F, lsP ((A ++ [y]) ++ x :: (z :: D)) none = F := ⟨_, rfl⟩
      obtain ⟨BP, hBP⟩ : ∃ F, hdP ((A ++ [y]) ++ x :: (z :: D)) none = F := ⟨_, rfl⟩
      have HFP := Lib.hid hFP
      have HBP := Lib.hid hBP
      rw [hFP, hBP] at HB
      clear hb hx hs hn hS hsA hsB hAx hBx hAB hnA hnB hFP hBP hy hsA2 hAy hA2x hA2l hz hsD hDz hDx hDl hAz hDy
      unfold Nd.ptr
      go_enter Tryd.func42, Tryd.ntmps42
      go_upto_region 2 with (fail)
      go_region
      obtain ⟨W1, hW1⟩ : ∃ W, (w.setCell ⟨z.b, 4, none⟩ (.pointer (some ⟨y.b, 0, none⟩))).drew = W := ⟨_, rfl⟩
      rw [hW1]
      have Bl : W1.heap[lb]? = some (.cells #[v0, v1, .pointer (FP), .pointer (BP), .int .i64 (sumN ((A ++ [y]) ++ x :: (z :: D))), v5, v6, v7] 97 (0, 0)) := by rw [← hW1]; show (w.setCell ⟨z.b, 4, none⟩ (.pointer (some ⟨y.b, 0, none⟩))).heap[lb]? = _; simp [heap_set, show w.heap[lb]? = _ from HB.out, hlz]
      have Bx : W1.heap[x.b]? = some (.cells #[.int .i64 x.k, .int .i64 x.n, .bool kp, .pointer (some ⟨z.b, 0, none⟩), .pointer (some ⟨y.b, 0, none⟩)] 108 (0, 0)) := by rw [← hW1]; show (w.setCell ⟨z.b, 4, none⟩ (.pointer (some ⟨y.b, 0, none⟩))).heap[x.b]? = _; simp [heap_set, show w.heap[x.b]? = _ from HX.out, hxz]
      have By : W1.heap[y.b]? = some (.cells #[.int .i64 y.k, .int .i64 y.n, .bool kp, .pointer (some ⟨x.b, 0, none⟩), .pointer (lsP A none)] 108 (0, 0)) := by rw [← hW1]; show (w.setCell ⟨z.b, 4, none⟩ (.pointer (some ⟨y.b, 0, none⟩))).heap[y.b]? = _; simp [heap_set, show w.heap[y.b]? = _ from HY.out, hyz]
      have Bz : W1.heap[z.b]? = some (.cells #[.int .i64 z.k, .int .i64 z.n, .bool kp, .pointer (hdP D none), .pointer (some ⟨y.b, 0, none⟩)] 108 (0, 0)) := by rw [← hW1]; show (w.setCell ⟨z.b, 4, none⟩ (.pointer (some ⟨y.b, 0, none⟩))).heap[z.b]? = _; simp [heap_set, stO, show w.heap[z.b]? = _ from HZ.out]
      have HC1 := Lib.hid (show Ch (lb :: List.map Nd.b ((A ++ [y]) ++ (z :: D))) w W1 by rw [← hW1]; exact ((Ch.refl _ _).set (by simp) _ _).trans (Ch.of_ext (Ext.refl _).drew))
      have HSA1 := Lib.hid (show Seg 108 W1 kp none A y.ptr from HSA.out.keep fun u hu => by
        have h1 := HA.out.1 u hu
        have h2 := HA.out.2.1 u hu
        have h3 := HA.out.2.2 u hu
        have h4 := HAD.out.1 u hu
        rw [← hW1]
        show (w.setCell ⟨z.b, 4, none⟩ (.pointer (some ⟨y.b, 0, none⟩))).heap[u.b]? = _
        simp [heap_set, h4])
      have HSD1 := Lib.hid (show Seg 108 W1 kp z.ptr D none from HSD.out.keep fun u hu => by
        have h1 := HD.out.1 u hu
        have h2 := HD.out.2.1 u hu
        have h3 := HD.out.2.2 u hu
        rw [← hW1]
        show (w.setCell ⟨z.b, 4, none⟩ (.pointer (some ⟨y.b, 0, none⟩))).heap[u.b]? = _
        simp [heap_set, h1])
      have HB1 := Lib.hid Bl
      have HX1 := Lib.hid Bx
      have x3' : W1.cell? ⟨x.b, 3, none⟩ = some (.pointer (some ⟨z.b, 0, none⟩)) := blk_cell Bx 3 rfl
      have x4' : W1.cell? ⟨x.b, 4, none⟩ = some (.pointer (some ⟨y.b, 0, none⟩)) := blk_cell Bx 4 rfl
      have fl' : ∀ i, W1.frozen? ⟨lb, i, none⟩ = false := fun i => blk_frozen Bl i
      have HY1 := Lib.hid By
      have fy' : ∀ i, W1.frozen? ⟨y.b, i, none⟩ = false := fun i => blk_frozen By i
      have y3' : W1.cell? ⟨y.b, 3, none⟩ = some (.pointer (some ⟨x.b, 0, none⟩)) := blk_cell By 3 rfl
      have HZ1 := Lib.hid Bz
      clear hW1 x3 x4 fl Bl Bx By Bz fz z4
      go_upto_region 5 with (fail)
      go_region
      go_upto_region 6 with (fail)
      obtain ⟨W5, hW⟩ : ∃ W, (W1.setCell ⟨y.b, 3, none⟩ (.pointer (some ⟨z.b, 0, none⟩))).drew = W := ⟨_, rfl⟩
      rw [hW]
      have hW5 := hW
      have Bl : W5.heap[lb]? = some (.cells #[v0, v1, .pointer (FP), .pointer (BP), .int .i64 (sumN ((A ++ [y]) ++ x :: (z :: D))), v5, v6, v7] 97 (0, 0)) := by rw [← hW5]; show (W1.setCell ⟨y.b, 3, none⟩ (.pointer (some ⟨z.b, 0, none⟩))).heap[lb]? = _; simp [heap_set, show W1.heap[lb]? = _ from HB1.out, hly]
      have Bx : W5.heap[x.b]? = some (.cells #[.int .i64 x.k, .int .i64 x.n, .bool kp, .pointer (some ⟨z.b, 0, none⟩), .pointer (some ⟨y.b, 0, none⟩)] 108 (0, 0)) := by rw [← hW5]; show (W1.setCell ⟨y.b, 3, none⟩ (.pointer (some ⟨z.b, 0, none⟩))).heap[x.b]? = _; simp [heap_set, show W1.heap[x.b]? = _ from HX1.out, hxy]
      have By : W5.heap[y.b]? = some (.cells #[.int .i64 y.k, .int .i64 y.n, .bool kp, .pointer (some ⟨z.b, 0, none⟩), .pointer (lsP A none)] 108 (0, 0)) := by rw [← hW5]; show (W1.setCell ⟨y.b, 3, none⟩ (.pointer (some ⟨z.b, 0, none⟩))).heap[y.b]? = _; simp [heap_set, stO, show W1.heap[y.b]? = _ from HY1.out]
      have Bz : W5.heap[z.b]? = some (.cells #[.int .i64 z.k, .int .i64 z.n, .bool kp, .pointer (hdP D none), .pointer (some ⟨y.b, 0, none⟩)] 108 (0, 0)) := by rw [← hW5]; show (W1.setCell ⟨y.b, 3, none⟩ (.pointer (some ⟨z.b, 0, none⟩))).heap[z.b]? = _; simp [heap_set, show W1.heap[z.b]? = _ from HZ1.out, hzy]
      have HC := Lib.hid (show Ch (lb :: List.map Nd.b ((A ++ [y]) ++ (z :: D))) w W5 by rw [← hW5]; exact (HC1.out.set (by simp) _ _).trans (Ch.of_ext (Ext.refl _).drew))
      have hA5 : Seg 108 W5 kp none A y.ptr := HSA1.out.keep fun u hu => by
        have h1 := HA.out.1 u hu
        have h2 := HA.out.2.1 u hu
        have h3 := HA.out.2.2 u hu
        rw [← hW5]
        show (W1.setCell ⟨y.b, 3, none⟩ (.pointer (some ⟨z.b, 0, none⟩))).heap[u.b]? = _
        simp [heap_set, h1]
      have hD5 : Seg 108 W5 kp z.ptr D none := HSD1.out.keep fun u hu => by
        have h1 := HD.out.1 u hu
        have h2 := HD.out.2.1 u hu
        have h3 := HD.out.2.2 u hu
        have h4 := HAD.out.2 u hu
        rw [← hW5]
        show (W1.setCell ⟨y.b, 3, none⟩ (.pointer (some ⟨z.b, 0, none⟩))).heap[u.b]? = _
        simp [heap_set, h4]
      have hsg : Seg 108 W5 kp none ((A ++ [y]) ++ (z :: D)) none := (seg_append (A ++ [y]) (z :: D) none none).2 ⟨(seg_snoc A y none _).2 ⟨hA5, By⟩, by rw [lsP_snoc]; exact ⟨Bz, hD5⟩⟩
      clear hW5 By hA5 Bz hD5 x3' x4' fl' fy' y3' HB1 HX1 HC1
      clear hW
      have c2 : W5.cell? ⟨lb, 4, none⟩ = some (.int .i64 (sumN ((A ++ [y]) ++ x :: (z :: D)))) := blk_cell Bl 4 rfl
      have c1 : W5.cell? ⟨x.b, 1, none⟩ = some (.int .i64 x.n) := blk_cell Bx 1 rfl
      have c3 : W5.frozen? ⟨lb, 4, none⟩ = false := blk_frozen Bl 4
      have hS := HS.out
      obtain ⟨s0, hs0⟩ : ∃ s, sumN ((A ++ [y]) ++ x :: (z :: D)) = s := ⟨_, rfl⟩
      obtain ⟨n0, hn0⟩ : ∃ n, x.n = n := ⟨_, rfl⟩
      rw [hs0] at c2 hS
      rw [hn0] at c1 hS
      have hw : IntKind.i64.wrap (s0 - n0) = s0 - n0 := IntWalk.i64_in _ (by omega)
      have HBl := Lib.hid Bl
      have HW := Lib.hid hsg
      have HSN := Lib.hid (show sumN ((A ++ [y]) ++ (z :: D)) = s0 - n0 by rw [← hs0, ← hn0]; simp only [sumN_append, sumN_cons]; (try rw [show sumN [] = 0 from rfl]); omega)
      clear Bl Bx hs0 hn0
      go_region
      go_end0
      refine ⟨rfl, ?_, ?_, ?_⟩
      · have e1 : lsP ((A ++ [y]) ++ (z :: D)) none = FP := by rw [← HFP.out, lsP_append (A ++ [y]) (z :: D), lsP_append (A ++ [y]) (x :: z :: D)]; rfl
        have e2 : hdP ((A ++ [y]) ++ (z :: D)) none = BP := by rw [← HBP.out, hdP_append, hdP_append, hdP_append, hdP_append]; rfl
        show (W5.setCell ⟨lb, 4, none⟩ (.int .i64 (s0 - n0))).heap[lb]? = some (.cells #[v0, v1, .pointer (lsP ((A ++ [y]) ++ (z :: D)) none), .pointer (hdP ((A ++ [y]) ++ (z :: D)) none), .int .i64 (sumN ((A ++ [y]) ++ (z :: D))), v5, v6, v7] 97 (0, 0))
        rw [e1, e2, HSN.out, set_blk (show W5.heap[lb]? = _ from HBl.out)]
        rfl
      · refine Seg.ext (w := W5.setCell ⟨lb, 4, none⟩ (.int .i64 (s0 - n0))) ?_ (Ext.refl _).drew
        refine Seg.far (S := [lb]) HW.out ((Ch.refl _ _).set (by simp) _ _) ?_
        intro u hu
        rcases List.mem_append.1 hu with hu | hu
        · rcases List.mem_append.1 hu with hu | hu
          · simpa using HA.out.2.2 u hu
          · rw [List.mem_singleton.1 hu]; simpa using hyl
        · rcases List.mem_cons.1 hu with rfl | hu
          · simpa using hzl
          · simpa using HD.out.2.2 u hu
      · exact (HC.out.set (by simp) _ _).trans (Ch.of_ext (Ext.refl _).drew)

def PullPost5 (w : World) (lb : Nat) (v0 v1 v2 v3 v4 : Value) (kp : Bool) (L : List Nd) (e : Ending) (w' : World) : Prop :=
  e = .returned (.tuple #[]) ∧ w'.heap[lb]? = some (.cells #[v0, v1, v2, v3, v4, .pointer (lsP L none), .pointer (hdP L none), .int .i64 (sumN L)] 97 (0, 0)) ∧ Seg 108 w' kp none L none ∧ Ch (lb :: L.map Nd.b) w w'
set_option maxHeartbeats 4000000 in
set_option maxRecDepth 100000 in
theorem pull5_calls (lb : Nat) (v0 v1 v2 v3 v4 : Value) (kp : Bool) (A B : List Nd) (x : Nd) (w : World) (hb : w.heap[lb]? = some (.cells #[v0, v1, v2, v3, v4, .pointer (lsP (A ++ x :: B) none), .pointer (hdP (A ++ x :: B) none), .int .i64 (sumN (A ++ x :: B))] 97 (0, 0)))
    (hs : Seg 108 w kp none (A ++ x :: B) none) (hn : ((A ++ x :: B).map Nd.b).Nodup) (hS : -9223372036854775808 ≤ sumN (A ++ x :: B) - x.n ∧ sumN (A ++ x :: B) - x.n ≤ 9223372036854775807) :
    Calls Tryd.prog 42 #[.pointer (some ⟨lb, 5, none⟩), .pointer x.ptr] w (PullPost5 w lb v0 v1 v2 v3 v4 kp (A ++ B)) := by
  rcases List.eq_nil_or_concat A with rfl | ⟨A, y, rfl⟩
  · cases B with
    | nil =>
      obtain ⟨hsA, hx, hsB⟩ := (show _ ∧ _ ∧ _ from (seg_append ([]) (x :: []) none none).1 hs)
      obtain ⟨hAx, hBx, hAB, hnA, hnB⟩ := nd_split hn
      have hlx : lb ≠ x.b := ne_of_ty hb hx (by decide)
      have hxl : x.b ≠ lb := fun e => hlx e.symm
      replace hx : x.At 108 w kp (none) (none) := by exact hx
      have HB := Lib.hid hb
      have HX := Lib.hid hx
      have HS := Lib.hid hS
      have x3 : w.cell? ⟨x.b, 3, none⟩ = some (.pointer (none)) := blk_cell hx 3 rfl
      have x4 : w.cell? ⟨x.b, 4, none⟩ = some (.pointer (none)) := blk_cell hx 4 rfl
      have fl : ∀ i, w.frozen? ⟨lb, i, none⟩ = false := fun i => blk_frozen hb i
      have l0 : w.cell? ⟨lb, 5, none⟩ = some (.pointer (lsP (([]) ++ x :: []) none)) := blk_cell hb 5 rfl
      obtain ⟨FP, hFP⟩ : ∃ F, lsP (([]) ++ x :: []) none = F := ⟨_, rfl⟩
      obtain ⟨BP, hBP⟩ : ∃ F, hdP (([]) ++ x :: []) none = F := ⟨_, rfl⟩
      have HFP := Lib.hid hFP
      have HBP := Lib.hid hBP
      rw [hFP, hBP] at HB
      rw [hFP] at l0
      clear hb hx hs hn hS hsA hsB hAx hBx hAB hnA hnB hFP hBP
      unfold Nd.ptr
      go_enter Tryd.func42, Tryd.ntmps42
      go_upto_region 3 with (fail)
      obtain ⟨W1, hW1⟩ : ∃ W, (w.setCell ⟨lb, 5, none⟩ (.pointer (none))) = W := ⟨_, rfl⟩
      rw [hW1]
      have Bl : W1.heap[lb]? = some (.cells #[v0, v1, v2, v3, v4, .pointer (none), .pointer (BP), .int .i64 (sumN (([]) ++ x :: []))] 97 (0, 0)) := by rw [← hW1]; show (w.setCell ⟨lb, 5, none⟩ (.pointer (none))).heap[lb]? = _; simp [heap_set, stO, show w.heap[lb]? = _ from HB.out]
      have Bx : W1.heap[x.b]? = some (.cells #[.int .i64 x.k, .int .i64 x.n, .bool kp, .pointer (none), .pointer (none)] 108 (0, 0)) := by rw [← hW1]; show (w.setCell ⟨lb, 5, none⟩ (.pointer (none))).heap[x.b]? = _; simp [heap_set, show w.heap[x.b]? = _ from HX.out, hxl]
      have HC1 := Lib.hid (show Ch (lb :: List.map Nd.b (([]) ++ [])) w W1 by rw [← hW1]; exact (Ch.refl _ _).set (by simp) _ _)
      have HB1 := Lib.hid Bl
      have HX1 := Lib.hid Bx
      have x3' : W1.cell? ⟨x.b, 3, none⟩ = some (.pointer (none)) := blk_cell Bx 3 rfl
      have x4' : W1.cell? ⟨x.b, 4, none⟩ = some (.pointer (none)) := blk_cell Bx 4 rfl
      have fl' : ∀ i, W1.frozen? ⟨lb, i, none⟩ = false := fun i => blk_frozen Bl i
      have l1' : W1.cell? ⟨lb, 6, none⟩ = some (.pointer BP) := blk_cell Bl 6 rfl
      clear hW1 x3 x4 fl Bl Bx l0
      go_upto_region 6 with (fail)
      obtain ⟨W5, hW⟩ : ∃ W, (W1.setCell ⟨lb, 6, none⟩ (.pointer (none))) = W := ⟨_, rfl⟩
      rw [hW]
      have hW5 := hW
      have Bl : W5.heap[lb]? = some (.cells #[v0, v1, v2, v3, v4, .pointer (none), .pointer (none), .int .i64 (sumN (([]) ++ x :: []))] 97 (0, 0)) := by rw [← hW5]; show (W1.setCell ⟨lb, 6, none⟩ (.pointer (none))).heap[lb]? = _; simp [heap_set, stO, show W1.heap[lb]? = _ from HB1.out]
      have Bx : W5.heap[x.b]? = some (.cells #[.int .i64 x.k, .int .i64 x.n, .bool kp, .pointer (none), .pointer (none)] 108 (0, 0)) := by rw [← hW5]; show (W1.setCell ⟨lb, 6, none⟩ (.pointer (none))).heap[x.b]? = _; simp [heap_set, show W1.heap[x.b]? = _ from HX1.out, hxl]
      have HC := Lib.hid (show Ch (lb :: List.map Nd.b (([]) ++ [])) w W5 by rw [← hW5]; exact HC1.out.set (by simp) _ _)
      have hsg : Seg 108 W5 kp none (([]) ++ []) none := trivial
      clear hW5 x3' x4' fl' l1' HB1 HX1 HC1
      clear hW
      have c2 : W5.cell? ⟨lb, 7, none⟩ = some (.int .i64 (sumN (([]) ++ x :: []))) := blk_cell Bl 7 rfl
      have c1 : W5.cell? ⟨x.b, 1, none⟩ = some (.int .i64 x.n) := blk_cell Bx 1 rfl
      have c3 : W5.frozen? ⟨lb, 7, none⟩ = false := blk_frozen Bl 7
      have hS := HS.out
      obtain ⟨s0, hs0⟩ : ∃ s, sumN (([]) ++ x :: []) = s := ⟨_, rfl⟩
      obtain ⟨n0, hn0⟩ : ∃ n, x.n = n := ⟨_, rfl⟩
      rw [hs0] at c2 hS
      rw [hn0] at c1 hS
      have hw : IntKind.i64.wrap (s0 - n0) = s0 - n0 := IntWalk.i64_in _ (by omega)
      have HBl := Lib.hid Bl
      have HW := Lib.hid hsg
      have HSN := Lib.hid (show sumN (([]) ++ []) = s0 - n0 by rw [← hs0, ← hn0]; simp only [List.nil_append, List.append_nil, sumN_cons]; (try rw [show sumN [] = 0 from rfl]); omega)
      clear Bl Bx hs0 hn0
      go_region
      go_end0
      refine ⟨rfl, ?_, ?_, ?_⟩
      · have e1 : lsP (([]) ++ []) none = none := rfl
        have e2 : hdP (([]) ++ []) none = none := rfl
        show (W5.setCell ⟨lb, 7, none⟩ (.int .i64 (s0 - n0))).heap[lb]? = some (.cells #[v0, v1, v2, v3, v4, .pointer (lsP (([]) ++ []) none), .pointer (hdP (([]) ++ []) none), .int .i64 (sumN (([]) ++ []))] 97 (0, 0))
        rw [e1, e2, HSN.out, set_blk (show W5.heap[lb]? = _ from HBl.out)]
        rfl
      · refine Seg.ext (w := W5.setCell ⟨lb, 7, none⟩ (.int .i64 (s0 - n0))) ?_ (Ext.refl _).drew
        refine Seg.far (S := [lb]) HW.out ((Ch.refl _ _).set (by simp) _ _) ?_
        intro u hu; simp at hu
      · exact (HC.out.set (by simp) _ _).trans (Ch.of_ext (Ext.refl _).drew)
    | cons z D =>
      obtain ⟨hsA, hx, hsB⟩ := (show _ ∧ _ ∧ _ from (seg_append ([]) (x :: (z :: D)) none none).1 hs)
      obtain ⟨hAx, hBx, hAB, hnA, hnB⟩ := nd_split hn
      have hlx : lb ≠ x.b := ne_of_ty hb hx (by decide)
      have hxl : x.b ≠ lb := fun e => hlx e.symm
      replace hx : x.At 108 w kp (some ⟨z.b, 0, none⟩) (none) := by exact hx
      have hzx : z.b ≠ x.b := hBx z (by simp)
      have hxz : x.b ≠ z.b := fun e => hzx e.symm
      obtain ⟨hz, hsD⟩ := (show _ ∧ _ from hsB)
      obtain ⟨-, hDz, -, -, -⟩ := nd_split (A := []) (x := z) (B := D) hnB
      have hlz : lb ≠ z.b := ne_of_ty hb hz (by decide)
      have hzl : z.b ≠ lb := fun e => hlz e.symm
      have hDx : ∀ u ∈ D, u.b ≠ x.b := fun u hu => hBx u (by simp [hu])
      have hDl : ∀ u ∈ D, u.b ≠ lb := fun u hu e => by
        obtain ⟨p, q, hu⟩ := hsD.mem hu
        exact ne_of_ty hb hu (by decide) e.symm
      have HZ := Lib.hid hz
      have HSD := Lib.hid hsD
      have HD := Lib.hid (And.intro hDz (And.intro hDx hDl))
      have HB := Lib.hid hb
      have HX := Lib.hid hx
      have HS := Lib.hid hS
      have x3 : w.cell? ⟨x.b, 3, none⟩ = some (.pointer (some ⟨z.b, 0, none⟩)) := blk_cell hx 3 rfl
      have x4 : w.cell? ⟨x.b, 4, none⟩ = some (.pointer (none)) := blk_cell hx 4 rfl
      have fl : ∀ i, w.frozen? ⟨lb, i, none⟩ = false := fun i => blk_frozen hb i
      have fz : ∀ i, w.frozen? ⟨z.b, i, none⟩ = false := fun i => blk_frozen hz i
      have z4 : w.cell? ⟨z.b, 4, none⟩ = some (.pointer x.ptr) := blk_cell hz 4 rfl
      obtain ⟨FP, hFP⟩ : ∃ F, lsP (([]) ++ x :: (z :: D)) none = F := ⟨_, rfl⟩
      obtain ⟨BP, hBP⟩ : ∃ F, hdP (([]) ++ x :: (z :: D)) none = F := ⟨_, rfl⟩
      have HFP := Lib.hid hFP
      have HBP := Lib.hid hBP
      rw [hFP, hBP] at HB
      clear hb hx hs hn hS hsA hsB hAx hBx hAB hnA hnB hFP hBP hz hsD hDz hDx hDl
      unfold Nd.ptr
      go_enter Tryd.func42, Tryd.ntmps42
      go_upto_region 2 with (fail)
      go_region
      obtain ⟨W1, hW1⟩ : ∃ W, (w.setCell ⟨z.b, 4, none⟩ (.pointer (none))).drew = W := ⟨_, rfl⟩
      rw [hW1]
      have Bl : W1.heap[lb]? = some (.cells #[v0, v1, v2, v3, v4, .pointer (FP), .pointer (BP), .int .i64 (sumN (([]) ++ x :: (z :: D)))] 97 (0, 0)) := by rw [← hW1]; show (w.setCell ⟨z.b, 4, none⟩ (.pointer (none))).heap[lb]? = _; simp [heap_set, show w.heap[lb]? = _ from HB.out, hlz]
      have Bx : W1.heap[x.b]? = some (.cells #[.int .i64 x.k, .int .i64 x.n, .bool kp, .pointer (some ⟨z.b, 0, none⟩), .pointer (none)] 108 (0, 0)) := by rw [← hW1]; show (w.setCell ⟨z.b, 4, none⟩ (.pointer (none))).heap[x.b]? = _; simp [heap_set, show w.heap[x.b]? = _ from HX.out, hxz]
      have Bz : W1.heap[z.b]? = some (.cells #[.int .i64 z.k, .int .i64 z.n, .bool kp, .pointer (hdP D none), .pointer (none)] 108 (0, 0)) := by rw [← hW1]; show (w.setCell ⟨z.b, 4, none⟩ (.pointer (none))).heap[z.b]? = _; simp [heap_set, stO, show w.heap[z.b]? = _ from HZ.out]
      have HC1 := Lib.hid (show Ch (lb :: List.map Nd.b (([]) ++ (z :: D))) w W1 by rw [← hW1]; exact ((Ch.refl _ _).set (by simp) _ _).trans (Ch.of_ext (Ext.refl _).drew))
      have HSD1 := Lib.hid (show Seg 108 W1 kp z.ptr D none from HSD.out.keep fun u hu => by
        have h1 := HD.out.1 u hu
        have h2 := HD.out.2.1 u hu
        have h3 := HD.out.2.2 u hu
        rw [← hW1]
        show (w.setCell ⟨z.b, 4, none⟩ (.pointer (none))).heap[u.b]? = _
        simp [heap_set, h1])
      have HB1 := Lib.hid Bl
      have HX1 := Lib.hid Bx
      have x3' : W1.cell? ⟨x.b, 3, none⟩ = some (.pointer (some ⟨z.b, 0, none⟩)) := blk_cell Bx 3 rfl
      have x4' : W1.cell? ⟨x.b, 4, none⟩ = some (.pointer (none)) := blk_cell Bx 4 rfl
      have fl' : ∀ i, W1.frozen? ⟨lb, i, none⟩ = false := fun i => blk_frozen Bl i
      have l1' : W1.cell? ⟨lb, 6, none⟩ = some (.pointer BP) := blk_cell Bl 6 rfl
      have HZ1 := Lib.hid Bz
      clear hW1 x3 x4 fl Bl Bx Bz fz z4
      go_upto_region 6 with (fail)
      obtain ⟨W5, hW⟩ : ∃ W, (W1.setCell ⟨lb, 6, none⟩ (.pointer (some ⟨z.b, 0, none⟩))) = W := ⟨_, rfl⟩
      rw [hW]
      have hW5 := hW
      have Bl : W5.heap[lb]? = some (.cells #[v0, v1, v2, v3, v4, .pointer (FP), .pointer (some ⟨z.b, 0, none⟩), .int .i64 (sumN (([]) ++ x :: (z :: D)))] 97 (0, 0)) := by rw [← hW5]; show (W1.setCell ⟨lb, 6, none⟩ (.pointer (some ⟨z.b, 0, none⟩))).heap[lb]? = _; simp [heap_set, stO, show W1.heap[lb]? = _ from HB1.out]
      have Bx : W5.heap[x.b]? = some (.cells #[.int .i64 x.k, .int .i64 x.n, .bool kp, .pointer (some ⟨z.b, 0, none⟩), .pointer (none)] 108 (0, 0)) := by rw [← hW5]; show (W1.setCell ⟨lb, 6, none⟩ (.pointer (some ⟨z.b, 0, none⟩))).heap[x.b]? = _; simp [heap_set, show W1.heap[x.b]? = _ from HX1.out, hxl]
      have Bz : W5.heap[z.b]? = some (.cells #[.int .i64 z.k, .int .i64 z.n, .bool kp, .pointer (hdP D none), .pointer (none)] 108 (0, 0)) := by rw [← hW5]; show (W1.setCell ⟨lb, 6, none⟩ (.pointer (some ⟨z.b, 0, none⟩))).heap[z.b]? = _; simp [heap_set, show W1.heap[z.b]? = _ from HZ1.out, hzl]
      have HC := Lib.hid (show Ch (lb :: List.map Nd.b (([]) ++ (z :: D))) w W5 by rw [← hW5]; exact HC1.out.set (by simp) _ _)
      have hD5 : Seg 108 W5 kp z.ptr D none := HSD1.out.keep fun u hu => by
        have h1 := HD.out.1 u hu
        have h2 := HD.out.2.1 u hu
        have h3 := HD.out.2.2 u hu
        rw [← hW5]
        show (W1.setCell ⟨lb, 6, none⟩ (.pointer (some ⟨z.b, 0, none⟩))).heap[u.b]? = _
        simp [heap_set, h3]
      have hsg : Seg 108 W5 kp none (([]) ++ (z :: D)) none := ⟨Bz, hD5⟩
      clear hW5 Bz hD5 x3' x4' fl' l1' HB1 HX1 HC1
      clear hW
      have c2 : W5.cell? ⟨lb, 7, none⟩ = some (.int .i64 (sumN (([]) ++ x :: (z :: D)))) := blk_cell Bl 7 rfl
      have c1 : W5.cell? ⟨x.b, 1, none⟩ = some (.int .i64 x.n) := blk_cell Bx 1 rfl
      have c3 : W5.frozen? ⟨lb, 7, none⟩ = false := blk_frozen Bl 7
      have hS := HS.out
      obtain ⟨s0, hs0⟩ : ∃ s, sumN (([]) ++ x :: (z :: D)) = s := ⟨_, rfl⟩
      obtain ⟨n0, hn0⟩ : ∃ n, x.n = n := ⟨_, rfl⟩
      rw [hs0] at c2 hS
      rw [hn0] at c1 hS
      have hw : IntKind.i64.wrap (s0 - n0) = s0 - n0 := IntWalk.i64_in _ (by omega)
      have HBl := Lib.hid Bl
      have HW := Lib.hid hsg
      have HSN := Lib.hid (show sumN (([]) ++ (z :: D)) = s0 - n0 by rw [← hs0, ← hn0]; simp only [List.nil_append, sumN_cons]; (try rw [show sumN [] = 0 from rfl]); omega)
      clear Bl Bx hs0 hn0
      go_region
      go_end0
      refine ⟨rfl, ?_, ?_, ?_⟩
      · have e1 : lsP (([]) ++ (z :: D)) none = FP := HFP.out
        have e2 : hdP (([]) ++ (z :: D)) none = some ⟨z.b, 0, none⟩ := rfl
        show (W5.setCell ⟨lb, 7, none⟩ (.int .i64 (s0 - n0))).heap[lb]? = some (.cells #[v0, v1, v2, v3, v4, .pointer (lsP (([]) ++ (z :: D)) none), .pointer (hdP (([]) ++ (z :: D)) none), .int .i64 (sumN (([]) ++ (z :: D)))] 97 (0, 0))
        rw [e1, e2, HSN.out, set_blk (show W5.heap[lb]? = _ from HBl.out)]
        rfl
      · refine Seg.ext (w := W5.setCell ⟨lb, 7, none⟩ (.int .i64 (s0 - n0))) ?_ (Ext.refl _).drew
        refine Seg.far (S := [lb]) HW.out ((Ch.refl _ _).set (by simp) _ _) ?_
        intro u hu
        simp only [List.mem_cons] at hu
        rcases hu with rfl | hu
        · simpa using hzl
        · simpa using HD.out.2.2 u hu
      · exact (HC.out.set (by simp) _ _).trans (Ch.of_ext (Ext.refl _).drew)
  · rw [List.concat_eq_append] at *
    cases B with
    | nil =>
      obtain ⟨hsA, hx, hsB⟩ := (show _ ∧ _ ∧ _ from (seg_append (A ++ [y]) (x :: []) none none).1 hs)
      obtain ⟨hAx, hBx, hAB, hnA, hnB⟩ := nd_split hn
      have hlx : lb ≠ x.b := ne_of_ty hb hx (by decide)
      have hxl : x.b ≠ lb := fun e => hlx e.symm
      replace hx : x.At 108 w kp (none) (some ⟨y.b, 0, none⟩) := by rw [lsP_snoc] at hx; exact hx
      have hyx : y.b ≠ x.b := hAx y (by simp)
      have hxy : x.b ≠ y.b := fun e => hyx e.symm
      obtain ⟨hsA2, hy⟩ := (seg_snoc A y none _).1 hsA
      replace hy : y.At 108 w kp (some ⟨x.b, 0, none⟩) (lsP A none) := hy
      obtain ⟨hAy, -, -, -, -⟩ := nd_split (A := A) (x := y) (B := []) hnA
      have hly : lb ≠ y.b := ne_of_ty hb hy (by decide)
      have hyl : y.b ≠ lb := fun e => hly e.symm
      have hA2x : ∀ u ∈ A, u.b ≠ x.b := fun u hu => hAx u (by simp [hu])
      have hA2l : ∀ u ∈ A, u.b ≠ lb := fun u hu e => by
        obtain ⟨p, q, hu⟩ := hsA2.mem hu
        exact ne_of_ty hb hu (by decide) e.symm
      have HY := Lib.hid hy
      have HSA := Lib.hid hsA2
      have HA := Lib.hid (And.intro hAy (And.intro hA2x hA2l))
      have HB := Lib.hid hb
      have HX := Lib.hid hx
      have HS := Lib.hid hS
      have x3 : w.cell? ⟨x.b, 3, none⟩ = some (.pointer (none)) := blk_cell hx 3 rfl
      have x4 : w.cell? ⟨x.b, 4, none⟩ = some (.pointer (some ⟨y.b, 0, none⟩)) := blk_cell hx 4 rfl
      have fl : ∀ i, w.frozen? ⟨lb, i, none⟩ = false := fun i => blk_frozen hb i
      have l0 : w.cell? ⟨lb, 5, none⟩ = some (.pointer (lsP ((A ++ [y]) ++ x :: []) none)) := blk_cell hb 5 rfl
      obtain ⟨FP, hFP⟩ : ∃ F, lsP ((A ++ [y]) ++ x :: []) none = F := ⟨_, rfl⟩
      obtain ⟨BP, hBP⟩ : ∃ F, hdP ((A ++ [y]) ++ x :: []) none = F := ⟨_, rfl⟩
      have HFP := Lib.hid hFP
      have HBP := Lib.hid hBP
      rw [hFP, hBP] at HB
      rw [hFP] at l0
      clear hb hx hs hn hS hsA hsB hAx hBx hAB hnA hnB hFP hBP hy hsA2 hAy hA2x hA2l
      unfold Nd.ptr
      go_enter Tryd.func42, Tryd.ntmps42
      go_upto_region 3 with (fail)
      obtain ⟨W1, hW1⟩ : ∃ W, (w.setCell ⟨lb, 5, none⟩ (.pointer (some ⟨y.b, 0, none⟩))) = W := ⟨_, rfl⟩
      rw [hW1]
      have Bl : W1.heap[lb]? = some (.cells #[v0, v1, v2, v3, v4, .pointer (some ⟨y.b, 0, none⟩), .pointer (BP), .int .i64 (sumN ((A ++ [y]) ++ x :: []))] 97 (0, 0)) := by rw [← hW1]; show (w.setCell ⟨lb, 5, none⟩ (.pointer (some ⟨y.b, 0, none⟩))).heap[lb]? = _; simp [heap_set, stO, show w.heap[lb]? = _ from HB.out]
      have Bx : W1.heap[x.b]? = some (.cells #[.int .i64 x.k, .int .i64 x.n, .bool kp, .pointer (none), .pointer (some ⟨y.b, 0, none⟩)] 108 (0, 0)) := by rw [← hW1]; show (w.setCell ⟨lb, 5, none⟩ (.pointer (some ⟨y.b, 0, none⟩))).heap[x.b]? = _; simp [heap_set, show w.heap[x.b]? = _ from HX.out, hxl]
      have By : W1.heap[y.b]? = some (.cells #[.int .i64 y.k, .int .i64 y.n, .bool kp, .pointer (some ⟨x.b, 0, none⟩), .pointer (lsP A none)] 108 (0, 0)) := by rw [← hW1]; show (w.setCell ⟨lb, 5, none⟩ (.pointer (some ⟨y.b, 0, none⟩))).heap[y.b]? = _; simp [heap_set, show w.heap[y.b]? = _ from HY.out, hyl]
      have HC1 := Lib.hid (show Ch (lb :: List.map Nd.b ((A ++ [y]) ++ [])) w W1 by rw [← hW1]; exact (Ch.refl _ _).set (by simp) _ _)
      have HSA1 := Lib.hid (show Seg 108 W1 kp none A y.ptr from HSA.out.keep fun u hu => by
        have h1 := HA.out.1 u hu
        have h2 := HA.out.2.1 u hu
        have h3 := HA.out.2.2 u hu
        rw [← hW1]
        show (w.setCell ⟨lb, 5, none⟩ (.pointer (some ⟨y.b, 0, none⟩))).heap[u.b]? = _
        simp [heap_set, h3])
      have HB1 := Lib.hid Bl
      have HX1 := Lib.hid Bx
      have x3' : W1.cell? ⟨x.b, 3, none⟩ = some (.pointer (none)) := blk_cell Bx 3 rfl
      have x4' : W1.cell? ⟨x.b, 4, none⟩ = some (.pointer (some ⟨y.b, 0, none⟩)) := blk_cell Bx 4 rfl
      have fl' : ∀ i, W1.frozen? ⟨lb, i, none⟩ = false := fun i => blk_frozen Bl i
      have HY1 := Lib.hid By
      have fy' : ∀ i, W1.frozen? ⟨y.b, i, none⟩ = false := fun i => blk_frozen By i
      have y3' : W1.cell? ⟨y.b, 3, none⟩ = some (.pointer (some ⟨x.b, 0, none⟩)) := blk_cell By 3 rfl
      clear hW1 x3 x4 fl Bl Bx By l0
      go_upto_region 5 with (fail)
      go_region
      go_upto_region 6 with (fail)
      obtain ⟨W5, hW⟩ : ∃ W, (W1.setCell ⟨y.b, 3, none⟩ (.pointer (none))).drew = W := ⟨_, rfl⟩
      rw [hW]
      have hW5 := hW
      have Bl : W5.heap[lb]? = some (.cells #[v0, v1, v2, v3, v4, .pointer (some ⟨y.b, 0, none⟩), .pointer (BP), .int .i64 (sumN ((A ++ [y]) ++ x :: []))] 97 (0, 0)) := by rw [← hW5]; show (W1.setCell ⟨y.b, 3, none⟩ (.pointer (none))).heap[lb]? = _; simp [heap_set, show W1.heap[lb]? = _ from HB1.out, hly]
      have Bx : W5.heap[x.b]? = some (.cells #[.int .i64 x.k, .int .i64 x.n, .bool kp, .pointer (none), .pointer (some ⟨y.b, 0, none⟩)] 108 (0, 0)) := by rw [← hW5]; show (W1.setCell ⟨y.b, 3, none⟩ (.pointer (none))).heap[x.b]? = _; simp [heap_set, show W1.heap[x.b]? = _ from HX1.out, hxy]
      have By : W5.heap[y.b]? = some (.cells #[.int .i64 y.k, .int .i64 y.n, .bool kp, .pointer (none), .pointer (lsP A none)] 108 (0, 0)) := by rw [← hW5]; show (W1.setCell ⟨y.b, 3, none⟩ (.pointer (none))).heap[y.b]? = _; simp [heap_set, stO, show W1.heap[y.b]? = _ from HY1.out]
      have HC := Lib.hid (show Ch (lb :: List.map Nd.b ((A ++ [y]) ++ [])) w W5 by rw [← hW5]; exact (HC1.out.set (by simp) _ _).trans (Ch.of_ext (Ext.refl _).drew))
      have hA5 : Seg 108 W5 kp none A y.ptr := HSA1.out.keep fun u hu => by
        have h1 := HA.out.1 u hu
        have h2 := HA.out.2.1 u hu
        have h3 := HA.out.2.2 u hu
        rw [← hW5]
        show (W1.setCell ⟨y.b, 3, none⟩ (.pointer (none))).heap[u.b]? = _
        simp [heap_set, h1]
      have hsg : Seg 108 W5 kp none ((A ++ [y]) ++ []) none := by rw [List.append_nil]; exact (seg_snoc A y none none).2 ⟨hA5, By⟩
      clear hW5 By hA5 x3' x4' fl' fy' y3' HB1 HX1 HC1
      clear hW
      have c2 : W5.cell? ⟨lb, 7, none⟩ = some (.int .i64 (sumN ((A ++ [y]) ++ x :: []))) := blk_cell Bl 7 rfl
      have c1 : W5.cell? ⟨x.b, 1, none⟩ = some (.int .i64 x.n) := blk_cell Bx 1 rfl
      have c3 : W5.frozen? ⟨lb, 7, none⟩ = false := blk_frozen Bl 7
      have hS := HS.out
      obtain ⟨s0, hs0⟩ : ∃ s, sumN ((A ++ [y]) ++ x :: []) = s := ⟨_, rfl⟩
      obtain ⟨n0, hn0⟩ : ∃ n, x.n = n := ⟨_, rfl⟩
      rw [hs0] at c2 hS
      rw [hn0] at c1 hS
      have hw : IntKind.i64.wrap (s0 - n0) = s0 - n0 := IntWalk.i64_in _ (by omega)
      have HBl := Lib.hid Bl
      have HW := Lib.hid hsg
      have HSN := Lib.hid (show sumN ((A ++ [y]) ++ []) = s0 - n0 by rw [← hs0, ← hn0]; simp only [List.append_nil, sumN_append, sumN_cons]; (try rw [show sumN [] = 0 from rfl]); omega)
      clear Bl Bx hs0 hn0
      go_region
      go_end0
      refine ⟨rfl, ?_, ?_, ?_⟩
      · have e1 : lsP ((A ++ [y]) ++ []) none = some ⟨y.b, 0, none⟩ := by rw [List.append_nil, lsP_snoc]; rfl
        have e2 : hdP ((A ++ [y]) ++ []) none = BP := by rw [← HBP.out, hdP_append, hdP_append, hdP_append, hdP_append]; rfl
        show (W5.setCell ⟨lb, 7, none⟩ (.int .i64 (s0 - n0))).heap[lb]? = some (.cells #[v0, v1, v2, v3, v4, .pointer (lsP ((A ++ [y]) ++ []) none), .pointer (hdP ((A ++ [y]) ++ []) none), .int .i64 (sumN ((A ++ [y]) ++ []))] 97 (0, 0))
        rw [e1, e2, HSN.out, set_blk (show W5.heap[lb]? = _ from HBl.out)]
        rfl
      · refine Seg.ext (w := W5.setCell ⟨lb, 7, none⟩ (.int .i64 (s0 - n0))) ?_ (Ext.refl _).drew
        refine Seg.far (S := [lb]) HW.out ((Ch.refl _ _).set (by simp) _ _) ?_
        intro u hu
        simp only [List.append_nil, List.mem_append, List.mem_singleton] at hu
        rcases hu with hu | rfl
        · simpa using HA.out.2.2 u hu
        · simpa using hyl
      · exact (HC.out.set (by simp) _ _).trans (Ch.of_ext (Ext.refl _).drew)
    | cons z D =>
      obtain ⟨hsA, hx, hsB⟩ := (show _ ∧ _ ∧ _ from (seg_append (A ++ [y]) (x :: (z :: D)) none none).1 hs)
      obtain ⟨hAx, hBx, hAB, hnA, hnB⟩ := nd_split hn
      have hlx : lb ≠ x.b := ne_of_ty hb hx (by decide)
      have hxl : x.b ≠ lb := fun e => hlx e.symm
      replace hx : x.At 108 w kp (some ⟨z.b, 0, none⟩) (some ⟨y.b, 0, none⟩) := by rw [lsP_snoc] at hx; exact hx
      have hyx : y.b ≠ x.b := hAx y (by simp)
      have hxy : x.b ≠ y.b := fun e => hyx e.symm
      obtain ⟨hsA2, hy⟩ := (seg_snoc A y none _).1 hsA
      replace hy : y.At 108 w kp (some ⟨x.b, 0, none⟩) (lsP A none) := hy
      obtain ⟨hAy, -, -, -, -⟩ := nd_split (A := A) (x := y) (B := []) hnA
      have hly : lb ≠ y.b := ne_of_ty hb hy (by decide)
      have hyl : y.b ≠ lb := fun e => hly e.symm
      have hA2x : ∀ u ∈ A, u.b ≠ x.b := fun u hu => hAx u (by simp [hu])
      have hA2l : ∀ u ∈ A, u.b ≠ lb := fun u hu e => by
        obtain ⟨p, q, hu⟩ := hsA2.mem hu
        exact ne_of_ty hb hu (by decide) e.symm
      have HY := Lib.hid hy
      have HSA := Lib.hid hsA2
      have HA := Lib.hid (And.intro hAy (And.intro hA2x hA2l))
      have hzx : z.b ≠ x.b := hBx z (by simp)
      have hxz : x.b ≠ z.b := fun e => hzx e.symm
      obtain ⟨hz, hsD⟩ := (show _ ∧ _ from hsB)
      obtain ⟨-, hDz, -, -, -⟩ := nd_split (A := []) (x := z) (B := D) hnB
      have hlz : lb ≠ z.b := ne_of_ty hb hz (by decide)
      have hzl : z.b ≠ lb := fun e => hlz e.symm
      have hDx : ∀ u ∈ D, u.b ≠ x.b := fun u hu => hBx u (by simp [hu])
      have hDl : ∀ u ∈ D, u.b ≠ lb := fun u hu e => by
        obtain ⟨p, q, hu⟩ := hsD.mem hu
        exact ne_of_ty hb hu (by decide) e.symm
      have HZ := Lib.hid hz
      have HSD := Lib.hid hsD
      have HD := Lib.hid (And.intro hDz (And.intro hDx hDl))
      have hyz : y.b ≠ z.b := hAB y (by simp) z (by simp)
      have hzy : z.b ≠ y.b := fun e => hyz e.symm
      have hAz : ∀ u ∈ A, u.b ≠ z.b := fun u hu => hAB u (by simp [hu]) z (by simp)
      have hDy : ∀ u ∈ D, u.b ≠ y.b := fun u hu e => hAB y (by simp) u (by simp [hu]) e.symm
      have HAD := Lib.hid (And.intro hAz hDy)
      have HB := Lib.hid hb
      have HX := Lib.hid hx
      have HS := Lib.hid hS
      have x3 : w.cell? ⟨x.b, 3, none⟩ = some (.pointer (some ⟨z.b, 0, none⟩)) := blk_cell hx 3 rfl
      have x4 : w.cell? ⟨x.b, 4, none⟩ = some (.pointer (some ⟨y.b, 0, none⟩)) := blk_cell hx 4 rfl
      have fl : ∀ i, w.frozen? ⟨lb, i, none⟩ = false := fun i => blk_frozen hb i
      have fz : ∀ i, w.frozen? ⟨z.b, i, none⟩ = false := fun i => blk_frozen hz i
      have z4 : w.cell? ⟨z.b, 4, none⟩ = some (.pointer x.ptr) := blk_cell hz 4 rfl
      obtain ⟨FP, hFP⟩ : ∃ F, lsP ((A ++ [y]) ++ x :: (z :: D)) none = F := ⟨_, rfl⟩
      obtain ⟨BP, hBP⟩ : ∃ F, hdP ((A ++ [y]) ++ x :: (z :: D)) none = F := ⟨_, rfl⟩
      have HFP := Lib.hid hFP
      have HBP := Lib.hid hBP
      rw [hFP, hBP] at HB
      clear hb hx hs hn hS hsA hsB hAx hBx hAB hnA hnB hFP hBP hy hsA2 hAy hA2x hA2l hz hsD hDz hDx hDl hAz hDy
      unfold Nd.ptr
      go_enter Tryd.func42, Tryd.ntmps42
      go_upto_region 2 with (fail)
      go_region
      obtain ⟨W1, hW1⟩ : ∃ W, (w.setCell ⟨z.b, 4, none⟩ (.pointer (some ⟨y.b, 0, none⟩))).drew = W := ⟨_, rfl⟩
      rw [hW1]
      have Bl : W1.heap[lb]? = some (.cells #[v0, v1, v2, v3, v4, .pointer (FP), .pointer (BP), .int .i64 (sumN ((A ++ [y]) ++ x :: (z :: D)))] 97 (0, 0)) := by rw [← hW1]; show (w.setCell ⟨z.b, 4, none⟩ (.pointer (some ⟨y.b, 0, none⟩))).heap[lb]? = _; simp [heap_set, show w.heap[lb]? = _ from HB.out, hlz]
      have Bx : W1.heap[x.b]? = some (.cells #[.int .i64 x.k, .int .i64 x.n, .bool kp, .pointer (some ⟨z.b, 0, none⟩), .pointer (some ⟨y.b, 0, none⟩)] 108 (0, 0)) := by rw [← hW1]; show (w.setCell ⟨z.b, 4, none⟩ (.pointer (some ⟨y.b, 0, none⟩))).heap[x.b]? = _; simp [heap_set, show w.heap[x.b]? = _ from HX.out, hxz]
      have By : W1.heap[y.b]? = some (.cells #[.int .i64 y.k, .int .i64 y.n, .bool kp, .pointer (some ⟨x.b, 0, none⟩), .pointer (lsP A none)] 108 (0, 0)) := by rw [← hW1]; show (w.setCell ⟨z.b, 4, none⟩ (.pointer (some ⟨y.b, 0, none⟩))).heap[y.b]? = _; simp [heap_set, show w.heap[y.b]? = _ from HY.out, hyz]
      have Bz : W1.heap[z.b]? = some (.cells #[.int .i64 z.k, .int .i64 z.n, .bool kp, .pointer (hdP D none), .pointer (some ⟨y.b, 0, none⟩)] 108 (0, 0)) := by rw [← hW1]; show (w.setCell ⟨z.b, 4, none⟩ (.pointer (some ⟨y.b, 0, none⟩))).heap[z.b]? = _; simp [heap_set, stO, show w.heap[z.b]? = _ from HZ.out]
      have HC1 := Lib.hid (show Ch (lb :: List.map Nd.b ((A ++ [y]) ++ (z :: D))) w W1 by rw [← hW1]; exact ((Ch.refl _ _).set (by simp) _ _).trans (Ch.of_ext (Ext.refl _).drew))
      have HSA1 := Lib.hid (show Seg 108 W1 kp none A y.ptr from HSA.out.keep fun u hu => by
        have h1 := HA.out.1 u hu
        have h2 := HA.out.2.1 u hu
        have h3 := HA.out.2.2 u hu
        have h4 := HAD.out.1 u hu
        rw [← hW1]
        show (w.setCell ⟨z.b, 4, none⟩ (.pointer (some ⟨y.b, 0, none⟩))).heap[u.b]? = _
        simp [heap_set, h4])
      have HSD1 := Lib.hid (show Seg 108 W1 kp z.ptr D none from HSD.out.keep fun u hu => by
        have h1 := HD.out.1 u hu
        have h2 := HD.out.2.1 u hu
        have h3 := HD.out.2.2 u hu
        rw [← hW1]
        show (w.setCell ⟨z.b, 4, none⟩ (.pointer (some ⟨y.b, 0, none⟩))).heap[u.b]? = _
        simp [heap_set, h1])
      have HB1 := Lib.hid Bl
      have HX1 := Lib.hid Bx
      have x3' : W1.cell? ⟨x.b, 3, none⟩ = some (.pointer (some ⟨z.b, 0, none⟩)) := blk_cell Bx 3 rfl
      have x4' : W1.cell? ⟨x.b, 4, none⟩ = some (.pointer (some ⟨y.b, 0, none⟩)) := blk_cell Bx 4 rfl
      have fl' : ∀ i, W1.frozen? ⟨lb, i, none⟩ = false := fun i => blk_frozen Bl i
      have HY1 := Lib.hid By
      have fy' : ∀ i, W1.frozen? ⟨y.b, i, none⟩ = false := fun i => blk_frozen By i
      have y3' : W1.cell? ⟨y.b, 3, none⟩ = some (.pointer (some ⟨x.b, 0, none⟩)) := blk_cell By 3 rfl
      have HZ1 := Lib.hid Bz
      clear hW1 x3 x4 fl Bl Bx By Bz fz z4
      go_upto_region 5 with (fail)
      go_region
      go_upto_region 6 with (fail)
      obtain ⟨W5, hW⟩ : ∃ W, (W1.setCell ⟨y.b, 3, none⟩ (.pointer (some ⟨z.b, 0, none⟩))).drew = W := ⟨_, rfl⟩
      rw [hW]
      have hW5 := hW
      have Bl : W5.heap[lb]? = some (.cells #[v0, v1, v2, v3, v4, .pointer (FP), .pointer (BP), .int .i64 (sumN ((A ++ [y]) ++ x :: (z :: D)))] 97 (0, 0)) := by rw [← hW5]; show (W1.setCell ⟨y.b, 3, none⟩ (.pointer (some ⟨z.b, 0, none⟩))).heap[lb]? = _; simp [heap_set, show W1.heap[lb]? = _ from HB1.out, hly]
      have Bx : W5.heap[x.b]? = some (.cells #[.int .i64 x.k, .int .i64 x.n, .bool kp, .pointer (some ⟨z.b, 0, none⟩), .pointer (some ⟨y.b, 0, none⟩)] 108 (0, 0)) := by rw [← hW5]; show (W1.setCell ⟨y.b, 3, none⟩ (.pointer (some ⟨z.b, 0, none⟩))).heap[x.b]? = _; simp [heap_set, show W1.heap[x.b]? = _ from HX1.out, hxy]
      have By : W5.heap[y.b]? = some (.cells #[.int .i64 y.k, .int .i64 y.n, .bool kp, .pointer (some ⟨z.b, 0, none⟩), .pointer (lsP A none)] 108 (0, 0)) := by rw [← hW5]; show (W1.setCell ⟨y.b, 3, none⟩ (.pointer (some ⟨z.b, 0, none⟩))).heap[y.b]? = _; simp [heap_set, stO, show W1.heap[y.b]? = _ from HY1.out]
      have Bz : W5.heap[z.b]? = some (.cells #[.int .i64 z.k, .int .i64 z.n, .bool kp, .pointer (hdP D none), .pointer (some ⟨y.b, 0, none⟩)] 108 (0, 0)) := by rw [← hW5]; show (W1.setCell ⟨y.b, 3, none⟩ (.pointer (some ⟨z.b, 0, none⟩))).heap[z.b]? = _; simp [heap_set, show W1.heap[z.b]? = _ from HZ1.out, hzy]
      have HC := Lib.hid (show Ch (lb :: List.map Nd.b ((A ++ [y]) ++ (z :: D))) w W5 by rw [← hW5]; exact (HC1.out.set (by simp) _ _).trans (Ch.of_ext (Ext.refl _).drew))
      have hA5 : Seg 108 W5 kp none A y.ptr := HSA1.out.keep fun u hu => by
        have h1 := HA.out.1 u hu
        have h2 := HA.out.2.1 u hu
        have h3 := HA.out.2.2 u hu
        rw [← hW5]
        show (W1.setCell ⟨y.b, 3, none⟩ (.pointer (some ⟨z.b, 0, none⟩))).heap[u.b]? = _
        simp [heap_set, h1]
      have hD5 : Seg 108 W5 kp z.ptr D none := HSD1.out.keep fun u hu => by
        have h1 := HD.out.1 u hu
        have h2 := HD.out.2.1 u hu
        have h3 := HD.out.2.2 u hu
        have h4 := HAD.out.2 u hu
        rw [← hW5]
        show (W1.setCell ⟨y.b, 3, none⟩ (.pointer (some ⟨z.b, 0, none⟩))).heap[u.b]? = _
        simp [heap_set, h4]
      have hsg : Seg 108 W5 kp none ((A ++ [y]) ++ (z :: D)) none := (seg_append (A ++ [y]) (z :: D) none none).2 ⟨(seg_snoc A y none _).2 ⟨hA5, By⟩, by rw [lsP_snoc]; exact ⟨Bz, hD5⟩⟩
      clear hW5 By hA5 Bz hD5 x3' x4' fl' fy' y3' HB1 HX1 HC1
      clear hW
      have c2 : W5.cell? ⟨lb, 7, none⟩ = some (.int .i64 (sumN ((A ++ [y]) ++ x :: (z :: D)))) := blk_cell Bl 7 rfl
      have c1 : W5.cell? ⟨x.b, 1, none⟩ = some (.int .i64 x.n) := blk_cell Bx 1 rfl
      have c3 : W5.frozen? ⟨lb, 7, none⟩ = false := blk_frozen Bl 7
      have hS := HS.out
      obtain ⟨s0, hs0⟩ : ∃ s, sumN ((A ++ [y]) ++ x :: (z :: D)) = s := ⟨_, rfl⟩
      obtain ⟨n0, hn0⟩ : ∃ n, x.n = n := ⟨_, rfl⟩
      rw [hs0] at c2 hS
      rw [hn0] at c1 hS
      have hw : IntKind.i64.wrap (s0 - n0) = s0 - n0 := IntWalk.i64_in _ (by omega)
      have HBl := Lib.hid Bl
      have HW := Lib.hid hsg
      have HSN := Lib.hid (show sumN ((A ++ [y]) ++ (z :: D)) = s0 - n0 by rw [← hs0, ← hn0]; simp only [sumN_append, sumN_cons]; (try rw [show sumN [] = 0 from rfl]); omega)
      clear Bl Bx hs0 hn0
      go_region
      go_end0
      refine ⟨rfl, ?_, ?_, ?_⟩
      · have e1 : lsP ((A ++ [y]) ++ (z :: D)) none = FP := by rw [← HFP.out, lsP_append (A ++ [y]) (z :: D), lsP_append (A ++ [y]) (x :: z :: D)]; rfl
        have e2 : hdP ((A ++ [y]) ++ (z :: D)) none = BP := by rw [← HBP.out, hdP_append, hdP_append, hdP_append, hdP_append]; rfl
        show (W5.setCell ⟨lb, 7, none⟩ (.int .i64 (s0 - n0))).heap[lb]? = some (.cells #[v0, v1, v2, v3, v4, .pointer (lsP ((A ++ [y]) ++ (z :: D)) none), .pointer (hdP ((A ++ [y]) ++ (z :: D)) none), .int .i64 (sumN ((A ++ [y]) ++ (z :: D)))] 97 (0, 0))
        rw [e1, e2, HSN.out, set_blk (show W5.heap[lb]? = _ from HBl.out)]
        rfl
      · refine Seg.ext (w := W5.setCell ⟨lb, 7, none⟩ (.int .i64 (s0 - n0))) ?_ (Ext.refl _).drew
        refine Seg.far (S := [lb]) HW.out ((Ch.refl _ _).set (by simp) _ _) ?_
        intro u hu
        rcases List.mem_append.1 hu with hu | hu
        · rcases List.mem_append.1 hu with hu | hu
          · simpa using HA.out.2.2 u hu
          · rw [List.mem_singleton.1 hu]; simpa using hyl
        · rcases List.mem_cons.1 hu with rfl | hu
          · simpa using hzl
          · simpa using HD.out.2.2 u hu
      · exact (HC.out.set (by simp) _ _).trans (Ch.of_ext (Ext.refl _).drew)
end Go.Proofs.YtmcddajniiaieaaDoor
