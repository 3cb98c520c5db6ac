/- The law's play: both sides of every act. -/
import Derived.Test.YtgcplndmhlideaaGreatAlive
namespace Go.Proofs.YtgcplndmhlideaaGreat
open Go.RowKit

/-- An act, as its cells have it. -/
structure Ac where
  k : Int
  v : Int
  n : Int
  b : Int
def Ac.cells (a : Ac) : List Value := [.int .i64 a.k, .int .i64 a.v, .int .i64 a.n, .int .i64 a.b]
def ActsAt (w : World) (A : Option Addr) (l : List Ac) : Prop :=
  ∀ k (hk : k < l.length), ∃ b o, A = some ⟨b, o, none⟩ ∧ w.cell? ⟨b, o + k * 4, none⟩ = some (.int .i64 l[k].k) ∧ w.cell? ⟨b, o + k * 4 + 1, none⟩ = some (.int .i64 l[k].v) ∧ w.cell? ⟨b, o + k * 4 + 2, none⟩ = some (.int .i64 l[k].n) ∧ w.cell? ⟨b, o + k * 4 + 3, none⟩ = some (.int .i64 l[k].b)
theorem ActsAt.ext {w w' : World} {A : Option Addr} {l : List Ac} (h : ActsAt w A l) (hx : Ext w w') : ActsAt w' A l := fun k hk => by
  obtain ⟨b, o, e, p0, p1, p2, p3⟩ := h k hk
  exact ⟨b, o, e, hx.cell p0, hx.cell p1, hx.cell p2, hx.cell p3⟩
def actX (u : Int) (x : Ix) (a : Ac) : Ix :=
  if a.k = 0 then (putX u x a.v a.n a.b).1 else if a.k = 1 then ⟨dropS x.L a.v a.n, x.c⟩ else if a.k = 2 then ⟨forgS x.L a.v, x.c⟩ else x
def playX (u : Int) (l : List Ac) : Ix := l.foldl (actX u) ⟨[], 0⟩
/-- Small behind so many acts. -/
structure Few (u : Int) (m : Nat) (x : Ix) : Prop where
  fit : Fit u x
  len : x.L.length ≤ m
  c0 : 0 ≤ x.c
  c1 : x.c ≤ m
theorem Few.act {u : Int} {m : Nat} {x : Ix} (h : Few u m x) (hm : m < 900) (a : Ac) : Few u (m + 1) (actX u x a) := by
  have hp := h.fit.putX (by have := h.len; omega) (by have := h.c1; omega) a.v a.n a.b
  have := h.len
  have := h.c0
  have := h.c1
  unfold actX
  split
  · refine ⟨hp, ?_, ?_, ?_⟩
    all_goals unfold Go.Proofs.YtgcplndmhlideaaGreat.putX putS
    all_goals repeat' split
    all_goals simp
    all_goals omega
  split
  · exact ⟨h.fit.drop _ _, Nat.le_trans (List.length_filter_le _ _) (by omega), by omega, by show x.c ≤ _; omega⟩
  split
  · exact ⟨h.fit.forg _, Nat.le_trans (List.length_filter_le _ _) (by omega), by omega, by show x.c ≤ _; omega⟩
  · exact ⟨h.fit, by omega, by omega, by omega⟩
theorem few_new {u : Int} (h : uOk u = true) : Few u 0 ⟨[], 0⟩ := ⟨fit_new h, by simp, by simp, by simp⟩
theorem Few.play {u : Int} {m : Nat} {x : Ix} (h : Few u m x) (l : List Ac) (hm : m + l.length ≤ 900) : Few u (m + l.length) (l.foldl (actX u) x) := by
  induction l generalizing m x with
  | nil => exact h
  | cons a l ih =>
    simp only [List.length_cons] at hm ⊢
    have := ih (h.act (by omega) a) (by omega)
    rwa [show m + 1 + l.length = m + (l.length + 1) by omega] at this
theorem play_few {u : Int} (h : uOk u = true) (l : List Ac) (hl : l.length ≤ 900) : Few u l.length (playX u l) := by
  have := (few_new h).play l (by omega)
  rwa [Nat.zero_add] at this
theorem play_snoc (u : Int) (l : List Ac) (k : Nat) (hk : k < l.length) : playX u (l.take (k + 1)) = actX u (playX u (l.take k)) l[k] := by
  rw [List.take_succ_eq_append_getElem hk]
  unfold playX
  rw [List.foldl_append]; rfl
theorem few_take {u : Int} (h : uOk u = true) (l : List Ac) (hl : l.length ≤ 900) (k : Nat) (hk : k ≤ l.length) : Few u k (playX u (l.take k)) := by
  have := play_few h (l.take k) (by simp; omega)
  rwa [List.length_take, Nat.min_eq_left hk] at this

theorem Chx.blk {w w' : World} {xb b : Nat} {o : Obj} (h : Chx xb w w') (hb : w.heap[b]? = some o) (hne : b ≠ xb) : w'.heap[b]? = some o := (h.block b (Array.getElem?_eq_some_iff.1 hb).1 (by simp; exact fun e => hne e)).trans hb
theorem IxAt.setO {w : World} {xb rb : Nat} {u : Int} {x : Ix} (h : IxAt w xb u x) (hb : Apt rb w) (hne : rb ≠ xb) (j : Nat) (v : Value) : IxAt (w.setCell ⟨rb, j, none⟩ v) xb u x := by
  obtain ⟨p, q, lv, h1, h2, h3, h4⟩ := h
  exact ⟨p, q, lv, (Below.heap_setCell w ⟨rb, j, none⟩ v xb (by show xb ≠ rb; omega)).trans h1, h2.set hb j v, h3.set hb j v, h4.set hb j v⟩
theorem IxAt.set3 {w : World} {xb b : Nat} {u : Int} {X : Ix} (h : IxAt w xb u X) {x y z : Value} {t : TypeId} (hb : w.heap[b]? = some (.cells #[x, y, z] t (0, 0))) (ht : t ≠ 123 ∧ t ≠ 148 ∧ t ≠ 135) (hne : b ≠ xb) (p q r : Value) :
    IxAt (((w.setCell ⟨b, 0, none⟩ p).setCell ⟨b, 1, none⟩ q).setCell ⟨b, 2, none⟩ r) xb u X :=
  ((h.setO (Apt.of hb ht) hne 0 p).setO ((Apt.of hb ht).set 0 p) hne 1 q).setO (((Apt.of hb ht).set 0 p).set 1 q) hne 2 r
theorem far3 {w : World} {b g : Nat} (p q r : Value) (hne : g ≠ b) : (((w.setCell ⟨b, 0, none⟩ p).setCell ⟨b, 1, none⟩ q).setCell ⟨b, 2, none⟩ r).heap[g]? = w.heap[g]? :=
  ((Below.heap_setCell _ ⟨b, 2, none⟩ r g hne).trans (Below.heap_setCell _ ⟨b, 1, none⟩ q g hne)).trans (Below.heap_setCell w ⟨b, 0, none⟩ p g hne)

/-- What play has brought forth. -/
def PlayPost (w : World) (u : Int) (l : List Ac) (e : Ending) (w' : World) : Prop :=
  (uOk u = true ∧ ∃ xb N v, e = .returned (.tuple #[.pointer (some ⟨xb, 0, none⟩), .agg #[.int .i64 u, .int .i64 (playX u l).c, v], .bool true]) ∧ w.heap.size ≤ xb ∧ xb < N ∧ N ≤ w'.heap.size ∧ IxAt w' xb u (playX u l) ∧ RowS w' N v (playX u l).L ∧ Ext w w') ∨
  (uOk u = false ∧ e = .returned (.tuple #[.pointer none, .agg #[.int .i64 0, .int .i64 0, .slice none 0 0], .bool true]) ∧ Ext w w')

set_option maxHeartbeats 2000000 in
set_option maxRecDepth 100000 in
theorem play_calls (A : Option Addr) (c : Nat) (l : List Ac) (u : Int) (w : World) (h : ActsAt w A l) (hi : ∀ a ∈ l, I64 a.n) (hl : l.length ≤ 60) : Calls Tryz.prog 5 #[.slice A l.length c, .int .i64 u] w (PlayPost w u l) := by
  have hx0 : Ext w (w.alloc (.cells #[.int .i64 0, .int .i64 0, .slice none 0 0] 27)) := (Ext.refl w).alloc _
  have hb0 := heap_alloc_new w (.cells #[.int .i64 0, .int .i64 0, .slice none 0 0] 27)
  have HB0 := Lib.hid hb0
  have HA := Lib.hid h
  have HI64 := Lib.hid hi
  clear h hb0 hi
  go_enter Tryz.func5, Tryz.ntmps5
  go_upto_region 1 with (fail)
  generalize w.alloc (.cells #[.int .i64 0, .int .i64 0, .slice none 0 0] 27) = W at *
  go_wp2_with fail
  refine (xnew_calls u W).mono ?_
  rintro e w1 (⟨hu, rfl, hix, hx1⟩ | ⟨hu, rfl, hx1⟩)
  · go_wp2_with fail
    refine (rnew_calls u w1).mono ?_
    rintro e w2 (⟨_, rfl, hx2⟩ | ⟨hu', _⟩)
    rotate_left
    · rw [hu] at hu'; cases hu'
    go_upto_region 3 with (fail)
    have hm0 := heap_alloc_new w2 (.cells #[.int .i64 u, .int .i64 0, .slice none 0 0] 27)
    have hx13 : Ext w1 (w2.alloc (.cells #[.int .i64 u, .int .i64 0, .slice none 0 0] 27)) := hx2.alloc _
    have hix3 := hix.ext hx13
    have hb0 := (hx1.trans hx13).block HB0.out
    have hxw := hx0.trans (hx1.trans hx13)
    have hsz : w.heap.size < W.heap.size := (Array.getElem?_eq_some_iff.1 HB0.out).1
    have hsz1 : W.heap.size < w1.heap.size := by obtain ⟨p, q, lv, hb, _⟩ := hix; exact (Array.getElem?_eq_some_iff.1 hb).1
    have hsz2 := hx2.size
    have hsz3 : w2.heap.size < (w2.alloc (.cells #[.int .i64 u, .int .i64 0, .slice none 0 0] 27)).heap.size := by simp
    generalize (w2.alloc (.cells #[.int .i64 u, .int .i64 0, .slice none 0 0] 27)) = w3 at *
    generalize hxb : W.heap.size = xb at *
    generalize hmb : w2.heap.size = mb at *
    have HXB := Lib.hid hxb
    have HSZ := Lib.hid (And.intro hsz (And.intro (show xb < mb by omega) hsz3))
    have HU := Lib.hid hu
    have HIX := Lib.hid hix3
    have HB := Lib.hid hb0
    have HM := Lib.hid hm0
    have HXW := Lib.hid hxw
    clear hm0 hx13 hix3 hb0 hxw hsz hsz1 hsz2 hsz3 hix hx0 hx1 hx2 HB0 hu hxb hmb
    go_wp2
    go_loopw [51] (fun i wr => ∃ k : Nat, k ≤ l.length ∧ i = .int .i64 k ∧ ∃ v, IxAt wr xb u (playX u (l.take k)) ∧ wr.heap[mb]? = some (.cells #[.int .i64 u, .int .i64 (playX u (l.take k)).c, v] 27 (0, 0)) ∧ RowS wr w3.heap.size v (playX u (l.take k)).L ∧ Ext w wr ∧ wr.heap[w.heap.size]? = some (.cells #[.int .i64 0, .int .i64 0, .slice none 0 0] 27 (0, 0)) ∧ w3.heap.size ≤ wr.heap.size) (fun i _ => l.length - (intOf i).toNat)
    case atStart => exact ⟨0, Nat.zero_le _, rfl, _, HIX.out, HM.out, RowS.nil _ _, HXW.out, HB.out, Nat.le_refl _⟩
    case round =>
      obtain ⟨k, hk, rfl, v, hix, hmm, hrow, hxw, hbb, hsz⟩ := hrel
      have hfew := few_take HU.out l (by omega) k hk
      have hsn := fun hlt => play_snoc u l k hlt
      have HPL : Hid (∀ k', k' = l.length → playX u (l.take k') = playX u l) := Lib.hid fun k' e => by rw [e, List.take_length]
      obtain ⟨X, hX⟩ : ∃ X, playX u (l.take k) = X := ⟨_, rfl⟩
      rw [hX] at hix hmm hrow hfew hsn
      obtain ⟨A', cp, rfl, -⟩ := own_shape (show wr.ownsRow w3.heap.size 84 4 v X.L.length (slsV X.L) from hrow)
      have HX := Lib.hid hX
      have HSN := Lib.hid hsn
      have HMM := Lib.hid hmm
      have HROW := Lib.hid hrow
      have HXR := Lib.hid hxw
      have HBB := Lib.hid hbb
      have HIR := Lib.hid hix
      have HFW := Lib.hid hfew
      clear hX hsn hix hfew HIX HB HM HXW
      by_cases hlt : k < l.length
      · have HLT := Lib.hid hlt
        obtain ⟨b, o, rfl, p0, p1, p2, p3⟩ := (HA.out.ext hxw) k hlt
        have hs1 : playX u (l.take (k + 1)) = actX u X l[k] := HSN.out hlt
        obtain ⟨a, ha⟩ : ∃ a, l[k] = a := ⟨_, rfl⟩
        replace p0 : wr.cell? ⟨b, o + k * 4, none⟩ = some (.int .i64 l[k].k) := p0
        replace p1 : wr.cell? ⟨b, o + k * 4 + 1, none⟩ = some (.int .i64 l[k].v) := p1
        replace p2 : wr.cell? ⟨b, o + k * 4 + 2, none⟩ = some (.int .i64 l[k].n) := p2
        replace p3 : wr.cell? ⟨b, o + k * 4 + 3, none⟩ = some (.int .i64 l[k].b) := p3
        rw [ha] at hs1 p0 p1 p2 p3
        have HS1 := Lib.hid hs1
        clear hmm hrow hxw hbb hs1 HSN
        have HMEM : Hid (a ∈ l) := Lib.hid (ha ▸ List.getElem_mem hlt)
        clear ha
        obtain ⟨ak, av, an, ab⟩ := a
        dsimp only at p0 p1 p2 p3
        go_upto_region 10 with (fail)
        have hx1 : Ext wr (wr.alloc (.cells #[.int .i64 ak, .int .i64 av, .int .i64 an, .int .i64 ab] 60)) := (Ext.refl wr).alloc _
        have hbx := heap_alloc_new wr (.cells #[.int .i64 ak, .int .i64 av, .int .i64 an, .int .i64 ab] 60)
        have hsz1 : wr.heap.size < (wr.alloc (.cells #[.int .i64 ak, .int .i64 av, .int .i64 an, .int .i64 ab] 60)).heap.size := by simp
        replace HMM := Lib.hid (hx1.block HMM.out)
        replace HBB := Lib.hid (hx1.block HBB.out)
        replace HROW := Lib.hid (HROW.out.ext hx1)
        replace HIR := Lib.hid (HIR.out.ext hx1)
        replace HXR := Lib.hid (HXR.out.trans hx1)
        obtain ⟨tb, htb⟩ : ∃ tb, wr.heap.size = tb := ⟨_, rfl⟩
        rw [htb] at hsz hbx hsz1
        rw [htb]
        clear hx1 p0 p1 p2 p3
        generalize (wr.alloc (.cells #[.int .i64 ak, .int .i64 av, .int .i64 an, .int .i64 ab] 60)) = w4 at *
        clear htb wr
        have t0 : w4.cell? ⟨tb, 0, none⟩ = some (.int .i64 ak) := cell_blk hbx 0 rfl
        have HBX := Lib.hid hbx
        clear hbx
        cases e0 : (ak == 0)
        · cases e1 : (ak == 1)
          · cases e2 : (ak == 2)
            · have hact : actX u X ⟨ak, av, an, ab⟩ = X := by
                unfold actX
                simp at e0 e1 e2
                simp [e0, e1, e2]
              rw [hact] at HS1
              clear hact
              go_wp2
              go_roundw
              case rel => exact ⟨k + 1, by omega, by go_num, _, by rw [HS1.out]; exact HIR.out, by rw [HS1.out]; exact HMM.out, by rw [HS1.out]; exact HROW.out, HXR.out, HBB.out, by omega⟩
              case measure => simp [intOf]; omega
            · have hact : actX u X ⟨ak, av, an, ab⟩ = ⟨forgS X.L av, X.c⟩ := by
                unfold actX
                simp at e0 e1 e2
                simp [e0, e1, e2]
              rw [hact] at HS1
              clear hact
              obtain ⟨X2, hX2⟩ : ∃ X2 : Ix, ⟨forgS X.L av, X.c⟩ = X2 := ⟨_, rfl⟩
              obtain ⟨R, hR⟩ : ∃ R, (sumS (X.L.filter fun s => decide (s.v = av))) = R := ⟨_, rfl⟩
              have HC1 : Hid (∀ W, IxAt W xb u X → Calls Tryz.prog 18 #[.pointer (some ⟨xb, 0, none⟩), .int .i64 av] W (XPost W xb u X2 (.int .i64 R))) := Lib.hid fun W h => by
                have := xforget_calls xb u X av W h HFW.out.fit
                rwa [hX2, hR] at this
              have HC2 : Hid (∀ W, RowS W w3.heap.size (.slice A' X.L.length cp) X.L → w3.heap.size ≤ W.heap.size → Calls Tryz.prog 25 #[.agg #[.int .i64 u, .int .i64 X.c, .slice A' X.L.length cp], .int .i64 av] W (RPost W w3.heap.size u X2.c X2.L (.int .i64 R))) := Lib.hid fun W h _ => by
                have := rforg_calls u X.c A' cp w3.heap.size X.L av W h (by omega) (by have := HFW.out.len; omega) (fun s hs => by have := (HFW.out.fit.ok.ok s hs).2.2.2.2; have := HFW.out.fit.u1; omega)
                rw [hR] at this
                have e1 : X2.c = X.c := by rw [← hX2]
                have e2 : X2.L = forgS X.L av := by rw [← hX2]
                rwa [e1, e2]
              rw [hX2] at HS1
              have hmx : mb ≠ xb := by have := HSZ.out; omega
              have hrx : w.heap.size ≠ xb := by have := HSZ.out; omega
              have hx3 : xb < w3.heap.size := by have := HSZ.out; omega
              have htx : tb ≠ xb := by omega
              have hwx : w.heap.size ≤ xb := by have := HSZ.out; omega
              have t1 : w4.cell? ⟨tb, 1, none⟩ = some (.int .i64 av) := cell_blk HBX.out 1 rfl
              have t2 : w4.cell? ⟨tb, 2, none⟩ = some (.int .i64 an) := cell_blk HBX.out 2 rfl
              have t3 : w4.cell? ⟨tb, 3, none⟩ = some (.int .i64 ab) := cell_blk HBX.out 3 rfl
              have HNE := Lib.hid (And.intro hmx (And.intro hrx (And.intro hx3 (And.intro htx hwx))))
              clear hX2 hR hmx hrx hx3 htx hwx
              have hxc := Ext.refl w4
              go_wp2_with fail
              refine (HC1.out _ HIR.out).mono ?_
              rintro e wd ⟨rfl, hid, hcd⟩
              have hmm := hcd.blk (hxc.block HMM.out) HNE.out.1
              have hbb := hcd.blk (hxc.block HBB.out) HNE.out.2.1
              have hbx := hcd.blk (hxc.block HBX.out) HNE.out.2.2.2.1
              have hro := (HROW.out.ext hxc).chx hcd HNE.out.2.2.1
              have hxr := (HXR.out.trans hxc).chx hcd HNE.out.2.2.2.2
              have hsd : w3.heap.size ≤ wd.heap.size := by have := hxc.size; have := hcd.size; omega
              have HMM5 := Lib.hid hmm
              have HBB5 := Lib.hid hbb
              have HRO5 := Lib.hid hro
              have HXR5 := Lib.hid hxr
              have HID5 := Lib.hid hid
              have m0 : wd.cell? ⟨mb, 0, none⟩ = some (.int .i64 u) := cell_blk hmm 0 rfl
              have m1 : wd.cell? ⟨mb, 1, none⟩ = some (.int .i64 X.c) := cell_blk hmm 1 rfl
              have m2 : wd.cell? ⟨mb, 2, none⟩ = some (.slice A' X.L.length cp) := cell_blk hmm 2 rfl
              have b1 : wd.cell? ⟨tb, 1, none⟩ = some (.int .i64 av) := cell_blk hbx 1 rfl
              have b2 : wd.cell? ⟨tb, 2, none⟩ = some (.int .i64 an) := cell_blk hbx 2 rfl
              have b3 : wd.cell? ⟨tb, 3, none⟩ = some (.int .i64 ab) := cell_blk hbx 3 rfl
              clear hmm hbb hbx hro hxr hid hcd hxc HMM HBB HROW HXR HIR HBX HC1
              go_wp2_with fail
              refine (HC2.out wd HRO5.out hsd).mono ?_
              rintro e we ⟨v', rfl, hrow', hxe⟩
              obtain ⟨A2, cp2, rfl, -⟩ := own_shape (show we.ownsRow w3.heap.size 84 4 v' X2.L.length (slsV X2.L) from hrow')
              have hxf := hxe.alloc (.cells #[.int .i64 u, .int .i64 X2.c, .slice A2 X2.L.length cp2] 27)
              have hmf := hxf.block HMM5.out
              have y0 := frozen_blk hmf 0
              have y1 := frozen_blk hmf 1
              have y2 := frozen_blk hmf 2
              have m0' := hxf.cell m0
              have m1' := hxf.cell m1
              have m2' := hxf.cell m2
              have hbn := heap_alloc_new we (.cells #[.int .i64 u, .int .i64 X2.c, .slice A2 X2.L.length cp2] 27)
              have hrf := hrow'.ext ((Ext.refl we).alloc (.cells #[.int .i64 u, .int .i64 X2.c, .slice A2 X2.L.length cp2] 27))
              have HMF := Lib.hid hmf
              have HRF := Lib.hid hrf
              have HBF := Lib.hid (hxf.block HBB5.out)
              have HIF := Lib.hid (HID5.out.ext hxf)
              have HXF := Lib.hid (HXR5.out.trans hxf)
              have hsf := hxf.size
              have n0 : (we.alloc (.cells #[.int .i64 u, .int .i64 X2.c, .slice A2 X2.L.length cp2] 27)).cell? ⟨we.heap.size, 0, none⟩ = some (.int .i64 u) := cell_blk hbn 0 rfl
              have n1 : (we.alloc (.cells #[.int .i64 u, .int .i64 X2.c, .slice A2 X2.L.length cp2] 27)).cell? ⟨we.heap.size, 1, none⟩ = some (.int .i64 X2.c) := cell_blk hbn 1 rfl
              have n2 : (we.alloc (.cells #[.int .i64 u, .int .i64 X2.c, .slice A2 X2.L.length cp2] 27)).cell? ⟨we.heap.size, 2, none⟩ = some (.slice A2 X2.L.length cp2) := cell_blk hbn 2 rfl
              clear hmf hrf hbn hrow' hxe hxf m0 m1 m2 b1 b2 b3 HMM5 HBB5 HRO5 HXR5 HID5 HC2
              go_upto_region 23 with (fail)
              generalize hnb : we.heap.size = nb at *
              generalize (we.alloc (.cells #[.int .i64 u, .int .i64 X2.c, .slice A2 X2.L.length cp2] 27)) = w6 at *
              go_wp2
              have hmr : mb ≠ w.heap.size := by have := HSZ.out; omega
              go_roundw
              case rel =>
                refine ⟨k + 1, by omega, by go_num, .slice A2 X2.L.length cp2, ?_, ?_, ?_, ?_, ?_, ?_⟩
                · rw [HS1.out]
                  exact HIF.out.set3 HMF.out (by decide) HNE.out.1 _ _ _
                · rw [HS1.out]
                  exact set3_cells HMF.out _ _ _
                · rw [HS1.out]
                  exact HRF.out.set3 HMF.out (by decide) _ _ _
                · exact HXF.out.set3 (by have := HSZ.out; omega) _ _ _
                · exact (far3 _ _ _ (fun e => hmr e.symm)).trans HBF.out
                · have : w3.heap.size ≤ w6.heap.size := by omega
                  simpa [World.setCell] using this
              case measure => simp [intOf]; omega
          · have hact : actX u X ⟨ak, av, an, ab⟩ = ⟨dropS X.L av an, X.c⟩ := by
              unfold actX
              simp at e0 e1
              simp [e0, e1]
            rw [hact] at HS1
            clear hact
            obtain ⟨X2, hX2⟩ : ∃ X2 : Ix, ⟨dropS X.L av an, X.c⟩ = X2 := ⟨_, rfl⟩
            obtain ⟨R, hR⟩ : ∃ R, (getS X.L av an).isSome = R := ⟨_, rfl⟩
            have HC1 : Hid (∀ W, IxAt W xb u X → Calls Tryz.prog 23 #[.pointer (some ⟨xb, 0, none⟩), .agg #[.int .i64 av, .int .i64 an]] W (XPost W xb u X2 (.bool R))) := Lib.hid fun W h => by
              have := xdrop_calls xb u X av an W h HFW.out.fit (HI64.out _ HMEM.out)
              rwa [hX2, hR] at this
            have HC2 : Hid (∀ W, RowS W w3.heap.size (.slice A' X.L.length cp) X.L → w3.heap.size ≤ W.heap.size → Calls Tryz.prog 24 #[.agg #[.int .i64 u, .int .i64 X.c, .slice A' X.L.length cp], .agg #[.int .i64 av, .int .i64 an]] W (RPost W w3.heap.size u X2.c X2.L (.bool R))) := Lib.hid fun W h _ => by
              have := rdrop_calls u X.c A' cp w3.heap.size X.L av an W h (by omega) (by have := HFW.out.len; omega)
              rw [hR] at this
              have e1 : X2.c = X.c := by rw [← hX2]
              have e2 : X2.L = dropS X.L av an := by rw [← hX2]
              rwa [e1, e2]
            rw [hX2] at HS1
            have hmx : mb ≠ xb := by have := HSZ.out; omega
            have hrx : w.heap.size ≠ xb := by have := HSZ.out; omega
            have hx3 : xb < w3.heap.size := by have := HSZ.out; omega
            have htx : tb ≠ xb := by omega
            have hwx : w.heap.size ≤ xb := by have := HSZ.out; omega
            have t1 : w4.cell? ⟨tb, 1, none⟩ = some (.int .i64 av) := cell_blk HBX.out 1 rfl
            have t2 : w4.cell? ⟨tb, 2, none⟩ = some (.int .i64 an) := cell_blk HBX.out 2 rfl
            have t3 : w4.cell? ⟨tb, 3, none⟩ = some (.int .i64 ab) := cell_blk HBX.out 3 rfl
            have HNE := Lib.hid (And.intro hmx (And.intro hrx (And.intro hx3 (And.intro htx hwx))))
            clear hX2 hR hmx hrx hx3 htx hwx
            go_wp2_with fail
            refine (name_calls av an w4).mono ?_
            rintro e wc ⟨rfl, hxc⟩
            go_wp2_with fail
            refine (HC1.out _ (HIR.out.ext hxc)).mono ?_
            rintro e wd ⟨rfl, hid, hcd⟩
            have hmm := hcd.blk (hxc.block HMM.out) HNE.out.1
            have hbb := hcd.blk (hxc.block HBB.out) HNE.out.2.1
            have hbx := hcd.blk (hxc.block HBX.out) HNE.out.2.2.2.1
            have hro := (HROW.out.ext hxc).chx hcd HNE.out.2.2.1
            have hxr := (HXR.out.trans hxc).chx hcd HNE.out.2.2.2.2
            have hsd : w3.heap.size ≤ wd.heap.size := by have := hxc.size; have := hcd.size; omega
            have HMM5 := Lib.hid hmm
            have HBB5 := Lib.hid hbb
            have HRO5 := Lib.hid hro
            have HXR5 := Lib.hid hxr
            have HID5 := Lib.hid hid
            have m0 : wd.cell? ⟨mb, 0, none⟩ = some (.int .i64 u) := cell_blk hmm 0 rfl
            have m1 : wd.cell? ⟨mb, 1, none⟩ = some (.int .i64 X.c) := cell_blk hmm 1 rfl
            have m2 : wd.cell? ⟨mb, 2, none⟩ = some (.slice A' X.L.length cp) := cell_blk hmm 2 rfl
            have b1 : wd.cell? ⟨tb, 1, none⟩ = some (.int .i64 av) := cell_blk hbx 1 rfl
            have b2 : wd.cell? ⟨tb, 2, none⟩ = some (.int .i64 an) := cell_blk hbx 2 rfl
            have b3 : wd.cell? ⟨tb, 3, none⟩ = some (.int .i64 ab) := cell_blk hbx 3 rfl
            clear hmm hbb hbx hro hxr hid hcd hxc HMM HBB HROW HXR HIR HBX HC1
            go_wp2_with fail
            refine (HC2.out wd HRO5.out hsd).mono ?_
            rintro e we ⟨v', rfl, hrow', hxe⟩
            obtain ⟨A2, cp2, rfl, -⟩ := own_shape (show we.ownsRow w3.heap.size 84 4 v' X2.L.length (slsV X2.L) from hrow')
            have hxf := hxe.alloc (.cells #[.int .i64 u, .int .i64 X2.c, .slice A2 X2.L.length cp2] 27)
            have hmf := hxf.block HMM5.out
            have y0 := frozen_blk hmf 0
            have y1 := frozen_blk hmf 1
            have y2 := frozen_blk hmf 2
            have m0' := hxf.cell m0
            have m1' := hxf.cell m1
            have m2' := hxf.cell m2
            have hbn := heap_alloc_new we (.cells #[.int .i64 u, .int .i64 X2.c, .slice A2 X2.L.length cp2] 27)
            have hrf := hrow'.ext ((Ext.refl we).alloc (.cells #[.int .i64 u, .int .i64 X2.c, .slice A2 X2.L.length cp2] 27))
            have HMF := Lib.hid hmf
            have HRF := Lib.hid hrf
            have HBF := Lib.hid (hxf.block HBB5.out)
            have HIF := Lib.hid (HID5.out.ext hxf)
            have HXF := Lib.hid (HXR5.out.trans hxf)
            have hsf := hxf.size
            have n0 : (we.alloc (.cells #[.int .i64 u, .int .i64 X2.c, .slice A2 X2.L.length cp2] 27)).cell? ⟨we.heap.size, 0, none⟩ = some (.int .i64 u) := cell_blk hbn 0 rfl
            have n1 : (we.alloc (.cells #[.int .i64 u, .int .i64 X2.c, .slice A2 X2.L.length cp2] 27)).cell? ⟨we.heap.size, 1, none⟩ = some (.int .i64 X2.c) := cell_blk hbn 1 rfl
            have n2 : (we.alloc (.cells #[.int .i64 u, .int .i64 X2.c, .slice A2 X2.L.length cp2] 27)).cell? ⟨we.heap.size, 2, none⟩ = some (.slice A2 X2.L.length cp2) := cell_blk hbn 2 rfl
            clear hmf hrf hbn hrow' hxe hxf m0 m1 m2 b1 b2 b3 HMM5 HBB5 HRO5 HXR5 HID5 HC2
            go_upto_region 19 with (fail)
            generalize hnb : we.heap.size = nb at *
            generalize (we.alloc (.cells #[.int .i64 u, .int .i64 X2.c, .slice A2 X2.L.length cp2] 27)) = w6 at *
            go_wp2
            have hmr : mb ≠ w.heap.size := by have := HSZ.out; omega
            go_roundw
            case rel =>
              refine ⟨k + 1, by omega, by go_num, .slice A2 X2.L.length cp2, ?_, ?_, ?_, ?_, ?_, ?_⟩
              · rw [HS1.out]
                exact HIF.out.set3 HMF.out (by decide) HNE.out.1 _ _ _
              · rw [HS1.out]
                exact set3_cells HMF.out _ _ _
              · rw [HS1.out]
                exact HRF.out.set3 HMF.out (by decide) _ _ _
              · exact HXF.out.set3 (by have := HSZ.out; omega) _ _ _
              · exact (far3 _ _ _ (fun e => hmr e.symm)).trans HBF.out
              · have : w3.heap.size ≤ w6.heap.size := by omega
                simpa [World.setCell] using this
            case measure => simp [intOf]; omega
        · have hact : actX u X ⟨ak, av, an, ab⟩ = (putX u X av an ab).1 := by
            unfold actX
            simp at e0
            simp [e0]
          rw [hact] at HS1
          clear hact
          obtain ⟨X2, hX2⟩ : ∃ X2 : Ix, (putX u X av an ab).1 = X2 := ⟨_, rfl⟩
          obtain ⟨R, hR⟩ : ∃ R, (putX u X av an ab).2 = R := ⟨_, rfl⟩
          have HC1 : Hid (∀ W, IxAt W xb u X → Calls Tryz.prog 16 #[.pointer (some ⟨xb, 0, none⟩), .agg #[.int .i64 av, .int .i64 an], .int .i64 ab] W (XPost W xb u X2 (.int .i64 R))) := Lib.hid fun W h => by
            have := xput_calls xb u X av an ab W h HFW.out.fit
            rwa [hX2, hR] at this
          have HC2 : Hid (∀ W, RowS W w3.heap.size (.slice A' X.L.length cp) X.L → w3.heap.size ≤ W.heap.size → Calls Tryz.prog 22 #[.agg #[.int .i64 u, .int .i64 X.c, .slice A' X.L.length cp], .agg #[.int .i64 av, .int .i64 an], .int .i64 ab] W (RPost W w3.heap.size u X2.c X2.L (.int .i64 R))) := Lib.hid fun W h _ => by
            have := rput_calls u X.c A' cp w3.heap.size X.L av an ab W h (by omega) (by have := HFW.out.len; omega) HFW.out.c0 (by have := HFW.out.c1; omega)
            rwa [show (⟨X.L, X.c⟩ : Ix) = X from rfl, hX2, hR] at this
          rw [hX2] at HS1
          have hmx : mb ≠ xb := by have := HSZ.out; omega
          have hrx : w.heap.size ≠ xb := by have := HSZ.out; omega
          have hx3 : xb < w3.heap.size := by have := HSZ.out; omega
          have htx : tb ≠ xb := by omega
          have hwx : w.heap.size ≤ xb := by have := HSZ.out; omega
          have t1 : w4.cell? ⟨tb, 1, none⟩ = some (.int .i64 av) := cell_blk HBX.out 1 rfl
          have t2 : w4.cell? ⟨tb, 2, none⟩ = some (.int .i64 an) := cell_blk HBX.out 2 rfl
          have t3 : w4.cell? ⟨tb, 3, none⟩ = some (.int .i64 ab) := cell_blk HBX.out 3 rfl
          have HNE := Lib.hid (And.intro hmx (And.intro hrx (And.intro hx3 (And.intro htx hwx))))
          clear hX2 hR hmx hrx hx3 htx hwx
          go_upto_region 13 with (fail)
          have hd : Ext w4 w4.drew := (Ext.refl w4).drew
          have keep : Hid (∀ W' : World, W'.heap[tb]? = some (.cells #[.int .i64 ak, .int .i64 av, .int .i64 an, .int .i64 ab] 60 (0, 0)) → W'.cell? ⟨tb, 1, none⟩ = some (.int .i64 av) ∧ W'.cell? ⟨tb, 2, none⟩ = some (.int .i64 an) ∧ W'.cell? ⟨tb, 3, none⟩ = some (.int .i64 ab)) := Lib.hid fun W' h => ⟨cell_blk h 1 rfl, cell_blk h 2 rfl, cell_blk h 3 rfl⟩
          clear t0 t1 t2 t3
          refine wp_region_noPanic ?_
          refine wp_region_held_drew (S := fun w' => w'.cell? ⟨tb, 1, none⟩ = some (.int .i64 av) ∧ w'.cell? ⟨tb, 2, none⟩ = some (.int .i64 an) ∧ w'.cell? ⟨tb, 3, none⟩ = some (.int .i64 ab)) (by kernel_rfl) ?_ (fun hHeld => ?_)
          · exact keep.out _ (hd.block HBX.out)
          refine wpAnyH_take (i := 0) (v := ?_) rfl (by kernel_rfl) (by kernel_rfl) (by kernel_rfl) (fun _ _ _ h => h) (Or.inl ⟨by rfl, ?_⟩) (by assumption) ?_
          rotate_left
          · intro w hSw
            try dsimp only at hSw
            go_simp
            try with_reducible rfl
          try simp only [Act.put]
          try simp only [List.setIfInBounds_toArray]
          try simp only [List.set_cons_succ]
          try simp only [List.set_cons_zero]
          refine wpAnyH_take (i := 1) (v := ?_) rfl (by kernel_rfl) (by kernel_rfl) (by kernel_rfl) (fun _ _ _ h => h) (Or.inl ⟨by rfl, ?_⟩) (by assumption) ?_
          rotate_left
          · intro w hSw
            try dsimp only at hSw
            go_simp
            try with_reducible rfl
          try simp only [Act.put]
          try simp only [List.setIfInBounds_toArray]
          try simp only [List.set_cons_succ]
          try simp only [List.set_cons_zero]
          refine wpAnyH_take (i := 2) (v := ?_) rfl (by kernel_rfl) (by kernel_rfl) (by kernel_rfl) (fun _ _ _ h => h) (Or.inl ⟨by rfl, ?_⟩) (by assumption) ?_
          rotate_left
          · intro w hSw
            try dsimp only at hSw
            go_simp
            try with_reducible rfl
          try simp only [Act.put]
          try simp only [List.setIfInBounds_toArray]
          try simp only [List.set_cons_succ]
          try simp only [List.set_cons_zero]
          refine wpAnyH_take (i := 4) (v := ?_) rfl (by kernel_rfl) (by kernel_rfl) (by kernel_rfl) (fun _ _ _ h => h) (Or.inl ⟨by rfl, ?_⟩) (by assumption) ?_
          rotate_left
          · intro w hSw
            try dsimp only at hSw
            go_simp
            try with_reducible rfl
          try simp only [Act.put]
          try simp only [List.setIfInBounds_toArray]
          try simp only [List.set_cons_succ]
          try simp only [List.set_cons_zero]
          refine wpAnyH_take (i := 5) (v := ?_) rfl (by kernel_rfl) (by kernel_rfl) (by kernel_rfl) (fun _ _ _ h => h) (Or.inl ⟨by rfl, ?_⟩) (by assumption) ?_
          rotate_left
          · intro w hSw
            try dsimp only at hSw
            go_simp
            try with_reducible rfl
          try simp only [Act.put]
          try simp only [List.setIfInBounds_toArray]
          try simp only [List.set_cons_succ]
          try simp only [List.set_cons_zero]
          refine wpAnyH_ready (rs := [3]) (by kernel_rfl) (by simp) ?_
          refine AllReadyH.cons rfl (fun K hK => ?_) AllReadyH.nil
          go_simp
          refine (name_calls av an w4.drew).mono ?_
          rintro e wc ⟨rfl, hxc⟩
          replace hxc := hd.trans hxc
          go_simp
          refine hK.out _ _ ?_ (fun hHeld2 => ?_)
          · exact keep.out _ (hxc.block HBX.out)
          clear hHeld
          have hHeld := hHeld2
          clear hHeld2 hK K
          try simp only [Act.put]
          try simp only [List.setIfInBounds_toArray]
          try simp only [List.set_cons_succ]
          try simp only [List.set_cons_zero]
          refine wpAnyH_ready (rs := [6]) (by kernel_rfl) (by simp) ?_
          refine AllReadyH.cons rfl (fun K hK => ?_) AllReadyH.nil
          go_simp
          refine (HC1.out _ (HIR.out.ext hxc)).mono ?_
          rintro e wd ⟨rfl, hid, hcd⟩
          have hbt := hcd.blk (hxc.block HBX.out) HNE.out.2.2.2.1
          go_simp
          refine hK.out _ _ ?_ (fun hHeld2 => ?_)
          · exact keep.out _ hbt
          clear hHeld
          have hHeld := hHeld2
          clear hHeld2 hK K
          try simp only [Act.put]
          try simp only [List.setIfInBounds_toArray]
          try simp only [List.set_cons_succ]
          try simp only [List.set_cons_zero]
          refine wpAnyH_take (i := 7) (v := ?_) rfl (by kernel_rfl) (by kernel_rfl) (by kernel_rfl) (fun _ _ _ h => h) (Or.inl ⟨by rfl, ?_⟩) (by assumption) ?_
          rotate_left
          · intro w hSw
            try dsimp only at hSw
            go_simp
            try with_reducible rfl
          try simp only [Act.put]
          try simp only [List.setIfInBounds_toArray]
          try simp only [List.set_cons_succ]
          try simp only [List.set_cons_zero]
          refine wpAnyH_done (by kernel_rfl) ?_ _
          refine noPanic_intro ?_
          have hmm := hcd.blk (hxc.block HMM.out) HNE.out.1
          have hbb := hcd.blk (hxc.block HBB.out) HNE.out.2.1
          have hbx := hcd.blk (hxc.block HBX.out) HNE.out.2.2.2.1
          have hro := (HROW.out.ext hxc).chx hcd HNE.out.2.2.1
          have hxr := (HXR.out.trans hxc).chx hcd HNE.out.2.2.2.2
          have hsd : w3.heap.size ≤ wd.heap.size := by have := hxc.size; have := hcd.size; omega
          have HMM5 := Lib.hid hmm
          have HBB5 := Lib.hid hbb
          have HRO5 := Lib.hid hro
          have HXR5 := Lib.hid hxr
          have HID5 := Lib.hid hid
          have m0 : wd.cell? ⟨mb, 0, none⟩ = some (.int .i64 u) := cell_blk hmm 0 rfl
          have m1 : wd.cell? ⟨mb, 1, none⟩ = some (.int .i64 X.c) := cell_blk hmm 1 rfl
          have m2 : wd.cell? ⟨mb, 2, none⟩ = some (.slice A' X.L.length cp) := cell_blk hmm 2 rfl
          have b1 : wd.cell? ⟨tb, 1, none⟩ = some (.int .i64 av) := cell_blk hbx 1 rfl
          have b2 : wd.cell? ⟨tb, 2, none⟩ = some (.int .i64 an) := cell_blk hbx 2 rfl
          have b3 : wd.cell? ⟨tb, 3, none⟩ = some (.int .i64 ab) := cell_blk hbx 3 rfl
          clear hmm hbb hbx hro hxr hid hcd hxc HMM HBB HROW HXR HIR HBX HC1
          go_wp2_with fail
          refine (HC2.out wd HRO5.out hsd).mono ?_
          rintro e we ⟨v', rfl, hrow', hxe⟩
          obtain ⟨A2, cp2, rfl, -⟩ := own_shape (show we.ownsRow w3.heap.size 84 4 v' X2.L.length (slsV X2.L) from hrow')
          have hxf := hxe.alloc (.cells #[.int .i64 u, .int .i64 X2.c, .slice A2 X2.L.length cp2] 27)
          have hmf := hxf.block HMM5.out
          have y0 := frozen_blk hmf 0
          have y1 := frozen_blk hmf 1
          have y2 := frozen_blk hmf 2
          have m0' := hxf.cell m0
          have m1' := hxf.cell m1
          have m2' := hxf.cell m2
          have hbn := heap_alloc_new we (.cells #[.int .i64 u, .int .i64 X2.c, .slice A2 X2.L.length cp2] 27)
          have hrf := hrow'.ext ((Ext.refl we).alloc (.cells #[.int .i64 u, .int .i64 X2.c, .slice A2 X2.L.length cp2] 27))
          have HMF := Lib.hid hmf
          have HRF := Lib.hid hrf
          have HBF := Lib.hid (hxf.block HBB5.out)
          have HIF := Lib.hid (HID5.out.ext hxf)
          have HXF := Lib.hid (HXR5.out.trans hxf)
          have hsf := hxf.size
          have n0 : (we.alloc (.cells #[.int .i64 u, .int .i64 X2.c, .slice A2 X2.L.length cp2] 27)).cell? ⟨we.heap.size, 0, none⟩ = some (.int .i64 u) := cell_blk hbn 0 rfl
          have n1 : (we.alloc (.cells #[.int .i64 u, .int .i64 X2.c, .slice A2 X2.L.length cp2] 27)).cell? ⟨we.heap.size, 1, none⟩ = some (.int .i64 X2.c) := cell_blk hbn 1 rfl
          have n2 : (we.alloc (.cells #[.int .i64 u, .int .i64 X2.c, .slice A2 X2.L.length cp2] 27)).cell? ⟨we.heap.size, 2, none⟩ = some (.slice A2 X2.L.length cp2) := cell_blk hbn 2 rfl
          clear hmf hrf hbn hrow' hxe hxf m0 m1 m2 b1 b2 b3 HMM5 HBB5 HRO5 HXR5 HID5 HC2
          go_upto_region 15 with (fail)
          generalize hnb : we.heap.size = nb at *
          generalize (we.alloc (.cells #[.int .i64 u, .int .i64 X2.c, .slice A2 X2.L.length cp2] 27)) = w6 at *
          go_wp2
          have hmr : mb ≠ w.heap.size := by have := HSZ.out; omega
          go_roundw
          case rel =>
            refine ⟨k + 1, by omega, by go_num, .slice A2 X2.L.length cp2, ?_, ?_, ?_, ?_, ?_, ?_⟩
            · rw [HS1.out]
              exact HIF.out.set3 HMF.out (by decide) HNE.out.1 _ _ _
            · rw [HS1.out]
              exact set3_cells HMF.out _ _ _
            · rw [HS1.out]
              exact HRF.out.set3 HMF.out (by decide) _ _ _
            · exact HXF.out.set3 (by have := HSZ.out; omega) _ _ _
            · exact (far3 _ _ _ (fun e => hmr e.symm)).trans HBF.out
            · have : w3.heap.size ≤ w6.heap.size := by omega
              simpa [World.setCell] using this
          case measure => simp [intOf]; omega
      · obtain rfl : k = l.length := by omega
        have m0 := cell_blk hmm 0 rfl
        have m1 := cell_blk hmm 1 rfl
        have m2 := cell_blk hmm 2 rfl
        have r0 := cell_blk hbb 0 rfl
        have r1 := cell_blk hbb 1 rfl
        have r2 := cell_blk hbb 2 rfl
        have y0 := frozen_blk hbb 0
        have y1 := frozen_blk hbb 1
        have y2 := frozen_blk hbb 2
        clear hmm hbb hrow hxw
        go_wp2
        go_region
        go_wp2
        have hPX := HPL.out _ rfl
        have hX := HX.out
        rw [hPX] at hX
        subst hX
        have hsz' := HSZ.out
        have hap := Apt.of HBB.out (by decide)
        refine bodyPost_ret (v := .tuple #[.pointer (some ⟨xb, 0, none⟩), .agg #[.int .i64 u, .int .i64 (playX u l).c, .slice A' (playX u l).L.length cp], .bool true]) ?_ rfl (.inl ⟨HU.out, xb, w3.heap.size, _, rfl, by omega, by omega, ?_, ?_, ?_, (HXR.out.set3 (Nat.le_refl _) _ _ _).drew⟩)
        · have hf3 := set3_cells HBB.out (.int .i64 u) (.int .i64 (playX u l).c) (.slice A' (playX u l).L.length cp)
          have k0 := cell_blk hf3 0 rfl
          have k1 := cell_blk hf3 1 rfl
          have k2 := cell_blk hf3 2 rfl
          simp [results, Tryz.results5, go_sem, k0, k1, k2]
        · show w3.heap.size ≤ (((wr.setCell _ _).setCell _ _).setCell _ _).heap.size
          simpa [World.setCell] using hsz
        · exact (HIR.out.set3 HBB.out (by decide) (by omega) _ _ _).ext (Ext.refl _).drew
        · exact (HROW.out.set3 HBB.out (by decide) _ _ _).ext (Ext.refl _).drew
  · go_wp2_with fail
    refine (rnew_calls u w1).mono ?_
    rintro e w2 (⟨hu', _⟩ | ⟨_, rfl, hx2⟩)
    · rw [hu] at hu'; cases hu'
    go_upto_region 3 with (fail)
    have hm0 := heap_alloc_new w2 (.cells #[.int .i64 0, .int .i64 0, .slice none 0 0] 27)
    have hx3 : Ext W (w2.alloc (.cells #[.int .i64 0, .int .i64 0, .slice none 0 0] 27)) := (hx1.trans hx2).alloc _
    have hb0 := hx3.block HB0.out
    have hxw := hx0.trans hx3
    generalize (w2.alloc (.cells #[.int .i64 0, .int .i64 0, .slice none 0 0] 27)) = w3 at *
    have m0 : w3.cell? ⟨w2.heap.size, 0, none⟩ = some (.int .i64 0) := cell_blk hm0 0 rfl
    have m1 : w3.cell? ⟨w2.heap.size, 1, none⟩ = some (.int .i64 0) := cell_blk hm0 1 rfl
    have m2 : w3.cell? ⟨w2.heap.size, 2, none⟩ = some (.slice none 0 0) := cell_blk hm0 2 rfl
    have r0 : w3.cell? ⟨w.heap.size, 0, none⟩ = some (.int .i64 0) := cell_blk hb0 0 rfl
    have r1 : w3.cell? ⟨w.heap.size, 1, none⟩ = some (.int .i64 0) := cell_blk hb0 1 rfl
    have r2 : w3.cell? ⟨w.heap.size, 2, none⟩ = some (.slice none 0 0) := cell_blk hb0 2 rfl
    have y0 := frozen_blk hb0 0
    have y1 := frozen_blk hb0 1
    have y2 := frozen_blk hb0 2
    have HB := Lib.hid hb0
    have HXW := Lib.hid hxw
    have HU := Lib.hid hu
    clear HB0 hx0 hx1 hx2 hx3 hb0 hm0 hxw hu
    go_wp2
    go_region
    go_wp2
    refine bodyPost_ret (v := .tuple #[.pointer none, .agg #[.int .i64 0, .int .i64 0, .slice none 0 0], .bool true]) ?_ rfl (.inr ⟨HU.out, rfl, (HXW.out.set3 (Nat.le_refl _) _ _ _).drew⟩)
    have hf3 := set3_cells HB.out (.int .i64 0) (.int .i64 0) (.slice none 0 0)
    have k0 := cell_blk hf3 0 rfl
    have k1 := cell_blk hf3 1 rfl
    have k2 := cell_blk hf3 2 rfl
    simp [results, Tryz.results5, go_sem, k0, k1, k2]
end Go.Proofs.YtgcplndmhlideaaGreat
