/- Put. -/
import Derived.Test.YtoahjhkfnchdhaaPut0
import Derived.Deep.CutRange
import Derived.Deep.RegionHeld3
namespace Go.Proofs.Ytoahjhkfnchdhaa
open Go.RowKit
attribute [local go_sem] Oper.semAt_some

theorem sat_new (w : World) (X Y : Int) (t : TypeId) : SAt (w.alloc (.cells #[.int .i64 X, .int .i64 Y] t)) (some ⟨w.heap.size, 0, none⟩) [⟨X, Y⟩] := fun k hk => by
  obtain rfl : k = 0 := by simpa using hk
  exact ⟨w.heap.size, 0, rfl, by simp, by simp⟩
theorem of1_calls (A : Option Addr) (c : Nat) (X Y : Int) (w : World) (h : SAt w A [⟨X, Y⟩]) (hok : (⟨X, Y⟩ : Sp).ok) :
    Calls Try.prog 43 #[.slice A 1 c] w fun e w' => ∃ A c, e = .returned (.agg #[.slice A 1 c]) ∧ Hid (SAt w' A [⟨X, Y⟩]) ∧ Hid (NewA w A) ∧ Ext w w' := by
  have := of_calls A c [⟨X, Y⟩] w h (by simp)
  unfold SetPost at this
  rw [of_norm (norm_one hok)] at this
  exact this
theorem and1_calls (A : Option Addr) (c : Nat) (X Y : Int) (B : Option Addr) (d : Nat) (b : List Sp) (w : World) (ha : SAt w A [⟨X, Y⟩]) (hb : SAt w B b) (hok : (⟨X, Y⟩ : Sp).ok) (nb : Norm b) (hlb : b.length ≤ 400000) :
    Calls Try.prog 44 #[.agg #[.slice A 1 c], .agg #[.slice B b.length d]] w fun e w' => SetPost w (andS [⟨X, Y⟩] b) e w' ∧ (andS [⟨X, Y⟩] b).length ≤ 1 + b.length :=
  and_calls A c [⟨X, Y⟩] B d b w ha hb (norm_one hok) nb (by simp) hlb
theorem or1_calls (A : Option Addr) (c : Nat) (X Y : Int) (B : Option Addr) (d : Nat) (b : List Sp) (w : World) (ha : SAt w A [⟨X, Y⟩]) (hb : SAt w B b) (hok : (⟨X, Y⟩ : Sp).ok) (nb : Norm b) (hlb : b.length ≤ 400000) :
    Calls Try.prog 46 #[.agg #[.slice B b.length d], .agg #[.slice A 1 c]] w (SetPost w (orS b [⟨X, Y⟩])) :=
  or_calls B d b A c [⟨X, Y⟩] w hb ha nb (norm_one hok) hlb (by simp)

theorem boxed_keep {A B : World} {row : Option Nat} {b n : Nat} {t : TypeId} {v : Value} (h : Boxed A b t v) (hg : A.grownBy B row) (hr : ∀ r, row = some r → n ≤ r ∧ ∃ o : Obj, A.heap[r]? = some o ∧ o.isCells = false) : Boxed B b t v :=
  h.kept hg (fun e => by obtain ⟨_, o, ho, hc⟩ := hr b e.symm; rw [show A.heap[b]? = _ from h] at ho; cases ho; cases hc)
theorem boxed_put {W : World} {b D : Nat} {t : TypeId} {v : Value} (h : Boxed W b t v) (hK : W.heap[D]? = some (.deferred (some []))) : Boxed (W.putObj D (.deferred none)) b t v :=
  boxed_keep (n := 0) h (grownBy_putObj' W D (.deferred none)) (fun r e => by cases e; exact ⟨Nat.zero_le _, _, hK, rfl⟩)
theorem noPanic_intro {Q : Exit → Act → World → Prop} {a : Act} {w : World} (h : Q .normal a w) : NoPanic Q .normal a w := h
theorem and_length {X Y : Int} {b : List Sp} (ho : (⟨X, Y⟩ : Sp).ok) (hb : Norm b) : ∀ s ∈ andS [⟨X, Y⟩] b, X ≤ s.f ∧ s.t ≤ Y :=
  lies_of_mem (norm_and _ _) X Y fun z hz => by
    rw [mem_and (norm_one ho) hb, mem_single] at hz
    exact hz.1
theorem SAt.set_old {w w0 : World} {A : Option Addr} {l : List Sp} (h : SAt w A l) (hn : NewA w0 A) {p : Addr} (hp : p.block < w0.heap.size) (u : Value) : SAt (w.setCell p u) A l := fun k hk => by
  obtain ⟨b, o, e, p0, p1⟩ := h k hk
  have hb := hn b o e
  have hf : ∀ j v, w.cell? ⟨b, j, none⟩ = some v → (w.setCell p u).cell? ⟨b, j, none⟩ = some v := fun j v hv =>
    (World.cell?_of_block (Below.heap_setCell w p u b (fun e => by omega))).trans hv
  exact ⟨b, o, e, hf _ _ p0, hf _ _ p1⟩
theorem Chg.keep {lo hi : Nat} {w w' : World} (h : Chg lo hi w w') {k : Nat} {o : Obj} (hk : w.heap[k]? = some o) (hn : k < lo ∨ hi ≤ k) : w'.heap[k]? = some o :=
  (h.block k (Array.getElem?_eq_some_iff.1 hk).1 hn).trans hk
theorem Chg.putObj {lo hi D : Nat} (w : World) (o : Obj) (h1 : lo ≤ D) (h2 : D < hi) : Chg lo hi w (w.putObj D o) :=
  ⟨rfl, rfl, rfl, by simp, fun k _ hn => World.putObj_heap_other (by omega)⟩
theorem Chg.under {lo hi m : Nat} {w w1 w2 : World} (h : Chg lo hi w w1) (k : Chg w.heap.size m w1 w2) : Chg lo hi w w2 :=
  ⟨k.os.trans h.os, k.tape.trans h.tape, k.output.trans h.output, Nat.le_trans h.size k.size, fun i hi hn => (k.block i (Nat.lt_of_lt_of_le hi h.size) (.inl hi)).trans (h.block i hi hn)⟩
/-- What is there behind the call, stored. -/
def OrAt (W2 : World) (pb : Nat) (R : List Sp) (wx : World) : Prop := ∃ A8 c8 w4, wx = w4.setCell ⟨pb, 5, none⟩ (.slice A8 R.length c8) ∧ SAt w4 A8 R ∧ NewA W2 A8 ∧ Ext W2 w4
/-- What is there already, boxed. -/
def ThereAt (w2 : World) (L : List Sp) (v : Value) (wx : World) : Prop := ∃ xt A c, v = .pointer (some ⟨xt, 0, none⟩) ∧ w2.heap.size ≤ xt ∧ Boxed wx xt 70 (.slice A L.length c) ∧ SAt wx A L ∧ Ext w2 wx ∧ NewA w2 A
theorem NewA.le {w w' : World} {A : Option Addr} (h : NewA w' A) (hx : Ext w w') : NewA w A := fun b o e => Nat.le_trans hx.size (h b o e)
theorem NewA.out {w : World} {A : Option Addr} {lo hi : Nat} (h : NewA w A) (hh : hi ≤ w.heap.size) : OutA lo hi A := fun b o e => .inr (Nat.le_trans hh (h b o e))

set_option maxHeartbeats 4000000 in
set_option maxRecDepth 100000 in
theorem put1_calls (Z : Nat → Prop) (lo hi pb : Nat) (B : Bf) (a : Int) (A : Option Addr) (c : Nat) (p : List UInt8) (w : World) (h : BufZ Z lo hi w pb B) (hz1 : ∀ b, Z b → OutW lo hi b) (hz2 : ∀ b, w.heap.size ≤ b → Z b) (hok : B.ok) (hh : hi ≤ w.heap.size) (hp : BytesAt w A p) (hc : p.length ≤ c) (hm : p.length ≤ 1000)
    (a0 : 0 ≤ a) (hxy : B.x a < B.y a p) (hA : OutA lo hi A) :
    Calls Try.prog 23 #[.pointer (some ⟨pb, 0, none⟩), .int .i64 a, .slice A p.length c] w (BufPostZ Z lo hi w pb (.tuple #[.int .i64 (B.putN a p), .int .i64 (B.putE a p)]) (B.put a p)) := by
  have hB0 := Lib.hid h
  have hN := norm_in hok.norm B.f B.t hok.lies (Int.le_of_lt hok.ft)
  have hrest : Hid (∀ w', Ext w w' → BufZ Z lo hi w' pb B) := Lib.hid fun w' hx => h.ext hx
  obtain ⟨g, A5, c5, h1, h2, _, _, _, _, _, h8, h9⟩ := h
  have HZ1 := Lib.hid hz1
  have HZ2 := Lib.hid hz2
  have H9 := Lib.hid h9
  clear hz1 hz2 h9
  have d2 : w.cell? ⟨pb, 2, none⟩ = some (.int .i64 B.f) := by rw [cell_of_block h1]; rfl
  have d3 : w.cell? ⟨pb, 3, none⟩ = some (.int .i64 B.t) := by rw [cell_of_block h1]; rfl
  have d4 : w.cell? ⟨pb, 4, none⟩ = some (.slice (some ⟨g, 0, none⟩) B.bs.length B.bs.length) := by rw [cell_of_block h1]; rfl
  have d5 : w.cell? ⟨pb, 5, none⟩ = some (.slice A5 B.hs.length c5) := by rw [cell_of_block h1]; rfl
  have hbs : ∀ j u, (bytesL B.bs)[j]? = some u → w.cell? ⟨g, j, none⟩ = some u := fun j u hu => by rw [cell_of_block h2]; simpa using hu
  have hpb : pb < w.heap.size := block_of_cell d2
  have hx1 : B.x a = max a B.f := rfl
  have hy1 : B.y a p = min (a + p.length) B.t := rfl
  have hf0 := hok.f0
  have hft := hok.ft
  have ht1 := hok.t1
  have hle := hok.len
  have hsm := hok.small
  have hp0 : 0 < p.length := by omega
  obtain ⟨b, o, rfl, hpc⟩ := hp.at_ hp0
  have hmt : meets a (a + p.length) B.f B.t = true := by unfold meets rightB; simp; omega
  have hmv : meetV a (a + p.length) B.f B.t = .agg #[.int .i64 (B.x a), .int .i64 (B.y a p)] := by unfold meetV; rw [hmt, if_pos rfl, hx1, hy1]
  obtain ⟨F, hF⟩ : ∃ F, B.f = F := ⟨_, rfl⟩
  obtain ⟨T, hT⟩ : ∃ T, B.t = T := ⟨_, rfl⟩
  obtain ⟨X, hX⟩ : ∃ X, B.x a = X := ⟨_, rfl⟩
  obtain ⟨Y, hY⟩ : ∃ Y, B.y a p = Y := ⟨_, rfl⟩
  obtain ⟨m, hml⟩ : ∃ m, p.length = m := ⟨_, rfl⟩
  rw [hX, hF] at hx1
  rw [hY, hml, hT] at hy1
  rw [hX, hY] at hxy
  rw [hml, hF, hT] at hmt hmv
  rw [hX, hY] at hmv
  rw [hF] at d2 hf0 hft hle
  rw [hT] at d3 hft hle ht1
  rw [hml] at hc hm hp0 ⊢
  obtain ⟨k1, hk1⟩ : ∃ k : Nat, X - a = k := ⟨(X - a).toNat, by omega⟩
  obtain ⟨k2, hk2⟩ : ∃ k : Nat, Y - a = k := ⟨(Y - a).toNat, by omega⟩
  obtain ⟨k3, hk3⟩ : ∃ k : Nat, X - F = k := ⟨(X - F).toNat, by omega⟩
  have hw1 : IntKind.i64.wrap (X - a) = (k1 : Int) := (IntWalk.i64_in _ (by omega)).trans hk1
  have hw2 : IntKind.i64.wrap (Y - a) = (k2 : Int) := (IntWalk.i64_in _ (by omega)).trans hk2
  have l1 : (k1 : Int) ≤ (k2 : Int) := by omega
  have l2 : (k2 : Int) ≤ (c : Int) := by omega
  have l3 : k1 ≤ k2 := by omega
  have l4 : k2 ≤ c := by omega
  have l5 : k1 < c := by omega
  have aT : a < T := by omega
  have b1 : decide (T ≤ a) = false := by simpa using aT
  have b2 : ((m : Int) == 0) = false := by simp; omega
  have b3 : ¬ (m : Int) = 0 := by omega
  have hx0 : Ext w (((w.alloc (.cells #[.pointer (some ⟨pb, 0, none⟩)] 36)).alloc (.cells #[.int .i64 0] 3)).alloc (.cells #[.int .i64 0] 37)) := (((Ext.refl w).alloc _).alloc _).alloc _
  have g2 := hx0.cell d2
  have g3 := hx0.cell d3
  have hmc := meet_calls a (a + m) F T _ |>.mono fun e w' (h : _ ∧ Ext (((w.alloc (.cells #[.pointer (some ⟨pb, 0, none⟩)] 36)).alloc (.cells #[.int .i64 0] 3)).alloc (.cells #[.int .i64 0] 37)) w') => h
  rw [hmt, hmv] at hmc
  have HC := Lib.hid hmc
  have HX := Lib.hid hx1
  have HY := Lib.hid hy1
  have HK := Lib.hid (And.intro hk1 (And.intro hk2 hk3))
  have HE' := Lib.hid (And.intro hF (And.intro hT (And.intro hX (And.intro hY hml))))
  clear hmc hmt hmv hx1 hy1 hF hT hX hY hml hk1 hk2 hk3
  refine (callsIn_wide (n := 5)).1 ?_
  refine callsIn_of_wp_marks Try.func23 rfl trivial ?_ rfl
  simp only [Try.ntmps23, List.size_toArray, List.length_cons, List.length_nil, Nat.reduceAdd, Nat.reduceSub, Array.replicate_succ, Array.replicate_zero, List.push_toArray, List.append_toArray, List.nil_append, List.cons_append]
  refine wpIn_wide.2 ?_
  go_wp2_with fail
  refine HC.out.mono ?_
  rintro e w1 ⟨rfl, hx⟩
  have z1 := hx.size
  simp only [World.size_alloc] at z1
  have bx0 := hx.block (show (World.alloc _ _).heap[_]? = _ from ((Boxed.new w 36 (.pointer (some ⟨pb, 0, none⟩))).alloc (.cells #[.int .i64 0] 3)).alloc (.cells #[.int .i64 0] 37))
  have bx1 := hx.block (show (World.alloc _ _).heap[_]? = _ from (Boxed.new (w.alloc (.cells #[.pointer (some ⟨pb, 0, none⟩)] 36)) 3 (.int .i64 0)).alloc (.cells #[.int .i64 0] 37))
  have bx2 := hx.block (show (World.alloc _ _).heap[_]? = _ from Boxed.new ((w.alloc (.cells #[.pointer (some ⟨pb, 0, none⟩)] 36)).alloc (.cells #[.int .i64 0] 3)) 37 (.int .i64 0))
  simp only [World.size_alloc] at bx1 bx2
  replace hx := hx0.trans hx
  clear hx0 HC g2 g3
  go_upto_region 9 with (fail)
  have bi := (Ext.refl _).alloc (.cells #[.slice (some ⟨b, o + k1, none⟩) (k2 - k1) (c - k1)] 43) |>.block (heap_alloc_new w1 (.cells #[.int .i64 X, .int .i64 Y] 24))
  have bo := Boxed.new (w1.alloc (.cells #[.int .i64 X, .int .i64 Y] 24)) 43 (.slice (some ⟨b, o + k1, none⟩) (k2 - k1) (c - k1))
  have hx2 : Ext w1 ((w1.alloc (.cells #[.int .i64 X, .int .i64 Y] 24)).alloc (.cells #[.slice (some ⟨b, o + k1, none⟩) (k2 - k1) (c - k1)] 43)) := ((Ext.refl w1).alloc _).alloc _
  have z2 : ((w1.alloc (.cells #[.int .i64 X, .int .i64 Y] 24)).alloc (.cells #[.slice (some ⟨b, o + k1, none⟩) (k2 - k1) (c - k1)] 43)).heap.size = w1.heap.size + 1 + 1 := by simp only [World.size_alloc]
  rw [World.size_alloc] at bo
  generalize hw2 : (w1.alloc (.cells #[.int .i64 X, .int .i64 Y] 24)).alloc (.cells #[.slice (some ⟨b, o + k1, none⟩) (k2 - k1) (c - k1)] 43) = w2 at *
  replace bx0 : Boxed w2 _ _ _ := hx2.block bx0
  replace bx1 : Boxed w2 _ _ _ := hx2.block bx1
  replace bx2 : Boxed w2 _ _ _ := hx2.block bx2
  replace hx := hx.trans hx2
  obtain ⟨xi, hxi⟩ : ∃ xi, w1.heap.size = xi := ⟨_, rfl⟩
  rw [hxi] at bi bo z1 z2 ⊢
  have HPB := Lib.hid (And.intro h1 h2)
  clear hw2 hx2 hxi h1 h2
  have ci0 : w2.cell? ⟨xi, 0, none⟩ = some (.int .i64 X) := by rw [cell_of_block bi]; rfl
  have ci1 : w2.cell? ⟨xi, 1, none⟩ = some (.int .i64 Y) := by rw [cell_of_block bi]; rfl
  have cb := bx0.cell
  have e5 := hx.cell d5
  have hXY : (⟨X, Y⟩ : Sp).ok := ⟨by have := HX.out; show 0 ≤ X; omega, hxy, by have := HY.out; show Y ≤ _; omega⟩
  have HO := Lib.hid hXY
  have HS := Lib.hid (h8.ext hx)
  have HN := Lib.hid hok.norm
  have hlen : B.hs.length ≤ 1000 := hok.hlen
  have HE := Lib.hid (Ext.refl w2)
  have keep : Hid (∀ W, Ext w2 W → W.cell? ⟨xi, 0, none⟩ = some (.int .i64 X) ∧ W.cell? ⟨xi, 1, none⟩ = some (.int .i64 Y) ∧ W.cell? ⟨w.heap.size, 0, none⟩ = some (.pointer (some ⟨pb, 0, none⟩)) ∧ W.cell? ⟨pb, 5, none⟩ = some (.slice A5 B.hs.length c5)) := Lib.hid fun W hE => ⟨hE.cell ci0, hE.cell ci1, hE.cell cb, hE.cell e5⟩
  have hE1 : Ext w2 (w2.alloc (.cells #[.int .i64 X, .int .i64 Y] 24)).drew := ((Ext.refl w2).alloc _).drew
  have HB1 : Hid (SAt (w2.alloc (.cells #[.int .i64 X, .int .i64 Y] 24)).drew (some ⟨xi + 1 + 1, 0, none⟩) [⟨X, Y⟩]) := Lib.hid (by rw [← z2]; exact (sat_new w2 X Y _).ext (Ext.refl _).drew)
  have hF1 : Ext w2 ((w2.alloc (.cells #[.int .i64 X, .int .i64 Y] 24)).alloc (.cells #[.slice none 0 0] 70)).drew := (((Ext.refl w2).alloc _).alloc _).drew
  have hF2 : Ext w2 ((w2.alloc (.cells #[.slice none 0 0] 70)).alloc (.cells #[.int .i64 X, .int .i64 Y] 24)).drew := (((Ext.refl w2).alloc _).alloc _).drew
  have HB2 : Hid (SAt ((w2.alloc (.cells #[.int .i64 X, .int .i64 Y] 24)).alloc (.cells #[.slice none 0 0] 70)).drew (some ⟨xi + 1 + 1, 0, none⟩) [⟨X, Y⟩]) := Lib.hid (by rw [← z2]; exact (sat_new w2 X Y _).ext ((Ext.refl _).alloc _).drew)
  have HB3 : Hid (SAt ((w2.alloc (.cells #[.slice none 0 0] 70)).alloc (.cells #[.int .i64 X, .int .i64 Y] 24)).drew (some ⟨xi + 1 + 1 + 1, 0, none⟩) [⟨X, Y⟩]) := Lib.hid (by rw [← z2, ← World.size_alloc w2 (.cells #[.slice none 0 0] 70)]; exact (sat_new _ X Y _).ext (Ext.refl _).drew)
  have HX2 : Hid (Boxed ((w2.alloc (.cells #[.int .i64 X, .int .i64 Y] 24)).alloc (.cells #[.slice none 0 0] 70)).drew (xi + 1 + 1 + 1) 70 (.slice none 0 0)) := Lib.hid (by rw [← z2, ← World.size_alloc w2 (.cells #[.int .i64 X, .int .i64 Y] 24)]; exact (Ext.refl _).drew.block (heap_alloc_new _ _))
  have HX3 : Hid (Boxed ((w2.alloc (.cells #[.slice none 0 0] 70)).alloc (.cells #[.int .i64 X, .int .i64 Y] 24)).drew (xi + 1 + 1) 70 (.slice none 0 0)) := Lib.hid (by rw [← z2]; exact ((Ext.refl _).alloc _).drew.block (heap_alloc_new w2 _))
  obtain ⟨hs, hhs⟩ : ∃ hs, B.hs = hs := ⟨_, rfl⟩
  rw [hhs] at HS HN hlen keep e5
  have HH := Lib.hid hhs
  have HPC := Lib.hid hpc
  have HBS := Lib.hid hbs
  clear h8 hXY hok hrest hbs hp hpc hhs hN
  have hAL := and_length HO.out HN.out
  obtain ⟨L, hL⟩ : ∃ L, andS [⟨X, Y⟩] hs = L := ⟨_, rfl⟩
  have hand := fun A c B d W (ha : SAt W A [⟨X, Y⟩]) hb => and1_calls A c X Y B d hs W ha hb HO.out HN.out (by omega)
  rw [hL] at hand hAL
  have HA := Lib.hid hand
  have HL := Lib.hid hL
  clear hand hL
  go_cut [11] from 58 to 131 (fun v wx => ThereAt w2 L v wx)
  case first =>
    refine wp_region_noPanic ?_
    go_region_held3 (fun w' => w'.cell? ⟨xi, 0, none⟩ = some (.int .i64 X) ∧ w'.cell? ⟨xi, 1, none⟩ = some (.int .i64 Y) ∧ w'.cell? ⟨w.heap.size, 0, none⟩ = some (.pointer (some ⟨pb, 0, none⟩)) ∧ w'.cell? ⟨pb, 5, none⟩ = some (.slice A5 hs.length c5))
      ((with_reducible refine keep.out _ ?_; (repeat' with_reducible first | exact hE5 _ | exact hE6 _ | exact HE.out | exact hE4 | exact hE3 | exact hE3' | exact hE1 | exact hF1 | exact hF2 | refine Ext.drew ?_ | refine Ext.alloc ?_ _)))
      (first
        | (go_at_call 43
           with_reducible refine (of1_calls _ _ X Y _ HB1.out HO.out).mono ?_
           rintro e w3 ⟨A6, c6, rfl, HS6, _, hx6⟩
           have hE3' : Ext w2 w3 := hE1.trans hx6
           have hE3 : Ext w2 (w3.alloc (.cells #[.slice none 0 0] 70)) := hE3'.alloc _
           have HS6' := Lib.hid (HS6.out.ext ((Ext.refl w3).alloc (.cells #[.slice none 0 0] 70))))
        | (go_at_call 43
           with_reducible refine (of1_calls _ _ X Y _ HB2.out HO.out).mono ?_
           rintro e w3 ⟨A6, c6, rfl, HS6, _, hx6⟩
           have hE3' : Ext w2 w3 := hF1.trans hx6
           have bx3 : Boxed w3 (xi + 1 + 1 + 1) 70 (.slice none 0 0) := hx6.block HX2.out)
        | (go_at_call 43
           with_reducible refine (of1_calls _ _ X Y _ HB3.out HO.out).mono ?_
           rintro e w3 ⟨A6, c6, rfl, HS6, _, hx6⟩
           have hE3' : Ext w2 w3 := hF2.trans hx6
           have bx3 : Boxed w3 (xi + 1 + 1) 70 (.slice none 0 0) := hx6.block HX3.out)
        | (go_at_call 44
           with_reducible refine (HA.out _ _ _ _ _ HS6'.out (HS.out.ext hE3)).mono ?_
           rintro e w4 ⟨⟨A7, c7, rfl, HS7, HN7, hx7⟩, hl7⟩
           have hE4 : Ext w2 w4 := hE3.trans hx7
           have bx : Boxed w4 w3.heap.size 70 (.slice none 0 0) := hx7.block (Boxed.new w3 _ _)
           have hE5 : ∀ u, Ext w2 (w4.setCell ⟨w3.heap.size, 0, none⟩ u) := fun u => hE4.setCell (p := ⟨w3.heap.size, 0, none⟩) hE3'.size u
           have q1 := bx.cell
           have q2 := bx.frozen)
        | (go_at_call 44
           with_reducible refine (HA.out _ _ _ _ _ HS6.out (HS.out.ext hE3')).mono ?_
           rintro e w4 ⟨⟨A7, c7, rfl, HS7, HN7, hx7⟩, hl7⟩
           have hE4 : Ext w2 w4 := hE3'.trans hx7
           try (have bx4 : Boxed w4 _ _ _ := hx7.block bx3; have hb4 := bx3.lt; have q1 := bx4.cell; have q2 := bx4.frozen)
           try (have hE5 : ∀ u, Ext w2 (w4.setCell ⟨xi + 1 + 1 + 1, 0, none⟩ u) := fun u => hE4.setCell (p := ⟨xi + 1 + 1 + 1, 0, none⟩) (by show w2.heap.size ≤ xi + 1 + 1 + 1; omega) u)
           try (have hE6 : ∀ u, Ext w2 (w4.setCell ⟨xi + 1 + 1, 0, none⟩ u) := fun u => hE4.setCell (p := ⟨xi + 1 + 1, 0, none⟩) (by show w2.heap.size ≤ xi + 1 + 1; omega) u)))
    all_goals refine noPanic_intro ?_
    all_goals go_wp2_with fail
    all_goals go_meet
    all_goals first
      | exact ⟨_, A7, c7, rfl, hE4.size, Boxed.new w4 _ _, HS7.out.ext ((Ext.refl w4).alloc _), hE4.alloc _, HN7.out.le (by first | exact hE3 | exact hE3')⟩
      | exact ⟨_, A7, c7, rfl, hE3'.size, bx.set _, HS7.out.set_old HN7.out (by simp) _, hE5 _, HN7.out.le (by first | exact hE3 | exact hE3')⟩
      | exact ⟨xi + 1 + 1 + 1, A7, c7, rfl, by omega, bx4.set _, HS7.out.set_old HN7.out hb4 _, hE5 _, HN7.out.le (by first | exact hE3 | exact hE3')⟩
      | exact ⟨xi + 1 + 1, A7, c7, rfl, by omega, bx4.set _, HS7.out.set_old HN7.out hb4 _, hE6 _, HN7.out.le (by first | exact hE3 | exact hE3')⟩
  case rest =>
    obtain ⟨xt, A7, c7, rfl, hxt, bt, st, hE, hN7⟩ := hcut
    have HN7 := Lib.hid (hN7.le hx)
    clear hN7
    have ct := bt.cell
    have HD := Lib.hid (And.intro d2 (And.intro d3 (And.intro d4 d5)))
    clear HA HB1 HB2 HB3 HX2 HX3 hE1 hF1 hF2 keep HE ci0 ci1 cb e5 d2 d3 d4 d5
    go_wp2_with (go_at_call 45; refine (setall_calls A7 c7 L _).mono ?_; rintro e w5 ⟨rfl, rfl⟩)
    have hEw : Ext w wc := hx.trans hE
    have hNL : Norm L := by rw [← HL.out]; exact norm_and _ _
    have hll : (L.length : Int) ≤ Y - X := norm_in hNL X Y hAL (Int.le_of_lt hxy)
    have hxk := HX.out
    have hyk := HY.out
    have hl6 : L.length ≤ 1000000 := by omega
    clear hxk hyk
    have hbb : 0 < L.length → ∀ b o, A7 = some ⟨b, o, none⟩ → b < wc.heap.size := fun h b o e => by
      obtain ⟨b', o', e', q, _⟩ := st 0 h
      rw [e] at e'
      cases e'
      exact block_of_cell q
    have hsq := Boxed.new wc 70 (.slice A7 L.length c7)
    have hE6 : Ext wc (wc.alloc (.cells #[.slice A7 L.length c7] 70)) := (Ext.refl _).alloc _
    have hz6 : (wc.alloc (.cells #[.slice A7 L.length c7] 70)).heap.size = wc.heap.size + 1 := World.size_alloc _ _
    have hzw := hE.size
    refine (wpIn_wide (n := 5)).1 ?_
    generalize hW6 : wc.alloc (.cells #[.slice A7 L.length c7] 70) = W6 at *
    refine wpIn_rangeFunc_ownH rfl (by omega) (gf := 58) (lb := #[.pointer (some ⟨wc.heap.size, 0, none⟩)]) rfl trivial (enters_of Try.func58 (by kernel_rfl) rfl)
      (all_stops Fence.wide 4 trivial rfl (by omega) wc.heap.size wc.heap.size A7 c7 L hl6 hbb W6 (by omega) (by omega) hsq.cell (st.ext hE6)) belowK_t (belowK_b (by omega)) (Below.refl _ _) (fun _ => rfl)
      (fun pre W => (∀ s ∈ pre, ∀ z, s.1.f ≤ z → z < s.1.t → B.bs[(z - F).toNat]? = p[(z - a).toNat]?) ∧ Below W6.heap.size W6 W)
      (fun c pre W => c = .ret ∧ (∃ z, Mem L z ∧ B.bs[(z - F).toNat]? ≠ p[(z - a).toNat]?) ∧ (Boxed W (w.heap.size + 1) 3 (.int .i64 0) ∧ Boxed W (w.heap.size + 1 + 1) 37 (.int .i64 12)) ∧ Below w.heap.size w W)
      (fun s A B row hs hg hr => ⟨hs.1, ownFrom_below (β := Unit) (Nat.le_refl _) (Nat.le_refl _) () A B row hs.2 hg hr⟩)
      (fun c s A B row hs hg hr => ⟨hs.1, hs.2.1, ⟨boxed_keep hs.2.2.1.1 hg hr, boxed_keep hs.2.2.1.2 hg hr⟩, ownFrom_below (β := Unit) (Nat.le_refl _) (by have := hEw.size; omega) () A B row hs.2.2.2 hg hr⟩)
      ⟨by simp, Below.refl _ _⟩
      (fun x a' W => ∃ Bx, W6.heap.size ≤ Bx ∧ W.heap[Bx]? = some (.cells #[.int .i64 x.1.f, .int .i64 x.1.t] 24 (0, 0)) ∧ a' = { tmps := #[.pointer (some ⟨pb, 0, none⟩), .int .i64 a, .slice (some ⟨b, o, none⟩) m c, .pointer (some ⟨w.heap.size, 0, none⟩), undef, undef, .pointer (some ⟨w.heap.size + 1, 0, none⟩), .pointer (some ⟨w.heap.size + 1 + 1, 0, none⟩), .pointer (some ⟨xi, 0, none⟩), .bool true, .pointer (some ⟨xi + 1, 0, none⟩), .pointer (some ⟨xt, 0, none⟩), .pointer (some ⟨Bx, 0, none⟩), undef, .pointer (some ⟨pb, 0, none⟩), .bool false, .bool false, .int .i64 a, .bool (decide (a < 0)), .bool (decide (a < 0)), .int .i64 a, .pointer (some ⟨pb, 0, none⟩), .pointer (some ⟨pb, 0, none⟩), .pointer (some ⟨pb, 2, none⟩), .pointer (some ⟨pb, 3, none⟩), .int .i64 T, .bool false, .bool false, .slice (some ⟨b, o, none⟩) m c, .int .i64 ↑m, .bool false, .bool false, .tuple #[.agg #[.int .i64 X, .int .i64 Y], .bool true], .int .i64 a, .int .i64 a, .slice (some ⟨b, o, none⟩) m c, .int .i64 ↑m, .int .i64 (a + ↑m), .agg #[.int .i64 a, .int .i64 (a + ↑m)], .pointer (some ⟨pb, 0, none⟩), .pointer (some ⟨pb, 0, none⟩), .pointer (some ⟨pb, 2, none⟩), .agg #[.int .i64 F, .int .i64 T], .tuple #[.agg #[.int .i64 X, .int .i64 Y], .bool true], .agg #[.int .i64 X, .int .i64 Y], .bool true, .bool true, .bool false, .slice (some ⟨b, o, none⟩) m c, .pointer (some ⟨xi, 0, none⟩), .int .i64 X, .int .i64 a, .int .i64 ↑k1, .pointer (some ⟨xi, 1, none⟩), .int .i64 Y, .int .i64 a, .int .i64 ↑k2, .slice (some ⟨b, o + k1, none⟩) (k2 - k1) (c - k1), u58, u59, u60, u61, u62, u63, u64, u65, .agg #[.slice A7 L.length c7], .func (.func 58) #[] #[.pointer (some ⟨wc.heap.size, 0, none⟩)], .agg #[.int .i64 x.1.f, .int .i64 x.1.t], u69, u70, u71, u72, u73, u74, u75, u76, u77, u78, u79, u80, u81, u82, u83, u84, u85, u86, u87, u88, u89, u90, u91, u92, u93, u94, u95, u96, u97, u98, u99, u100, u101, u102, u103, u104, u105, u106, u107, u108, u109, u110, u111, u112, u113, u114, u115, u116, u117, u118, u119, u120, u121, u122, u123, u124, u125, u126, u127, u128, u129, u130, u131], defers := [] })
      (fun x a' _ X Y row hs hg hr => by
        obtain ⟨Bx, h1, h2, h3⟩ := hs
        exact ⟨Bx, h1, (hg.block Bx (Array.getElem?_eq_some_iff.1 h2).1 (fun e => by obtain ⟨_, o, ho, hc⟩ := hr Bx e.symm; rw [h2] at ho; cases ho; cases hc)).trans h2, h3⟩)
      ?assign ?body ?done ?stop
    case assign =>
      rintro l pre x W K ⟨hpp, hB⟩ hK
      have hzW := Below.size hB
      gi_wp2
      exact hK _ _ ((KeepsOthers.alloc _ _).from _) ((Below.refl _ W).alloc (by omega) _) ⟨hpp, hB.alloc hzW _⟩ ⟨W.heap.size, hzW, heap_alloc_new W _, rfl⟩
    case body =>
      rintro l pre x a' W hl _ ⟨hpp, hB⟩ ⟨Bx, hBx, hbx, rfl⟩ hlt
      obtain ⟨hm1, hm2⟩ := hAL x.1 x.2
      have hEx : Ext w W := hEw.trans (hE6.trans hB)
      have hEx2 : Ext w2 W := hE.trans (hE6.trans hB)
      have y0 : W.cell? ⟨Bx, 0, none⟩ = some (.int .i64 x.1.f) := by rw [cell_of_block hbx]; rfl
      have y1 : W.cell? ⟨Bx, 1, none⟩ = some (.int .i64 x.1.t) := by rw [cell_of_block hbx]; rfl
      have i0 : W.cell? ⟨xi, 0, none⟩ = some (.int .i64 X) := hEx2.cell (by rw [cell_of_block bi]; rfl)
      have cb := hEx2.cell bx0.cell
      have co := hEx2.cell bo.cell
      have d2 := hEx.cell HD.out.1
      have d4 := hEx.cell HD.out.2.2.1
      obtain ⟨f, hf⟩ : ∃ f, x.1.f = f := ⟨_, rfl⟩
      obtain ⟨t, ht⟩ : ∃ t, x.1.t = t := ⟨_, rfl⟩
      have hft' : f < t := by rw [← hf, ← ht]; exact (hNL.1 x.1 x.2).2.1
      rw [hf] at y0 hm1
      rw [ht] at y1 hm2
      rw [hf, ht]
      have HF := Lib.hid (And.intro hf ht)
      clear hf ht
      gi_wp2
      gi_loopw [13] (fun i wr => ∃ k : Int, i = .int .i64 k ∧ f ≤ k ∧ k ≤ t ∧ (∀ z, f ≤ z → z < k → B.bs[(z - F).toNat]? = p[(z - a).toNat]?) ∧ Ext W wr ∧ KeepsFrom W6.heap.size W wr) (fun i _ => (t - intOf i).toNat)
      case atStart => exact ⟨f, rfl, Int.le_refl _, Int.le_of_lt hft', fun z h1 h2 => by omega, Ext.refl _, KeepsFrom.refl _ _⟩
      case round =>
        obtain ⟨k, rfl, hk1, hk2, hkm, hxr, hkf⟩ := hrel
        replace y0 := hxr.cell y0
        replace y1 := hxr.cell y1
        replace i0 := hxr.cell i0
        replace cb := hxr.cell cb
        replace co := hxr.cell co
        replace d2 := hxr.cell d2
        replace d4 := hxr.cell d4
        by_cases hlt2 : k < t
        · have hxk := HX.out
          have hyk := HY.out
          obtain ⟨K1, K2, K3⟩ := HK.out
          obtain ⟨j1, hj1⟩ : ∃ j : Nat, k - F = j := ⟨(k - F).toNat, by omega⟩
          obtain ⟨j2, hj2⟩ : ∃ j : Nat, k - X = j := ⟨(k - X).toNat, by omega⟩
          have q1 : j1 < B.bs.length := by omega
          have q2 : k1 + j2 < p.length := by have := HE'.out.2.2.2.2; omega
          have v1 : (bytesL B.bs)[j1]? = some (.int .u8 (B.bs[j1].toNat : Int)) := by simp [bytesL, q1]
          have v2 : W.cell? ⟨b, o + k1 + j2, none⟩ = some (.int .u8 (p[k1 + j2].toNat : Int)) := by rw [Nat.add_assoc]; exact hEx.cell (HPC.out (k1 + j2) q2)
          replace v1 := hxr.cell (hEx.cell (HBS.out j1 _ v1))
          replace v2 := hxr.cell v2
          have n1 : (k - F).toNat = j1 := by omega
          have n2 : (k - a).toNat = k1 + j2 := by omega
          have m1 : B.bs[(k - F).toNat]? = some B.bs[j1] := by rw [n1]; exact List.getElem?_eq_getElem q1
          have m2 : p[(k - a).toNat]? = some p[k1 + j2] := by rw [n2]; exact List.getElem?_eq_getElem q2
          have hw1 : IntKind.i64.wrap (k - F) = (j1 : Int) := (IntWalk.i64_in _ (by omega)).trans hj1
          have hw2 : IntKind.i64.wrap (k - X) = (j2 : Int) := (IntWalk.i64_in _ (by omega)).trans hj2
          have r1 : (j1 : Int) < (B.bs.length : Int) := by omega
          have r2 : (j2 : Int) < ((k2 - k1 : Nat) : Int) := by omega
          generalize B.bs[j1] = x1 at *
          generalize p[k1 + j2] = x2 at *
          have HM := Lib.hid (And.intro m1 m2)
          have HJ := Lib.hid (And.intro hj1 hj2)
          clear m1 m2 n1 n2 hj1 hj2 K1 K2 K3 hxk hyk
          have hin : IntKind.i64.wrap (k + 1) = k + 1 := IntWalk.i64_in _ (by have := HY.out; have := HX.out; omega)
          have xb1 : Boxed wr _ _ _ := hxr.block (hEx2.block bx1)
          have xb2 : Boxed wr _ _ _ := hxr.block (hEx2.block bx2)
          have cx1 := xb1.cell
          have fx1 := xb1.frozen
          have cx2 := xb2.cell
          have fx2 := xb2.frozen
          gi_wp2
          refine wpInR_region_still_tail 20 (by kernel_rfl) (by kernel_rfl) (by kernel_rfl) ?_
          simp only [List.take_succ_cons, List.take_zero, List.drop_succ_cons, List.drop_zero]
          iterate 20 still_step
          refine wpStill_nil ?_
          gi_wp2
          · rename_i hne
            have hne2 : x1 ≠ x2 := fun e => by rw [e] at hne; simp at hne
            have hzW : w.heap.size + 1 + 1 < wc.heap.size := Nat.lt_of_lt_of_le (Boxed.lt bx2) hzw
            have hEr : Ext w wr := hEx.trans hxr
            refine ⟨hkf.trans ⟨by show wr.heap.size ≤ _; simp [World.setCell], fun i o hi ho hc => ?_⟩, rfl, ⟨k, ⟨x.1, x.2, by rw [HF.out.1]; exact hk1, by rw [HF.out.2]; exact hlt2⟩, ?_⟩, ⟨?_, ?_⟩, ?_⟩
            · exact (Below.heap_setCell _ _ _ i (by show i ≠ w.heap.size + 1 + 1; omega)).trans ((Below.heap_setCell _ _ _ i (by show i ≠ w.heap.size + 1; omega)).trans ho)
            · rw [HM.out.1, HM.out.2]; exact fun e => hne2 (Option.some.inj e)
            · exact ((show Boxed wr.drew _ _ _ from xb1).set (.int .i64 0)).other (by omega) _
            · exact ((show Boxed wr.drew _ _ _ from xb2).other (by omega) _).set (.int .i64 12)
            · exact (((hEr.drew).setCell (by show w.heap.size ≤ w.heap.size + 1; omega) _).setCell (by show w.heap.size ≤ w.heap.size + 1 + 1; omega) _)
          · rename_i hne
            have hne2 : x1 = x2 := UInt8.toNat_inj.1 (by have : (x1.toNat : Int) = x2.toNat := by simpa using hne
                                                         omega)
            go_roundw
            case rel =>
              refine ⟨k + 1, rfl, by omega, by omega, fun z z1 z2 => ?_, hxr.drew, hkf.trans ⟨Nat.le_refl _, fun _ _ _ h _ => h⟩⟩
              rcases Int.lt_or_le z k with h | h
              · exact hkm z z1 h
              · obtain rfl : z = k := by omega
                rw [HM.out.1, HM.out.2, hne2]
            case measure => simp [intOf]; omega
        · obtain rfl : k = t := by omega
          gi_wp2
          have hzW : wc.heap.size ≤ W.heap.size := by have := Below.size hB; omega
          refine ⟨by rw [← hz6]; exact hkf, Below.mono hxr hzW, ⟨fun s hsL hs z h1 h2 => ?_, by rw [← hz6]; exact hB.trans (Below.mono hxr (Below.size hB))⟩⟩
          rcases List.mem_append.1 hs with h | h
          · exact hpp ⟨s, hsL⟩ h z h1 h2
          · obtain rfl : (⟨s, hsL⟩ : {s : Sp // s ∈ L}) = x := by simpa using h
            exact hkm z (by rw [← HF.out.1]; exact h1) (by rw [← HF.out.2]; exact h2)
    case done =>
      rintro D ys W hD rfl ⟨hpp, hB⟩ hK
      have hEW6 : Ext wc W := hE6.trans hB
      have hEx : Ext w W := hEw.trans hEW6
      have hEx2 : Ext w2 W := hE.trans hEW6
      have i0 : W.cell? ⟨xi, 0, none⟩ = some (.int .i64 X) := hEx2.cell (by rw [cell_of_block bi]; rfl)
      have cb := hEx2.cell bx0.cell
      have co := hEx2.cell bo.cell
      have d2 := hEx.cell HD.out.1
      have d4 := hEx.cell HD.out.2.2.1
      have hxk := HX.out
      have hyk := HY.out
      obtain ⟨K1, K2, K3⟩ := HK.out
      obtain ⟨E1, E2, E3, E4, E5⟩ := HE'.out
      have hno : ¬ B.clash a p := by
        rintro ⟨z, hz, z1, z2, hne⟩
        rw [E3] at z1
        rw [E4] at z2
        rw [HH.out] at hz
        have hzL : Mem L z := by rw [← HL.out, mem_and (norm_one HO.out) HN.out, mem_single]; exact ⟨⟨z1, z2⟩, hz⟩
        obtain ⟨s, hs1, hs2, hs3⟩ := hzL
        rw [E1] at hne
        exact hne (hpp ⟨s, hs1⟩ (List.mem_attach _ _) z hs2 hs3)
      have HNO := Lib.hid hno
      have hws : IntKind.i64.wrap (X - F) = (k3 : Int) := (IntWalk.i64_in _ (by omega)).trans K3
      have t1 : (k3 : Int) ≤ (B.bs.length : Int) := by omega
      have t2 : k3 ≤ B.bs.length := by omega
      have t3 : k3 < B.bs.length := by omega
      have t4 : ¬ B.bs.length = k3 := by omega
      have hG : W.drew.heap[g]? = some (.cells (bytesL B.bs).toArray 5 (0, 0)) := hEx.block HPB.out.2
      obtain ⟨cs, hcs⟩ : ∃ cs, (p.drop k1).take (k2 - k1) = cs := ⟨_, rfl⟩
      have hcl : cs.length = k2 - k1 := by rw [← hcs]; simp; omega
      have hsrc : ∀ j v, (bytesL cs)[j]? = some v → W.drew.cell? ((⟨b, o + k1, none⟩ : Addr).add j) = some v := by
        intro j v hv
        have hj : j < k2 - k1 := by rw [← hcl, ← bytesL_length]; exact (List.getElem?_eq_some_iff.1 hv).1
        have hq : k1 + j < p.length := by omega
        rw [add_plain, Nat.add_assoc]
        have e1 : v = .int .u8 (p[k1 + j].toNat : Int) := by
          rw [← hcs] at hv
          simp only [bytesL, List.getElem?_map, List.getElem?_take, hj, if_true, List.getElem?_drop, List.getElem?_eq_getElem hq, Option.map_some] at hv
          exact (Option.some.inj hv).symm
        rw [e1]
        exact hEx.cell (HPC.out (k1 + j) hq)
      have hmin : (bytesL cs).length = Nat.min (k2 - k1) (B.bs.length - k3) := by
        rw [bytesL_length, hcl]
        show _ = min _ _
        omega
      have hfit : k3 + (bytesL cs).length ≤ (bytesL B.bs).toArray.size := by simp only [List.size_toArray, bytesL_length, hcl]; omega
      have HCP := Lib.hid (And.intro hG (And.intro hsrc (And.intro hmin hfit)))
      have HC2 := Lib.hid (And.intro hcs hcl)
      clear hno hG hsrc hmin hfit hcs hcl hpp hxk hyk K1 K2 K3 E1 E2 E3 E4 E5
      go_wp2
      refine wp_region_still_tail 14 (by kernel_rfl) (by kernel_rfl) ?_
      simp only [List.take_succ_cons, List.take_zero, List.drop_succ_cons, List.drop_zero]
      iterate 14 still_step
      refine wpStill_nil ?_
      (refine wpList_copy_own rfl _ _ _ _ rfl 5 Try.underlying43 (by kernel_rfl) g k3 _ _ ⟨b, o + k1, none⟩ _ _ rfl rfl _ _ HCP.out.1 (bytesL cs) HCP.out.2.2.1 HCP.out.2.1 HCP.out.2.2.2 (bytes_plain _) ?_)
      have hch : Chg lo hi W (W.drew.setRow g (List.take k3 (bytesL B.bs).toArray.toList ++ (bytesL cs ++ List.drop (k3 + (bytesL cs).length) (bytesL B.bs).toArray.toList)).toArray) :=
        (Chg.of_ext (Ext.refl W).drew).trans (Chg.setRow _ (by assumption) (by assumption))
      have hg2 : (W.drew.setRow g (List.take k3 (bytesL B.bs).toArray.toList ++ (bytesL cs ++ List.drop (k3 + (bytesL cs).length) (bytesL B.bs).toArray.toList)).toArray).heap[g]? = some (.cells (bytesL (splice B.bs k3 cs)).toArray 5 (0, 0)) := by
        rw [setRow_heap _ _ _ _ _ _ HCP.out.1]
        simp [splice, bytesL, List.map_take, List.map_drop]
      have hpb2 : (W.drew.setRow g (List.take k3 (bytesL B.bs).toArray.toList ++ (bytesL cs ++ List.drop (k3 + (bytesL cs).length) (bytesL B.bs).toArray.toList)).toArray).heap[pb]? = some (.cells #[.int .i64 B.u, .int .i64 B.n, .int .i64 B.f, .int .i64 B.t, .slice (some ⟨g, 0, none⟩) B.bs.length B.bs.length, .slice A5 B.hs.length c5] 72 (0, 0)) :=
        (setRow_other _ _ _ _ (by omega)).trans (hEx.block HPB.out.1)
      change wpList _ _ _ _ _ (W.drew.setRow g (List.take k3 (bytesL B.bs).toArray.toList ++ (bytesL cs ++ List.drop (k3 + (bytesL cs).length) (bytesL B.bs).toArray.toList)).toArray)
      generalize (W.drew.setRow g (List.take k3 (bytesL B.bs).toArray.toList ++ (bytesL cs ++ List.drop (k3 + (bytesL cs).length) (bytesL B.bs).toArray.toList)).toArray) = W2 at *
      have hws := hx.size
      have zi := hEx2.block bi
      have zb : Boxed W _ _ _ := hEx2.block bx0
      have z1' : Boxed W _ _ _ := hEx2.block bx1
      have z2' : Boxed W _ _ _ := hEx2.block bx2
      have zt : Boxed W _ _ _ := hEW6.block bt
      have vi := hch.keep zi (.inr (by omega))
      have vb : Boxed W2 _ _ _ := hch.keep zb (.inr (by omega))
      have i0 : W2.cell? ⟨xi, 0, none⟩ = some (.int .i64 X) := by rw [cell_of_block vi]; rfl
      have i1 : W2.cell? ⟨xi, 1, none⟩ = some (.int .i64 Y) := by rw [cell_of_block vi]; rfl
      have cb := vb.cell
      have HS2 : Hid (SAt W2 A5 hs) := Lib.hid ((HS.out.ext hEx2).chgZ hch HZ1.out (by rw [← HH.out]; exact H9.out))
      have HST : Hid (SAt W A7 L) := Lib.hid (st.ext hEW6)
      have e5 : W2.cell? ⟨pb, 5, none⟩ = some (.slice A5 hs.length c5) := by rw [cell_of_block hpb2, HH.out]; rfl
      have fz : W2.frozen? ⟨pb, 5, none⟩ = false := frozen_of_block hpb2 5
      obtain ⟨R, hR⟩ : ∃ R, orS hs [⟨X, Y⟩] = R := ⟨_, rfl⟩
      have hor := fun A c W hA hB => or1_calls A c X Y A5 c5 hs W hA hB HO.out HN.out (by omega)
      rw [hR] at hor
      have HA := Lib.hid hor
      have HR := Lib.hid hR
      have HZ := Lib.hid (And.intro zi (And.intro zt (And.intro z1' z2')))
      have HP2 := Lib.hid (And.intro hg2 hpb2)
      have hpw : pb < W2.heap.size := block_of_cell e5
      clear hor hR zi zb zt z1' z2' vi vb hg2 hpb2 HCP d2 d4 co st ct
      go_wp2
      have keep : Hid (∀ W', Ext W2 W' → W'.cell? ⟨xi, 0, none⟩ = some (.int .i64 X) ∧ W'.cell? ⟨xi, 1, none⟩ = some (.int .i64 Y) ∧ W'.cell? ⟨w.heap.size, 0, none⟩ = some (.pointer (some ⟨pb, 0, none⟩))) := Lib.hid fun W' hE => ⟨hE.cell i0, hE.cell i1, hE.cell cb⟩
      have keep2 : Hid (∀ W', Ext W2 W' → ∀ u, (W'.setCell ⟨pb, 5, none⟩ u).cell? ⟨xi, 0, none⟩ = some (.int .i64 X) ∧ (W'.setCell ⟨pb, 5, none⟩ u).cell? ⟨xi, 1, none⟩ = some (.int .i64 Y) ∧ (W'.setCell ⟨pb, 5, none⟩ u).cell? ⟨w.heap.size, 0, none⟩ = some (.pointer (some ⟨pb, 0, none⟩))) := Lib.hid fun W' hE u => ⟨(World.cell?_setCell_far _ _ _ u (by show pb ≠ xi; omega)).trans (hE.cell i0), (World.cell?_setCell_far _ _ _ u (by show pb ≠ xi; omega)).trans (hE.cell i1), (World.cell?_setCell_far _ _ _ u (by show pb ≠ w.heap.size; omega)).trans (hE.cell cb)⟩
      have HE := Lib.hid (Ext.refl W2)
      have hE1 : Ext W2 (W2.alloc (.cells #[.int .i64 X, .int .i64 Y] 24)).drew := ((Ext.refl W2).alloc _).drew
      have HB1 : Hid (SAt (W2.alloc (.cells #[.int .i64 X, .int .i64 Y] 24)).drew (some ⟨W2.heap.size, 0, none⟩) [⟨X, Y⟩]) := Lib.hid ((sat_new W2 X Y _).ext (Ext.refl _).drew)
      try simp only [Act.put]
      try simp only [List.setIfInBounds_toArray]
      try simp only [List.set_cons_succ]
      try simp only [List.set_cons_zero]
      go_cut [11] from 112 to 131 (fun v wx => v = .pointer (some ⟨xt, 0, none⟩) ∧ OrAt W2 pb R wx)
      case first =>
        refine wp_region_noPanic ?_
        refine wp_region_held_drew (S := fun w' => w'.cell? ⟨xi, 0, none⟩ = some (.int .i64 X) ∧ w'.cell? ⟨xi, 1, none⟩ = some (.int .i64 Y) ∧ w'.cell? ⟨w.heap.size, 0, none⟩ = some (.pointer (some ⟨pb, 0, none⟩))) (by kernel_rfl) ?_ (fun hHeld => ?_)
        · exact keep.out _ (Ext.refl W2).drew
        refine wpAnyH_take (i := 0) (v := ?_) rfl (by kernel_rfl) (by kernel_rfl) (by kernel_rfl) (fun _ _ _ h => h) (Or.inl ⟨by rfl, ?_⟩) (by assumption) ?_
        rotate_left
        · intro w hSw
          try dsimp only at hSw
          go_simp
          try with_reducible rfl
        try simp only [Act.put]
        try simp only [List.setIfInBounds_toArray]
        try simp only [List.set_cons_succ]
        try simp only [List.set_cons_zero]
        refine wpAnyH_take (i := 1) (v := ?_) rfl (by kernel_rfl) (by kernel_rfl) (by kernel_rfl) (fun _ _ _ h => h) (Or.inl ⟨by rfl, ?_⟩) (by assumption) ?_
        rotate_left
        · intro w hSw
          try dsimp only at hSw
          go_simp
          try with_reducible rfl
        try simp only [Act.put]
        try simp only [List.setIfInBounds_toArray]
        try simp only [List.set_cons_succ]
        try simp only [List.set_cons_zero]
        refine wpAnyH_take (i := 2) (v := ?_) rfl (by kernel_rfl) (by kernel_rfl) (by kernel_rfl) (fun _ _ _ h => h) (Or.inl ⟨by rfl, ?_⟩) (by assumption) ?_
        rotate_left
        · intro w hSw
          try dsimp only at hSw
          go_simp
          try with_reducible rfl
        try simp only [Act.put]
        try simp only [List.setIfInBounds_toArray]
        try simp only [List.set_cons_succ]
        try simp only [List.set_cons_zero]
        refine wpAnyH_take (i := 3) (v := ?_) rfl (by kernel_rfl) (by kernel_rfl) (by kernel_rfl) (fun _ _ _ h => h) (Or.inl ⟨by rfl, ?_⟩) (by assumption) ?_
        rotate_left
        · intro w hSw
          try dsimp only at hSw
          go_simp
          try with_reducible rfl
        try simp only [Act.put]
        try simp only [List.setIfInBounds_toArray]
        try simp only [List.set_cons_succ]
        try simp only [List.set_cons_zero]
        refine wpAnyH_take (i := 5) (v := ?_) rfl (by kernel_rfl) (by kernel_rfl) (by kernel_rfl) (fun _ _ _ h => h) (Or.inl ⟨by rfl, ?_⟩) (by assumption) ?_
        rotate_left
        · intro w hSw
          try dsimp only at hSw
          go_simp
          try with_reducible rfl
        try simp only [Act.put]
        try simp only [List.setIfInBounds_toArray]
        try simp only [List.set_cons_succ]
        try simp only [List.set_cons_zero]
        refine wpAnyH_ready (rs := [4, 6]) (by kernel_rfl) (by simp) ?_
        refine AllReadyH.cons rfl (fun K hK => ?_) (AllReadyH.cons rfl (fun K hK => ?_) AllReadyH.nil)
        · have e5' := ((Ext.refl W2).drew).cell e5
          go_simp
          clear e5'
          refine hK.out _ _ ?_ (fun hHeld2 => ?_)
          · exact keep.out _ ((Ext.refl W2).drew)
          clear hHeld
          have hHeld := hHeld2
          clear hHeld2 hK K
          try simp only [Act.put]
          try simp only [List.setIfInBounds_toArray]
          try simp only [List.set_cons_succ]
          try simp only [List.set_cons_zero]
          refine wpAnyH_ready (rs := [6]) (by kernel_rfl) (by simp) ?_
          refine AllReadyH.cons rfl (fun K hK => ?_) AllReadyH.nil
          go_simp
          refine hK.out _ _ ?_ (fun hHeld2 => ?_)
          · exact keep.out _ (hE1)
          clear hHeld
          have hHeld := hHeld2
          clear hHeld2 hK K
          try simp only [Act.put]
          try simp only [List.setIfInBounds_toArray]
          try simp only [List.set_cons_succ]
          try simp only [List.set_cons_zero]
          refine wpAnyH_ready (rs := [7]) (by kernel_rfl) (by simp) ?_
          refine AllReadyH.cons rfl (fun K hK => ?_) AllReadyH.nil
          go_simp
          refine (of1_calls _ _ X Y _ HB1.out HO.out).mono ?_
          rintro e w3 ⟨A6, c6, rfl, HS6, _, hx6⟩
          have hE3 : Ext W2 w3 := hE1.trans hx6
          go_simp
          refine hK.out _ _ ?_ (fun hHeld2 => ?_)
          · exact keep.out _ (hE3)
          clear hHeld
          have hHeld := hHeld2
          clear hHeld2 hK K
          try simp only [Act.put]
          try simp only [List.setIfInBounds_toArray]
          try simp only [List.set_cons_succ]
          try simp only [List.set_cons_zero]
          refine wpAnyH_ready (rs := [8]) (by kernel_rfl) (by simp) ?_
          refine AllReadyH.cons rfl (fun K hK => ?_) AllReadyH.nil
          go_simp
          refine (HA.out _ _ _ HS6.out (HS2.out.ext hE3)).mono ?_
          rintro e w4 ⟨A8, c8, rfl, HS8, HN8, hx8⟩
          have hE4 : Ext W2 w4 := hE3.trans hx8
          have q1 := hE4.cell e5
          have q2 := (hE4.frozen (p := ⟨pb, 5, none⟩) hpw).trans fz
          go_simp
          refine hK.out _ _ ?_ (fun hHeld2 => ?_)
          · exact keep.out _ (hE4)
          clear hHeld
          have hHeld := hHeld2
          clear hHeld2 hK K
          try simp only [Act.put]
          try simp only [List.setIfInBounds_toArray]
          try simp only [List.set_cons_succ]
          try simp only [List.set_cons_zero]
          refine wpAnyH_take (i := 9) (v := ?_) rfl (by kernel_rfl) (by kernel_rfl) (by kernel_rfl) (fun _ _ _ h => h) (Or.inl ⟨by rfl, ?_⟩) (by assumption) ?_
          rotate_left
          · intro w hSw
            try dsimp only at hSw
            go_simp
            try with_reducible rfl
          try simp only [Act.put]
          try simp only [List.setIfInBounds_toArray]
          try simp only [List.set_cons_succ]
          try simp only [List.set_cons_zero]
          refine wpAnyH_take (i := 10) (v := ?_) rfl (by kernel_rfl) (by kernel_rfl) (by kernel_rfl) (fun _ _ _ h => h) (Or.inl ⟨by rfl, ?_⟩) (by assumption) ?_
          rotate_left
          · intro w hSw
            try dsimp only at hSw
            go_simp
            try with_reducible rfl
          try simp only [Act.put]
          try simp only [List.setIfInBounds_toArray]
          try simp only [List.set_cons_succ]
          try simp only [List.set_cons_zero]
          refine wpAnyH_ready (rs := [11]) (by kernel_rfl) (by simp) ?_
          refine AllReadyH.cons rfl (fun K hK => ?_) AllReadyH.nil
          go_simp
          refine hK.out _ _ ?_ (fun hHeld2 => ?_)
          · exact keep2.out _ hE4 _
          clear hHeld hHeld2 hK K
          try simp only [Act.put]
          try simp only [List.setIfInBounds_toArray]
          try simp only [List.set_cons_succ]
          try simp only [List.set_cons_zero]
          refine wpAnyH_done (by kernel_rfl) ?_ _
          refine noPanic_intro ?_
          go_wp2_with fail
          go_meet
          case rel => exact ⟨rfl, A8, c8, w4, rfl, HS8.out, HN8.out.le hE3, hE4⟩
        · go_simp
          refine hK.out _ _ ?_ (fun hHeld2 => ?_)
          · exact keep.out _ (hE1)
          clear hHeld
          have hHeld := hHeld2
          clear hHeld2 hK K
          try simp only [Act.put]
          try simp only [List.setIfInBounds_toArray]
          try simp only [List.set_cons_succ]
          try simp only [List.set_cons_zero]
          refine wpAnyH_ready (rs := [4, 7]) (by kernel_rfl) (by simp) ?_
          refine AllReadyH.cons rfl (fun K hK => ?_) (AllReadyH.cons rfl (fun K hK => ?_) AllReadyH.nil)
          · have e5' := (hE1).cell e5
            go_simp
            clear e5'
            refine hK.out _ _ ?_ (fun hHeld2 => ?_)
            · exact keep.out _ (hE1)
            clear hHeld
            have hHeld := hHeld2
            clear hHeld2 hK K
            try simp only [Act.put]
            try simp only [List.setIfInBounds_toArray]
            try simp only [List.set_cons_succ]
            try simp only [List.set_cons_zero]
            refine wpAnyH_ready (rs := [7]) (by kernel_rfl) (by simp) ?_
            refine AllReadyH.cons rfl (fun K hK => ?_) AllReadyH.nil
            go_simp
            refine (of1_calls _ _ X Y _ HB1.out HO.out).mono ?_
            rintro e w3 ⟨A6, c6, rfl, HS6, _, hx6⟩
            have hE3 : Ext W2 w3 := hE1.trans hx6
            go_simp
            refine hK.out _ _ ?_ (fun hHeld2 => ?_)
            · exact keep.out _ (hE3)
            clear hHeld
            have hHeld := hHeld2
            clear hHeld2 hK K
            try simp only [Act.put]
            try simp only [List.setIfInBounds_toArray]
            try simp only [List.set_cons_succ]
            try simp only [List.set_cons_zero]
            refine wpAnyH_ready (rs := [8]) (by kernel_rfl) (by simp) ?_
            refine AllReadyH.cons rfl (fun K hK => ?_) AllReadyH.nil
            go_simp
            refine (HA.out _ _ _ HS6.out (HS2.out.ext hE3)).mono ?_
            rintro e w4 ⟨A8, c8, rfl, HS8, HN8, hx8⟩
            have hE4 : Ext W2 w4 := hE3.trans hx8
            have q1 := hE4.cell e5
            have q2 := (hE4.frozen (p := ⟨pb, 5, none⟩) hpw).trans fz
            go_simp
            refine hK.out _ _ ?_ (fun hHeld2 => ?_)
            · exact keep.out _ (hE4)
            clear hHeld
            have hHeld := hHeld2
            clear hHeld2 hK K
            try simp only [Act.put]
            try simp only [List.setIfInBounds_toArray]
            try simp only [List.set_cons_succ]
            try simp only [List.set_cons_zero]
            refine wpAnyH_take (i := 9) (v := ?_) rfl (by kernel_rfl) (by kernel_rfl) (by kernel_rfl) (fun _ _ _ h => h) (Or.inl ⟨by rfl, ?_⟩) (by assumption) ?_
            rotate_left
            · intro w hSw
              try dsimp only at hSw
              go_simp
              try with_reducible rfl
            try simp only [Act.put]
            try simp only [List.setIfInBounds_toArray]
            try simp only [List.set_cons_succ]
            try simp only [List.set_cons_zero]
            refine wpAnyH_take (i := 10) (v := ?_) rfl (by kernel_rfl) (by kernel_rfl) (by kernel_rfl) (fun _ _ _ h => h) (Or.inl ⟨by rfl, ?_⟩) (by assumption) ?_
            rotate_left
            · intro w hSw
              try dsimp only at hSw
              go_simp
              try with_reducible rfl
            try simp only [Act.put]
            try simp only [List.setIfInBounds_toArray]
            try simp only [List.set_cons_succ]
            try simp only [List.set_cons_zero]
            refine wpAnyH_ready (rs := [11]) (by kernel_rfl) (by simp) ?_
            refine AllReadyH.cons rfl (fun K hK => ?_) AllReadyH.nil
            go_simp
            refine hK.out _ _ ?_ (fun hHeld2 => ?_)
            · exact keep2.out _ hE4 _
            clear hHeld hHeld2 hK K
            try simp only [Act.put]
            try simp only [List.setIfInBounds_toArray]
            try simp only [List.set_cons_succ]
            try simp only [List.set_cons_zero]
            refine wpAnyH_done (by kernel_rfl) ?_ _
            refine noPanic_intro ?_
            go_wp2_with fail
            go_meet
            case rel => exact ⟨rfl, A8, c8, w4, rfl, HS8.out, HN8.out.le hE3, hE4⟩
          · go_simp
            refine (of1_calls _ _ X Y _ HB1.out HO.out).mono ?_
            rintro e w3 ⟨A6, c6, rfl, HS6, _, hx6⟩
            have hE3 : Ext W2 w3 := hE1.trans hx6
            go_simp
            refine hK.out _ _ ?_ (fun hHeld2 => ?_)
            · exact keep.out _ (hE3)
            clear hHeld
            have hHeld := hHeld2
            clear hHeld2 hK K
            try simp only [Act.put]
            try simp only [List.setIfInBounds_toArray]
            try simp only [List.set_cons_succ]
            try simp only [List.set_cons_zero]
            refine wpAnyH_ready (rs := [4]) (by kernel_rfl) (by simp) ?_
            refine AllReadyH.cons rfl (fun K hK => ?_) AllReadyH.nil
            have e5' := (hE3).cell e5
            go_simp
            clear e5'
            refine hK.out _ _ ?_ (fun hHeld2 => ?_)
            · exact keep.out _ (hE3)
            clear hHeld
            have hHeld := hHeld2
            clear hHeld2 hK K
            try simp only [Act.put]
            try simp only [List.setIfInBounds_toArray]
            try simp only [List.set_cons_succ]
            try simp only [List.set_cons_zero]
            refine wpAnyH_ready (rs := [8]) (by kernel_rfl) (by simp) ?_
            refine AllReadyH.cons rfl (fun K hK => ?_) AllReadyH.nil
            go_simp
            refine (HA.out _ _ _ HS6.out (HS2.out.ext hE3)).mono ?_
            rintro e w4 ⟨A8, c8, rfl, HS8, HN8, hx8⟩
            have hE4 : Ext W2 w4 := hE3.trans hx8
            have q1 := hE4.cell e5
            have q2 := (hE4.frozen (p := ⟨pb, 5, none⟩) hpw).trans fz
            go_simp
            refine hK.out _ _ ?_ (fun hHeld2 => ?_)
            · exact keep.out _ (hE4)
            clear hHeld
            have hHeld := hHeld2
            clear hHeld2 hK K
            try simp only [Act.put]
            try simp only [List.setIfInBounds_toArray]
            try simp only [List.set_cons_succ]
            try simp only [List.set_cons_zero]
            refine wpAnyH_take (i := 9) (v := ?_) rfl (by kernel_rfl) (by kernel_rfl) (by kernel_rfl) (fun _ _ _ h => h) (Or.inl ⟨by rfl, ?_⟩) (by assumption) ?_
            rotate_left
            · intro w hSw
              try dsimp only at hSw
              go_simp
              try with_reducible rfl
            try simp only [Act.put]
            try simp only [List.setIfInBounds_toArray]
            try simp only [List.set_cons_succ]
            try simp only [List.set_cons_zero]
            refine wpAnyH_take (i := 10) (v := ?_) rfl (by kernel_rfl) (by kernel_rfl) (by kernel_rfl) (fun _ _ _ h => h) (Or.inl ⟨by rfl, ?_⟩) (by assumption) ?_
            rotate_left
            · intro w hSw
              try dsimp only at hSw
              go_simp
              try with_reducible rfl
            try simp only [Act.put]
            try simp only [List.setIfInBounds_toArray]
            try simp only [List.set_cons_succ]
            try simp only [List.set_cons_zero]
            refine wpAnyH_ready (rs := [11]) (by kernel_rfl) (by simp) ?_
            refine AllReadyH.cons rfl (fun K hK => ?_) AllReadyH.nil
            go_simp
            refine hK.out _ _ ?_ (fun hHeld2 => ?_)
            · exact keep2.out _ hE4 _
            clear hHeld hHeld2 hK K
            try simp only [Act.put]
            try simp only [List.setIfInBounds_toArray]
            try simp only [List.set_cons_succ]
            try simp only [List.set_cons_zero]
            refine wpAnyH_done (by kernel_rfl) ?_ _
            refine noPanic_intro ?_
            go_wp2_with fail
            go_meet
            case rel => exact ⟨rfl, A8, c8, w4, rfl, HS8.out, HN8.out.le hE3, hE4⟩
      case rest =>
        obtain ⟨rfl, A8, c8, w4, hw5, h8, hN8, hE4⟩ := hcut
        have hgp : g ≠ pb := by assumption
        have hp5 : wc.heap[pb]? = some (.cells #[.int .i64 B.u, .int .i64 B.n, .int .i64 B.f, .int .i64 B.t, .slice (some ⟨g, 0, none⟩) B.bs.length B.bs.length, .slice A8 R.length c8] 72 (0, 0)) := by
          rw [hw5, heap_setCell_same _ _ _ _ _ _ (hE4.block HP2.out.2)]; rfl
        have hg5 : wc.heap[g]? = some (.cells (bytesL (splice B.bs k3 cs)).toArray 5 (0, 0)) := by
          rw [hw5]; exact (Below.heap_setCell w4 ⟨pb, 5, none⟩ _ g hgp).trans (hE4.block HP2.out.1)
        have hch5 : Chg lo hi W wc := by
          rw [hw5]; exact hch.trans ((Chg.of_ext hE4).trans (Chg.setCell _ (by assumption) (by assumption)))
        have h8w : SAt wc A8 R := by rw [hw5]; exact h8.set_old hN8 hpw _
        have hWW := hEx.size
        have hWW2 := hch.size
        have hO8 : InZ Z A8 R := fun b o e _ => HZ2.out b (by have := hN8 b o e; omega)
        have hO8' : OutA w.heap.size W2.heap.size A8 := fun b o e => .inr (hN8 b o e)
        clear hw5 h8 hE4
        have HF5 := Lib.hid (And.intro hp5 (And.intro hg5 (And.intro h8w (And.intro hO8 hO8'))))
        have vi := hch5.keep HZ.out.1 (.inr (by omega))
        have vt : Boxed wc _ _ _ := hch5.keep HZ.out.2.1 (.inr (by omega))
        have v1 : Boxed wc _ _ _ := hch5.keep HZ.out.2.2.1 (.inr (by omega))
        have v2 : Boxed wc _ _ _ := hch5.keep HZ.out.2.2.2 (.inr (by omega))
        have i0 : wc.cell? ⟨xi, 0, none⟩ = some (.int .i64 X) := by rw [cell_of_block vi]; rfl
        have i1 : wc.cell? ⟨xi, 1, none⟩ = some (.int .i64 Y) := by rw [cell_of_block vi]; rfl
        have ct := vt.cell
        have HS7 : Hid (SAt wc.drew A7 L) := Lib.hid ((HST.out.chg hch5 (HN7.out.out hh)).ext (Ext.refl _).drew)
        have hLs : 0 ≤ lenS L ∧ lenS L ≤ 4611686018427387904 := by
          unfold lenS
          split
          · omega
          · have := sumS_bound hNL L.length (Nat.le_refl _)
            rw [List.take_length] at this
            exact ⟨this.1, this.2.2.1⟩
        have HLC := fun W h => len_calls A7 c7 L W h hNL (by omega)
        obtain ⟨n2, hn2⟩ : ∃ n2, lenS L = n2 := ⟨_, rfl⟩
        rw [hn2] at hLs HLC
        obtain ⟨hn0, hn1⟩ := hLs
        have HLL := Lib.hid HLC
        have HN2 := Lib.hid hn2
        have hxk := HX.out
        have hyk := HY.out
        have hX0 : 0 ≤ X := by omega
        have hYT : Y ≤ T := by omega
        have hb1t : w.heap.size + 1 < xt := by omega
        clear HLC hn2 hp5 hg5 h8w hO8 hO8' vi vt hxk hyk HA HS2 HST e5 fz keep keep2 hE1 HB1 HE
        have keep : Hid (∀ W', Ext wc W' → W'.cell? ⟨xi, 0, none⟩ = some (.int .i64 X) ∧ W'.cell? ⟨xi, 1, none⟩ = some (.int .i64 Y) ∧ W'.cell? ⟨xt, 0, none⟩ = some (.slice A7 L.length c7)) := Lib.hid fun W' hE => ⟨hE.cell i0, hE.cell i1, hE.cell ct⟩
        have HE := Lib.hid (Ext.refl wc).drew
        have fx : ∀ (W' : World) (u : Value) (b : Nat) (v : Value) (i : Nat), xi ≤ b → W'.cell? ⟨b, i, none⟩ = some v → (W'.setCell ⟨w.heap.size + 1, 0, none⟩ u).cell? ⟨b, i, none⟩ = some v := fun W' u b v i h1 h => (World.cell?_setCell_far _ _ _ u (by show w.heap.size + 1 ≠ b; omega)).trans h
        have fx2 : ∀ (W' : World) (u : Value) (b : Nat) (v : Value) (i : Nat), xi ≤ b → W'.cell? ⟨b, i, none⟩ = some v → (W'.setCell ⟨w.heap.size + 1 + 1, 0, none⟩ u).cell? ⟨b, i, none⟩ = some v := fun W' u b v i h1 h => (World.cell?_setCell_far _ _ _ u (by show w.heap.size + 1 + 1 ≠ b; omega)).trans h
        have hxit : xi ≤ xt := by omega
        have HFX := Lib.hid (And.intro fx (And.intro fx2 hxit))
        clear fx fx2
        go_wp2
        refine wp_region_noPanic ?_
        go_region_held3 (fun w' => w'.cell? ⟨xi, 0, none⟩ = some (.int .i64 X) ∧ w'.cell? ⟨xi, 1, none⟩ = some (.int .i64 Y) ∧ w'.cell? ⟨xt, 0, none⟩ = some (.slice A7 L.length c7))
          ((first
            | exact keep.out _ HE.out
            | exact keep.out _ hE6'
            | (obtain ⟨p0, p1, p2⟩ := keep.out _ hE6'; exact ⟨HFX.out.1 _ _ _ _ _ (Nat.le_refl _) p0, HFX.out.1 _ _ _ _ _ (Nat.le_refl _) p1, HFX.out.1 _ _ _ _ _ HFX.out.2.2 p2⟩)
            | (obtain ⟨p0, p1, p2⟩ := keep.out _ hE6'; exact ⟨HFX.out.2.1 _ _ _ _ _ (Nat.le_refl _) (HFX.out.1 _ _ _ _ _ (Nat.le_refl _) p0), HFX.out.2.1 _ _ _ _ _ (Nat.le_refl _) (HFX.out.1 _ _ _ _ _ (Nat.le_refl _) p1), HFX.out.2.1 _ _ _ _ _ HFX.out.2.2 (HFX.out.1 _ _ _ _ _ HFX.out.2.2 p2)⟩)))
          ((go_at_call 47
            with_reducible refine (HLL.out _ HS7.out).mono ?_
            rintro e w6 ⟨rfl, hx9⟩
            have hE6' : Ext wc w6 := HE.out.trans hx9
            have q1 : Boxed w6 _ _ _ := hE6'.block v1
            have q2 : Boxed w6 _ _ _ := hE6'.block v2
            have q3 := q1.cell
            have q4 := q1.frozen
            have q5 := q2.cell
            have q6 := q2.frozen))
        all_goals refine noPanic_intro ?_
        go_wp2
        have hw3 : IntKind.i64.wrap (IntKind.i64.wrap (Y - X) - n2) = Y - X - n2 := by
          rw [IntWalk.i64_in (Y - X) (by omega)]; exact IntWalk.i64_in _ (by omega)
        rw [hw3]
        obtain ⟨hp5, hg5, h8w, hO8, hO8'⟩ := HF5.out
        have hD1 : W6.heap.size ≤ D := hD
        have hDW : D < W.heap.size := (Array.getElem?_eq_some_iff.1 hK).1
        have hww := Nat.le_trans hEw.size hE6.size
        have hwD : w.heap.size + 1 + 1 < W6.heap.size := by omega
        have hKc : wc.heap[D]? = some (.deferred (some [])) := hch5.keep hK (.inr (by omega))
        have hK6 : ((w6.setCell ⟨w.heap.size + 1, 0, none⟩ (.int .i64 (Y - X - n2))).setCell ⟨w.heap.size + 1 + 1, 0, none⟩ (.int .i64 0)).heap[D]? = some (.deferred (some [])) :=
          (Below.heap_setCell _ _ _ D (by show D ≠ w.heap.size + 1 + 1; omega)).trans ((Below.heap_setCell _ _ _ D (by show D ≠ w.heap.size + 1; omega)).trans (hE6'.block hKc))
        have y1 : Boxed ((w6.setCell ⟨w.heap.size + 1, 0, none⟩ (.int .i64 (Y - X - n2))).setCell ⟨w.heap.size + 1 + 1, 0, none⟩ (.int .i64 0)) (w.heap.size + 1) 3 (.int .i64 (Y - X - n2)) := (q1.set _).other (by omega) _
        have y2 : Boxed ((w6.setCell ⟨w.heap.size + 1, 0, none⟩ (.int .i64 (Y - X - n2))).setCell ⟨w.heap.size + 1 + 1, 0, none⟩ (.int .i64 0)) (w.heap.size + 1 + 1) 37 (.int .i64 0) := (q2.other (by omega) _).set _
        have hcF : Chg w.heap.size W2.heap.size wc (((w6.setCell ⟨w.heap.size + 1, 0, none⟩ (.int .i64 (Y - X - n2))).setCell ⟨w.heap.size + 1 + 1, 0, none⟩ (.int .i64 0)).putObj D (.deferred none)) :=
          (Chg.of_ext hE6').trans ((Chg.setCell _ (by show w.heap.size ≤ w.heap.size + 1; omega) (by show w.heap.size + 1 < W2.heap.size; omega)).trans ((Chg.setCell _ (by show w.heap.size ≤ w.heap.size + 1 + 1; omega) (by show w.heap.size + 1 + 1 < W2.heap.size; omega)).trans (Chg.putObj _ _ (by omega) (by omega))))
        refine ⟨by simp, .inl ⟨_, _, rfl, run_takeDeferred hK6, ?_⟩⟩
        have u1 := (boxed_put y1 hK6).cell
        have u2 := (boxed_put y2 hK6).cell
        refine ⟨.tuple #[.int .i64 (Y - X - n2), .int .i64 0], ?_, ?_⟩
        · simp [results, Try.f23, go_sem, u1, u2]
        · generalize (((w6.setCell ⟨w.heap.size + 1, 0, none⟩ (.int .i64 (Y - X - n2))).setCell ⟨w.heap.size + 1 + 1, 0, none⟩ (.int .i64 0)).putObj D (.deferred none)) = wF at *
          obtain ⟨K1, K2, K3⟩ := HK.out
          obtain ⟨E1, E2, E3, E4, E5⟩ := HE'.out
          have hnc : ¬ (a < 0 ∨ B.y a p ≤ B.x a ∨ B.clash a p) := by
            rw [E3, E4]
            rintro (h | h | h)
            · omega
            · omega
            · exact HNO.out h
          have e1 : B.putE a p = 0 := by unfold Bf.putE; rw [if_neg (by omega), if_neg (by rw [E3, E4]; omega), if_neg HNO.out]
          have e2 : B.putN a p = Y - X - n2 := by unfold Bf.putN; rw [if_neg hnc, E3, E4, HH.out, HL.out, HN2.out]
          have e3 : B.put a p = { B with bs := splice B.bs k3 cs, hs := R } := by
            unfold Bf.put
            rw [if_neg hnc, E3, E4, E1, HH.out, HR.out, show (X - F).toNat = k3 by omega, show (X - a).toNat = k1 by omega, show (Y - X).toNat = k2 - k1 by omega, HC2.out.1]
          have hcl := HC2.out.2
          have hls : (splice B.bs k3 cs).length = B.bs.length := length_splice _ _ _ (by omega)
          refine ⟨by rw [e1, e2], Lib.hid ?_, ((Chg.of_ext hEx).trans hch5).under hcF⟩
          rw [e3]
          refine ⟨g, A8, c8, ?_, hcF.keep hg5 (.inl (by omega)), by assumption, by assumption, by assumption, by assumption, by assumption, h8w.chg hcF hO8', hO8⟩
          show wF.heap[pb]? = some (.cells #[.int .i64 B.u, .int .i64 B.n, .int .i64 B.f, .int .i64 B.t, .slice (some ⟨g, 0, none⟩) (splice B.bs k3 cs).length (splice B.bs k3 cs).length, .slice A8 R.length c8] 72 (0, 0))
          rw [hls]
          exact hcF.keep hp5 (.inl (by omega))
    case stop =>
      rintro D c pre W hD hpre ⟨rfl, ⟨z, hz, hne⟩, ⟨g1, g2⟩, hB⟩ hK
      gi_wp2
      have hEW : Ext w W := hB
      refine ⟨by simp, .inl ⟨_, _, rfl, run_takeDeferred hK, ?_⟩⟩
      have u1 := (boxed_put g1 hK).cell
      have u2 := (boxed_put g2 hK).cell
      have hEP : Ext w (W.putObj D (.deferred none)) := hB.trans (belowK_b (w := w) (Nat.le_refl _) W D _ _ (by have := hEw.size; omega) hK rfl rfl)
      obtain ⟨q1, q2, q3, q4, q5⟩ := HE'.out
      rw [← HL.out, mem_and (norm_one HO.out) HN.out, mem_single] at hz
      have hcl : B.clash a p := ⟨z, by rw [HH.out]; exact hz.2, by rw [q3]; exact hz.1.1, by rw [q4]; exact hz.1.2, by rw [q1]; exact hne⟩
      have e1 : B.putE a p = 12 := by unfold Bf.putE; rw [if_neg (by omega), if_neg (by rw [q3, q4]; omega), if_pos hcl]
      have e2 : B.putN a p = 0 := by unfold Bf.putN; rw [if_pos (.inr (.inr hcl))]
      have e3 : B.put a p = B := by unfold Bf.put; rw [if_pos (.inr (.inr hcl))]
      refine ⟨.tuple #[.int .i64 0, .int .i64 12], ?_, ?_⟩
      · simp [results, Try.f23, go_sem, u1, u2]
      · exact ⟨by rw [e1, e2], Lib.hid (by rw [e3]; exact hB0.out.ext hEP), Chg.of_ext hEP⟩
end Go.Proofs.Ytoahjhkfnchdhaa
