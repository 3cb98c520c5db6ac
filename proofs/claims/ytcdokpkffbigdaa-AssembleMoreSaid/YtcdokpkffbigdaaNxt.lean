/- Body.Next. -/
import Derived.Test.YtcdokpkffbigdaaNew
import Derived.Deep.Cut
namespace Go.Proofs.Ytcdokpkffbigdaa
open Go.RowKit

/-- How many bytes of a part can be told. -/
def canS (p : Pt) (S : List Sp) : Int := if p.s = [] then
    match firstS S p.f with
    | some x => if x.f = p.f then min p.t x.t - p.f else 0
    | none => 0
  else p.s.length
def cutA (p : Pt) (m : Int) : Pt := if p.s = [] then ⟨[], p.f, p.f + m⟩ else ⟨p.s.take m.toNat, 0, 0⟩
def cutB (p : Pt) (m : Int) : Pt := if p.s = [] then ⟨[], p.f + m, p.t⟩ else ⟨p.s.drop m.toNat, 0, 0⟩
def Pt.isE (p : Pt) : Bool := p.s == [] && p.f == p.t
def restS (p : Pt) (l : List Pt) : List Pt := if p.isE then l else p :: l
def nextS (L : List Pt) (S : List Sp) (most : Int) : Option (Pt × List Pt × Int) :=
  match L with
  | [] => none
  | p :: l => if min (canS p S) most < 1 then none else some (cutA p (min (canS p S) most), restS (cutB p (min (canS p S) most)) l, min (canS p S) most)
def NextPost (lo hi pb : Nat) (n : Int) (r : Option (Pt × List Pt × Int)) (w : World) (e : Ending) (w' : World) : Prop :=
  match r with
  | none => e = .returned (.tuple #[(Pt.mk [] 0 0).val, .bool false]) ∧ Ext w w'
  | some x => e = .returned (.tuple #[x.1.val, .bool true]) ∧ Hid (BodyAt lo hi w' pb x.2.1 (n + x.2.2)) ∧ Chg lo hi w w'

theorem noPanic_intro {Q : Exit → Act → World → Prop} {a : Act} {w : World} (h : Q .normal a w) : NoPanic Q .normal a w := h
theorem cell_of_block {w : World} {k : Nat} {cs : Array Value} {e : TypeId} {fr : Nat × Nat} (h : w.heap[k]? = some (.cells cs e fr)) (j : Nat) : w.cell? ⟨k, j, none⟩ = cs[j]? := by
  rw [cell_of_row w k j _ _ _ h]
theorem frozen_of_block {w : World} {k : Nat} {cs : Array Value} {e : TypeId} (h : w.heap[k]? = some (.cells cs e (0, 0))) (j : Nat) : w.frozen? ⟨k, j, none⟩ = false := by
  simp [World.frozen?, h]
def PartBox (w : World) (q : Pt) (v : Value) (wx : World) : Prop := ∃ xb, v = .pointer (some ⟨xb, 0, none⟩) ∧ w.heap.size ≤ xb ∧ wx.heap[xb]? = some (.cells #[.string ⟨q.s.toArray⟩, .int .i64 q.f, .int .i64 q.t] 40 (0, 0)) ∧ Ext w wx
theorem part_fill {w : World} {b : Nat} {t : TypeId} {x y z u v r : Value} (h : w.heap[b]? = some (.cells #[x, y, z] t (0, 0))) : (((w.setCell ⟨b, 0, none⟩ u).setCell ⟨b, 1, none⟩ v).setCell ⟨b, 2, none⟩ r).heap[b]? = some (.cells #[u, v, r] t (0, 0)) := by
  rw [heap_setCell_same _ _ _ _ _ _ (heap_setCell_same _ _ _ _ _ _ (heap_setCell_same _ _ _ _ _ _ h))]; rfl

theorem BodyAt.set_ {lo hi : Nat} {w : World} {pb : Nat} {L : List Pt} {n : Int} {p : Addr} (h : BodyAt lo hi w pb L n) (hp : hi ≤ p.block) (u : Value) : BodyAt lo hi (w.setCell p u) pb L n := by
  obtain ⟨A, c, h1, h2, h3, h4, h5⟩ := h
  refine ⟨A, c, (Below.heap_setCell w p u pb (by omega)).trans h1, h2, h3, h4, fun k hk => ?_⟩
  obtain ⟨b, o, e, hb, hf, p0, p1, p2⟩ := h5 k hk
  have hne : ∀ j, p ≠ ⟨b, j, none⟩ := fun j e => by rw [e] at hp; have : hi ≤ b := hp; omega
  exact ⟨b, o, e, hb, fun j => by rw [← hf j]; simp [go_sem], (World.cell?_setCell_other w p _ u (hne _)).trans p0, (World.cell?_setCell_other w p _ u (hne _)).trans p1, (World.cell?_setCell_other w p _ u (hne _)).trans p2⟩
theorem BodyAt.drew_ {lo hi : Nat} {w : World} {pb : Nat} {L : List Pt} {n : Int} (h : BodyAt lo hi w pb L n) : BodyAt lo hi w.drew pb L n := h
theorem LAt.setpb {lo hi pb j : Nat} {w : World} {A : Option Addr} {L : List Pt} (h : LAt lo hi pb w A L) (u : Value) : LAt lo hi pb (w.setCell ⟨pb, j, none⟩ u) A L := fun k hk => by
  obtain ⟨b, o, e, hb, hf, p0, p1, p2⟩ := h k hk
  have hne : ∀ i, (⟨pb, j, none⟩ : Addr) ≠ ⟨b, i, none⟩ := fun i e => hb.2.2 (congrArg Addr.block e).symm
  exact ⟨b, o, e, hb, fun j => by rw [← hf j]; simp [go_sem], (World.cell?_setCell_other w _ _ u (hne _)).trans p0, (World.cell?_setCell_other w _ _ u (hne _)).trans p1, (World.cell?_setCell_other w _ _ u (hne _)).trans p2⟩
theorem Chg.set_ {lo hi : Nat} {w w' : World} {p : Addr} (h : Chg lo hi w w') (hp : (lo ≤ p.block ∧ p.block < hi) ∨ w.heap.size ≤ p.block) (u : Value) : Chg lo hi w (w'.setCell p u) :=
  ⟨h.os, h.tape, h.output, by simpa [World.setCell] using h.size, fun k hk hne => (Below.heap_setCell w' p u k (fun e => by omega)).trans (h.block k hk hne)⟩
theorem Chg.drew_ {lo hi : Nat} {w w' : World} (h : Chg lo hi w w') : Chg lo hi w w'.drew := ⟨h.os, h.tape, h.output, h.size, h.block⟩
theorem LAt.tail {lo hi pb b o : Nat} {w w' : World} {p : Pt} {l : List Pt} (h : LAt lo hi pb w (some ⟨b, o, none⟩) (p :: l)) (hk : ∀ j u, 3 ≤ j → w.cell? ⟨b, o + j, none⟩ = some u → w'.cell? ⟨b, o + j, none⟩ = some u) (hf : ∀ j, w'.frozen? ⟨b, j, none⟩ = false) : LAt lo hi pb w' (some ⟨b, o + 3, none⟩) l := fun k hk' => by
  obtain ⟨b', o', e, hb, _, p0, p1, p2⟩ := h (k + 1) (by simpa using hk')
  cases e
  refine ⟨b, o + 3, rfl, hb, hf, ?_, ?_, ?_⟩
  · have := hk ((k + 1) * 3) _ (by omega) p0
    rwa [show o + (k + 1) * 3 = o + 3 + k * 3 from by omega] at this
  · have := hk ((k + 1) * 3 + 1) _ (by omega) p1
    rwa [show o + ((k + 1) * 3 + 1) = o + 3 + k * 3 + 1 from by omega] at this
  · have := hk ((k + 1) * 3 + 2) _ (by omega) p2
    rwa [show o + ((k + 1) * 3 + 2) = o + 3 + k * 3 + 2 from by omega] at this
theorem LAt.head {lo hi pb b o : Nat} {w' : World} {p : Pt} {l : List Pt} (h : LAt lo hi pb w' (some ⟨b, o + 3, none⟩) l) (hb : lo ≤ b ∧ b < hi ∧ b ≠ pb) (hf : ∀ j, w'.frozen? ⟨b, j, none⟩ = false)
    (p0 : w'.cell? ⟨b, o, none⟩ = some (.string ⟨p.s.toArray⟩)) (p1 : w'.cell? ⟨b, o + 1, none⟩ = some (.int .i64 p.f)) (p2 : w'.cell? ⟨b, o + 2, none⟩ = some (.int .i64 p.t)) : LAt lo hi pb w' (some ⟨b, o, none⟩) (p :: l) := fun k hk => by
  rcases k with _ | k
  · refine ⟨b, o, rfl, hb, hf, ?_, ?_, ?_⟩
    · simpa using p0
    · simpa using p1
    · simpa using p2
  · obtain ⟨b', o', e, _, _, q0, q1, q2⟩ := h k (by simpa using hk)
    cases e
    refine ⟨b, o, rfl, hb, hf, ?_, ?_, ?_⟩
    · rw [show o + (k + 1) * 3 = o + 3 + k * 3 from by omega]; exact q0
    · rw [show o + (k + 1) * 3 + 1 = o + 3 + k * 3 + 1 from by omega]; exact q1
    · rw [show o + (k + 1) * 3 + 2 = o + 3 + k * 3 + 2 from by omega]; exact q2

set_option maxHeartbeats 4000000 in
set_option maxRecDepth 100000 in
theorem next_nil (lo hi pb : Nat) (L : List Pt) (n : Int) (A : Option Addr) (c : Nat) (S : List Sp) (most : Int) (w : World) (h : BodyAt lo hi w pb L n) (hm : L = [] ∨ most < 1) (r : Option (Pt × List Pt × Int)) (hr : r = none) :
    Calls Try.prog 16 #[.pointer (some ⟨pb, 0, none⟩), .agg #[.slice A S.length c], .int .i64 most] w (NextPost lo hi pb n r w) := by
  have hx0 : Ext w ((w.alloc (.cells #[.slice A S.length c] 34)).alloc (.cells #[.string ⟨#[]⟩, .int .i64 0, .int .i64 0] 40)) := ((Ext.refl w).alloc _).alloc _
  subst hr
  obtain ⟨A', c', h1, _⟩ := h.ext hx0
  have c0 : ((w.alloc (.cells #[.slice A S.length c] 34)).alloc (.cells #[.string ⟨#[]⟩, .int .i64 0, .int .i64 0] 40)).cell? ⟨pb, 0, none⟩ = some (.slice A' L.length c') := by rw [cell_of_row _ _ _ _ _ _ h1]; rfl
  clear h1 h
  rcases hm with rfl | hm
  · go_enter Try.func16, Try.ntmps16
    go_wp2
    refine bodyPost_ret (v := .tuple #[.agg #[.string ⟨#[]⟩, .int .i64 0, .int .i64 0], .bool false]) (by simp [results, Try.results16, go_sem]) rfl ⟨rfl, ?_⟩
    ((repeat' (first | exact hx0 | refine Ext.alloc ?_ _ | refine Ext.drew ?_ | refine Ext.setCell ?_ ?_ _)) <;> (first | (dsimp only; omega) | (simp; omega)))
  · rcases L with _ | ⟨p, l⟩
    · go_enter Try.func16, Try.ntmps16
      go_wp2
      refine bodyPost_ret (v := .tuple #[.agg #[.string ⟨#[]⟩, .int .i64 0, .int .i64 0], .bool false]) (by simp [results, Try.results16, go_sem]) rfl ⟨rfl, ?_⟩
      ((repeat' (first | exact hx0 | refine Ext.alloc ?_ _ | refine Ext.drew ?_ | refine Ext.setCell ?_ ?_ _)) <;> (first | (dsimp only; omega) | (simp; omega)))
    · have e1 : (((p :: l).length : Int) == 0) = false := beq_eq_false_iff_ne.2 (by simp; omega)
      have e2 : decide (most < 1) = true := decide_eq_true hm
      generalize (p :: l).length = nl at *
      go_enter Try.func16, Try.ntmps16
      go_wp2
      refine bodyPost_ret (v := .tuple #[.agg #[.string ⟨#[]⟩, .int .i64 0, .int .i64 0], .bool false]) (by simp [results, Try.results16, go_sem]) rfl ⟨rfl, ?_⟩
      ((repeat' (first | exact hx0 | refine Ext.alloc ?_ _ | refine Ext.drew ?_ | refine Ext.setCell ?_ ?_ _)) <;> (first | (dsimp only; omega) | (simp; omega)))

theorem ready_none {p : Pt} {S : List Sp} (h : readyS p S = none) : canS p S = 0 := by
  unfold readyS at h
  unfold canS
  by_cases hs : p.s = []
  · rw [if_pos hs] at h ⊢
    cases hF : firstS S p.f with
    | none => rfl
    | some x =>
      rw [hF] at h
      by_cases hx : x.f = p.f
      · simp [hx] at h
      · simp [hx]
  · simp [hs] at h
theorem ready_text {p q : Pt} {S : List Sp} (h : readyS p S = some q) (hs : ¬ p.s = []) : q = p ∧ canS p S = p.s.length := by
  unfold readyS at h
  unfold canS
  rw [if_neg hs] at h ⊢
  exact ⟨(Option.some.inj h).symm, rfl⟩
theorem ready_span {p q : Pt} {S : List Sp} (h : readyS p S = some q) (hs : p.s = []) (hp : p.f < p.t) : q.s = [] ∧ q.f = p.f ∧ q.t = p.f + canS p S ∧ 1 ≤ canS p S ∧ p.f + canS p S ≤ p.t := by
  unfold readyS at h
  unfold canS
  rw [if_pos hs] at h ⊢
  cases hF : firstS S p.f with
  | none => rw [hF] at h; cases h
  | some x =>
    rw [hF] at h
    by_cases hx : x.f = p.f
    · have hxt : p.f < x.t := by
        unfold firstS at hF
        cases hl : S[beh S p.f]? with
        | none => rw [hl] at hF; cases hF
        | some y =>
          rw [hl] at hF
          obtain ⟨hlt, hy⟩ := List.getElem?_eq_some_iff.1 hl
          have := beh_at hlt
          rw [hy] at this
          cases hF
          exact this
      simp only [hx, if_true, Option.some.injEq] at h ⊢
      subst h
      refine ⟨rfl, rfl, by simp only; omega, by omega, by omega⟩
    · simp [hx] at h

theorem str_take (s : List UInt8) (k : Nat) : (⟨s.toArray⟩ : ByteArray).extract 0 k = ⟨(s.take k).toArray⟩ := by
  apply ByteArray.ext
  simp [ByteArray.data_extract]
theorem str_drop (s : List UInt8) (k : Nat) : (⟨s.toArray⟩ : ByteArray).extract k s.length = ⟨(s.drop k).toArray⟩ := by
  apply ByteArray.ext
  simp [ByteArray.data_extract, List.extract, List.take_of_length_le]

set_option maxHeartbeats 4000000 in
set_option maxRecDepth 100000 in
theorem next_calls (lo hi pb : Nat) (p : Pt) (l : List Pt) (n : Int) (A : Option Addr) (c : Nat) (S : List Sp) (most : Int) (w : World) (h : BodyAt lo hi w pb (p :: l) n) (hS : SAt w A S) (hN : Norm S) (hlS : S.length ≤ 1000000) (hm : 1 ≤ most)
    (hp : p.s = [] → 0 ≤ p.f ∧ p.f < p.t ∧ p.t ≤ 4611686018427387904) (hq : p.s ≠ [] → p.f = 0 ∧ p.t = 0 ∧ p.s.length ≤ 1000) (hn : 0 ≤ n ∧ n + p.size ≤ 9000000000000000000) (hll : l.length ≤ 1000) (hhi : hi ≤ w.heap.size) :
    Calls Try.prog 16 #[.pointer (some ⟨pb, 0, none⟩), .agg #[.slice A S.length c], .int .i64 most] w (NextPost lo hi pb n (nextS (p :: l) S most) w) := by
  have hx0 : Ext w ((w.alloc (.cells #[.slice A S.length c] 34)).alloc (.cells #[.string ⟨#[]⟩, .int .i64 0, .int .i64 0] 40)) := ((Ext.refl w).alloc _).alloc _
  have hB := Lib.hid h
  have hS' := Lib.hid (hS.ext hx0)
  have e1 : (((p :: l).length : Int) == 0) = false := beq_eq_false_iff_ne.2 (by simp; omega)
  have e2 : decide (most < 1) = false := decide_eq_false (by omega)
  obtain ⟨A', c', h1, h2, h3, h4, h5⟩ := h
  obtain ⟨b, o, rfl, hb, hfz, p0, p1, p2⟩ := h5 0 (by simp)
  simp only [List.getElem_cons_zero, Nat.zero_mul, Nat.add_zero] at p0 p1 p2
  have hbw : b < w.heap.size := block_of_cell p0
  have hpw : pb < w.heap.size := (Array.getElem?_eq_some_iff.1 h1).1
  replace hfz := fun j => (hx0.frozen (p := ⟨b, j, none⟩) hbw).trans (hfz j)
  replace h1 := hx0.block h1
  replace p0 := hx0.cell p0
  replace p1 := hx0.cell p1
  replace p2 := hx0.cell p2
  have c0 := (cell_of_row _ _ 0 _ _ _ h1).trans (show _ = some (.slice (some ⟨b, o, none⟩) (p :: l).length c') from rfl)
  have s0 : ((w.alloc (.cells #[.slice A S.length c] 34)).alloc (.cells #[.string ⟨#[]⟩, .int .i64 0, .int .i64 0] 40)).cell? ⟨w.heap.size, 0, none⟩ = some (.slice A S.length c) := by simp [go_sem]
  have r0 : ((w.alloc (.cells #[.slice A S.length c] 34)).alloc (.cells #[.string ⟨#[]⟩, .int .i64 0, .int .i64 0] 40)).heap[w.heap.size + 1]? = some (.cells #[.string ⟨#[]⟩, .int .i64 0, .int .i64 0] 40 (0, 0)) := by
    have := heap_alloc_new (w.alloc (.cells #[.slice A S.length c] 34)) (.cells #[.string ⟨#[]⟩, .int .i64 0, .int .i64 0] 40)
    simpa using this
  have i0 : 0 < (p :: l).length := by simp
  generalize hnl : (p :: l).length = nl at *
  rcases p with ⟨s, f, t⟩
  simp only at p0 p1 p2 hp hq
  have HL := Lib.hid h5
  have HPB := Lib.hid h1
  clear h5
  have keep : Hid (∀ W, Ext ((w.alloc (.cells #[.slice A S.length c] 34)).alloc (.cells #[.string ⟨#[]⟩, .int .i64 0, .int .i64 0] 40)) W → W.cell? ⟨pb, 0, none⟩ = some (.slice (some ⟨b, o, none⟩) nl c') ∧ W.cell? ⟨b, o, none⟩ = some (.string ⟨s.toArray⟩) ∧ W.cell? ⟨b, o + 1, none⟩ = some (.int .i64 f) ∧ W.cell? ⟨b, o + 2, none⟩ = some (.int .i64 t) ∧ W.cell? ⟨w.heap.size, 0, none⟩ = some (.slice A S.length c)) := Lib.hid fun W hx => ⟨hx.cell c0, hx.cell p0, hx.cell p1, hx.cell p2, hx.cell s0⟩
  obtain ⟨bb, hbb⟩ : ∃ bb, (readyS ⟨s, f, t⟩ S).isSome = bb := ⟨_, rfl⟩
  obtain ⟨q, hqq⟩ : ∃ q, (readyS ⟨s, f, t⟩ S).getD ⟨[], 0, 0⟩ = q := ⟨_, rfl⟩
  have HRD := Lib.hid fun W h => (ready_calls s f t A c S W h hN hlS).mono (R' := fun e w' => e = .returned (.tuple #[.agg #[.string ⟨q.s.toArray⟩, .int .i64 q.f, .int .i64 q.t], .bool bb]) ∧ Ext W w') fun e w' ⟨he, hx⟩ => ⟨by rw [he, hbb]; unfold optP; rw [hqq]; rfl, hx⟩
  have HQ := Lib.hid (And.intro hbb hqq)
  clear hbb hqq hN hS
  go_enter Try.func16, Try.ntmps16
  go_wp2_with fail
  generalize ((w.alloc (.cells #[.slice A S.length c] 34)).alloc (.cells #[.string ⟨#[]⟩, .int .i64 0, .int .i64 0] 40)) = w0 at *
  have hbx0 := heap_alloc_new w0 (.cells #[.string ⟨#[]⟩, .int .i64 0, .int .i64 0] 40)
  have HE := Lib.hid (Ext.refl w0).drew
  have HEa := Lib.hid ((Ext.refl w0).alloc (.cells #[.string ⟨#[]⟩, .int .i64 0, .int .i64 0] 40)).drew
  have HBX := Lib.hid hbx0
  clear hbx0 p0 p1 p2 c0 s0
  go_cut [8, 9] from 28 to 39 (fun v u wx => PartBox w0 q v wx ∧ u = .bool bb)
  case first =>
    refine wp_region_noPanic ?_
    go_region_held3 (fun W => W.cell? ⟨pb, 0, none⟩ = some (.slice (some ⟨b, o, none⟩) nl c') ∧ W.cell? ⟨b, o, none⟩ = some (.string ⟨s.toArray⟩) ∧ W.cell? ⟨b, o + 1, none⟩ = some (.int .i64 f) ∧ W.cell? ⟨b, o + 2, none⟩ = some (.int .i64 t) ∧ W.cell? ⟨w.heap.size, 0, none⟩ = some (.slice A S.length c))
      ((with_reducible refine keep.out _ ?_; (repeat' with_reducible first | exact HE.out | exact HEa.out | exact hE3 | exact hE5 _ _ _ | exact hE7 _ _ _ | exact Ext.refl _ | refine Ext.drew ?_ | refine Ext.alloc ?_ _)))
      ((go_at_call 40
        refine (HRD.out _ (by first | exact hS'.out.ext HEa.out | exact hS'.out.ext HE.out)).mono ?_
        rintro e w3 ⟨rfl, hx3⟩
        (first
          | (have hE3 : Ext w0 w3 := HE.out.trans hx3
             have hE5 : ∀ u v r, Ext w0 ((((w3.alloc (.cells #[.string ⟨#[]⟩, .int .i64 0, .int .i64 0] 40)).setCell ⟨w3.heap.size, 0, none⟩ u).setCell ⟨w3.heap.size, 1, none⟩ v).setCell ⟨w3.heap.size, 2, none⟩ r) := fun u v r => (((hE3.alloc _).setCell (p := ⟨w3.heap.size, 0, none⟩) hE3.size u).setCell (p := ⟨w3.heap.size, 1, none⟩) hE3.size v).setCell (p := ⟨w3.heap.size, 2, none⟩) hE3.size r)
          | (have hE3 : Ext w0 w3 := HEa.out.trans hx3
             have bx3 : w3.heap[w0.heap.size]? = some (.cells #[.string ⟨#[]⟩, .int .i64 0, .int .i64 0] 40 (0, 0)) := hx3.block HBX.out
             have hE7 : ∀ u v r, Ext w0 (((w3.setCell ⟨w0.heap.size, 0, none⟩ u).setCell ⟨w0.heap.size, 1, none⟩ v).setCell ⟨w0.heap.size, 2, none⟩ r) := fun u v r => ((hE3.setCell (p := ⟨w0.heap.size, 0, none⟩) (Nat.le_refl _) u).setCell (p := ⟨w0.heap.size, 1, none⟩) (Nat.le_refl _) v).setCell (p := ⟨w0.heap.size, 2, none⟩) (Nat.le_refl _) r
             have q0 : w3.cell? ⟨w0.heap.size, 0, none⟩ = some (.string ⟨#[]⟩) := (by rw [cell_of_block bx3]; rfl)
             have q1 : w3.cell? ⟨w0.heap.size, 1, none⟩ = some (.int .i64 0) := (by rw [cell_of_block bx3]; rfl)
             have q2 : w3.cell? ⟨w0.heap.size, 2, none⟩ = some (.int .i64 0) := (by rw [cell_of_block bx3]; rfl)
             have z0 : w3.frozen? ⟨w0.heap.size, 0, none⟩ = false := frozen_of_block bx3 0
             have z1 : w3.frozen? ⟨w0.heap.size, 1, none⟩ = false := frozen_of_block bx3 1
             have z2 : w3.frozen? ⟨w0.heap.size, 2, none⟩ = false := frozen_of_block bx3 2))))
    all_goals refine noPanic_intro ?_
    all_goals go_wp2_with fail
    all_goals go_meet
    all_goals first
      | exact ⟨⟨w0.heap.size, rfl, Nat.le_refl _, part_fill bx3, hE7 _ _ _⟩, rfl⟩
      | exact ⟨⟨w3.heap.size, rfl, hE3.size, heap_alloc_new _ _, hE3.alloc _⟩, rfl⟩
      | exact ⟨⟨w3.heap.size, rfl, hE3.size, part_fill (heap_alloc_new _ _), hE5 _ _ _⟩, rfl⟩
  case rest =>
    obtain ⟨⟨xb, rfl, hxb, bxb, hE⟩, rfl⟩ := hcut
    have r1 := hE.block r0
    have k0 : wc.cell? ⟨w.heap.size + 1, 0, none⟩ = some (.string ⟨#[]⟩) := by rw [cell_of_block r1]; rfl
    have k1 : wc.cell? ⟨w.heap.size + 1, 1, none⟩ = some (.int .i64 0) := by rw [cell_of_block r1]; rfl
    have k2 : wc.cell? ⟨w.heap.size + 1, 2, none⟩ = some (.int .i64 0) := by rw [cell_of_block r1]; rfl
    have g0 : ∀ j, wc.frozen? ⟨w.heap.size + 1, j, none⟩ = false := fun j => frozen_of_block r1 j
    have hr1 : w.heap.size + 1 < wc.heap.size := (Array.getElem?_eq_some_iff.1 r1).1
    have hxw := hx0.trans hE
    have hx0s := hx0.size
    have h1 := hE.block HPB.out
    have h5 := HL.out.ext hxw
    have K := keep.out _ hE
    obtain ⟨y0, y1, y2, y3, y4⟩ := K
    have hbf : ∀ j, wc.frozen? ⟨b, j, none⟩ = false := fun j => (hE.frozen (p := ⟨b, j, none⟩) (block_of_cell (p := ⟨b, o, none⟩) (by obtain ⟨_, h, _⟩ := keep.out _ (Ext.refl w0); exact h))).trans (hfz j)
    have y5 : wc.cell? ⟨pb, 1, none⟩ = some (.int .i64 n) := by rw [cell_of_block h1]; rfl
    have hpf : ∀ j, wc.frozen? ⟨pb, j, none⟩ = false := fun j => frozen_of_block h1 j
    have x0 : wc.cell? ⟨xb, 0, none⟩ = some (.string ⟨q.s.toArray⟩) := by rw [cell_of_block bxb]; rfl
    have x1 : wc.cell? ⟨xb, 1, none⟩ = some (.int .i64 q.f) := by rw [cell_of_block bxb]; rfl
    have x2 : wc.cell? ⟨xb, 2, none⟩ = some (.int .i64 q.t) := by rw [cell_of_block bxb]; rfl
    have xf : ∀ j, wc.frozen? ⟨xb, j, none⟩ = false := fun j => frozen_of_block bxb j
    have n1 : ¬ xb = b := by omega
    have n2 : ¬ b = xb := by omega
    have n3 : ¬ xb = pb := by omega
    have n4 : ¬ pb = xb := by omega
    have n5 : ¬ b = pb := hb.2.2
    have n6 : ¬ pb = b := fun e => hb.2.2 e.symm
    have n7 : ¬ w.heap.size + 1 = b := by omega
    have n8 : ¬ w.heap.size + 1 = pb := by omega
    have n9 : ¬ w.heap.size + 1 = xb := by have := (Array.getElem?_eq_some_iff.1 r0).1; omega
    clear HBX HEa HE HRD keep r0 r1 hE hS'
    cases bb
    · have hR : readyS ⟨s, f, t⟩ S = none := by simpa using HQ.out.1
      have hc := ready_none hR
      have HNX : Hid (nextS (⟨s, f, t⟩ :: l) S most = none) := Lib.hid (by simp only [nextS, hc]; rw [if_pos (by omega)])
      clear hR hc HQ
      go_wp2
      refine bodyPost_ret (v := .tuple #[.agg #[.string ⟨#[]⟩, .int .i64 0, .int .i64 0], .bool false]) (by simp [results, Try.results16, go_sem, k0, k1, k2]) rfl (by rw [HNX.out]; exact ⟨rfl, by ((repeat' (first | exact hxw | refine Ext.alloc ?_ _ | refine Ext.drew ?_ | refine Ext.setCell ?_ ?_ _)) <;> (first | (dsimp only; omega) | (simp; omega)))⟩)
    · have hR : readyS ⟨s, f, t⟩ S = some q := by
        cases hr : readyS ⟨s, f, t⟩ S with
        | none => have := HQ.out.1; rw [hr] at this; cases this
        | some y => have := HQ.out.2; rw [hr] at this; exact congrArg some this
      cases e5 : (s == [])
      · have hs : ¬ s = [] := by simpa using e5
        obtain ⟨rfl, hcan⟩ := ready_text hR hs
        simp only at x0 x1 x2 hcan
        obtain ⟨rfl, rfl, hsl⟩ := hq hs
        clear HQ hR
        go_wp2_with fail
        obtain ⟨m, hmm⟩ : ∃ m, min (s.length : Int) most = m := ⟨_, rfl⟩
        rw [hmm]
        have hm1 : 1 ≤ m ∧ m ≤ s.length := by have : s.length ≠ 0 := (by simpa using hs); omega
        have HM := Lib.hid hmm
        clear hmm
        obtain ⟨sa, hsa⟩ : ∃ sa, s.take m.toNat = sa := ⟨_, rfl⟩
        obtain ⟨sb, hsb⟩ : ∃ sb, s.drop m.toNat = sb := ⟨_, rfl⟩
        have hn' : n + s.length ≤ 9000000000000000000 := by simpa [Pt.size, hs] using hn.2
        have hn0 : 0 ≤ n := hn.1
        have hbe : (sb == []) = decide (m = s.length) := by rw [← hsb, Bool.eq_iff_iff]; simp; omega
        have HNX : Hid (nextS (⟨s, 0, 0⟩ :: l) S most = some (⟨sa, 0, 0⟩, restS ⟨sb, 0, 0⟩ l, m)) := Lib.hid (by simp only [nextS, hcan, HM.out]; rw [if_neg (by omega)]; simp [cutA, cutB, hs, hsa, hsb])
        clear hs e5 hcan
        go_region
        rw [str_take, str_drop, hsa, hsb]
        clear hsa hsb
        have d0 : ((wc.setCell ⟨xb, 0, none⟩ (.string ⟨sa.toArray⟩)).setCell ⟨b, o, none⟩ (.string ⟨sb.toArray⟩)).cell? ⟨pb, 0, none⟩ = some (.slice (some ⟨b, o, none⟩) nl c') := by simp [go_sem, *]
        have d4 : ((wc.setCell ⟨xb, 0, none⟩ (.string ⟨sa.toArray⟩)).setCell ⟨b, o, none⟩ (.string ⟨sb.toArray⟩)).cell? ⟨pb, 1, none⟩ = some (.int .i64 n) := by simp [go_sem, *]
        have v0 : ((wc.setCell ⟨xb, 0, none⟩ (.string ⟨sa.toArray⟩)).setCell ⟨b, o, none⟩ (.string ⟨sb.toArray⟩)).cell? ⟨b, o, none⟩ = some (.string ⟨sb.toArray⟩) := by simp [go_sem, *]
        have d1 : ((wc.setCell ⟨xb, 0, none⟩ (.string ⟨sa.toArray⟩)).setCell ⟨b, o, none⟩ (.string ⟨sb.toArray⟩)).cell? ⟨b, o + 1, none⟩ = some (.int .i64 0) := by simp [go_sem, *]
        have d2 : ((wc.setCell ⟨xb, 0, none⟩ (.string ⟨sa.toArray⟩)).setCell ⟨b, o, none⟩ (.string ⟨sb.toArray⟩)).cell? ⟨b, o + 2, none⟩ = some (.int .i64 0) := by simp [go_sem, *]
        have wx0 : ((wc.setCell ⟨xb, 0, none⟩ (.string ⟨sa.toArray⟩)).setCell ⟨b, o, none⟩ (.string ⟨sb.toArray⟩)).cell? ⟨xb, 0, none⟩ = some (.string ⟨sa.toArray⟩) := by simp [go_sem, *]
        have wx1 : ((wc.setCell ⟨xb, 0, none⟩ (.string ⟨sa.toArray⟩)).setCell ⟨b, o, none⟩ (.string ⟨sb.toArray⟩)).cell? ⟨xb, 1, none⟩ = some (.int .i64 0) := by simp [go_sem, *]
        have wx2 : ((wc.setCell ⟨xb, 0, none⟩ (.string ⟨sa.toArray⟩)).setCell ⟨b, o, none⟩ (.string ⟨sb.toArray⟩)).cell? ⟨xb, 2, none⟩ = some (.int .i64 0) := by simp [go_sem, *]
        have wk0 : ((wc.setCell ⟨xb, 0, none⟩ (.string ⟨sa.toArray⟩)).setCell ⟨b, o, none⟩ (.string ⟨sb.toArray⟩)).cell? ⟨w.heap.size + 1, 0, none⟩ = some (.string ⟨#[]⟩) := by simp [go_sem, *]
        have wk1 : ((wc.setCell ⟨xb, 0, none⟩ (.string ⟨sa.toArray⟩)).setCell ⟨b, o, none⟩ (.string ⟨sb.toArray⟩)).cell? ⟨w.heap.size + 1, 1, none⟩ = some (.int .i64 0) := by simp [go_sem, *]
        have wk2 : ((wc.setCell ⟨xb, 0, none⟩ (.string ⟨sa.toArray⟩)).setCell ⟨b, o, none⟩ (.string ⟨sb.toArray⟩)).cell? ⟨w.heap.size + 1, 2, none⟩ = some (.int .i64 0) := by simp [go_sem, *]
        have wf : ∀ j, ((wc.setCell ⟨xb, 0, none⟩ (.string ⟨sa.toArray⟩)).setCell ⟨b, o, none⟩ (.string ⟨sb.toArray⟩)).frozen? ⟨w.heap.size + 1, j, none⟩ = false := fun j => by simp [go_sem, *]
        have wpf : ∀ j, ((wc.setCell ⟨xb, 0, none⟩ (.string ⟨sa.toArray⟩)).setCell ⟨b, o, none⟩ (.string ⟨sb.toArray⟩)).frozen? ⟨pb, j, none⟩ = false := fun j => by simp [go_sem, *]
        have wbf : ∀ j, ((wc.setCell ⟨xb, 0, none⟩ (.string ⟨sa.toArray⟩)).setCell ⟨b, o, none⟩ (.string ⟨sb.toArray⟩)).frozen? ⟨b, j, none⟩ = false := fun j => by simp [go_sem, *]
        have WB : ((wc.setCell ⟨xb, 0, none⟩ (.string ⟨sa.toArray⟩)).setCell ⟨b, o, none⟩ (.string ⟨sb.toArray⟩)).heap[pb]? = some (.cells #[.slice (some ⟨b, o, none⟩) nl c', .int .i64 n] 76 (0, 0)) := (Below.heap_setCell _ _ _ pb n6).trans ((Below.heap_setCell _ _ _ pb n4).trans h1)
        have WF : ∀ j u, 3 ≤ j → wc.cell? ⟨b, o + j, none⟩ = some u → ((wc.setCell ⟨xb, 0, none⟩ (.string ⟨sa.toArray⟩)).setCell ⟨b, o, none⟩ (.string ⟨sb.toArray⟩)).cell? ⟨b, o + j, none⟩ = some u := fun j u hj hc => by
          rw [World.cell?_setCell_other _ _ _ _ (by simp <;> omega), World.cell?_setCell_other _ _ _ _ (by simp <;> omega)]; exact hc
        have WC : Chg lo hi w ((wc.setCell ⟨xb, 0, none⟩ (.string ⟨sa.toArray⟩)).setCell ⟨b, o, none⟩ (.string ⟨sb.toArray⟩)) := ((Chg.of_ext hxw).set_ (.inr (by show w.heap.size ≤ xb; omega)) _).set_ (.inl ⟨hb.1, hb.2.1⟩) _
        have hwds : w.heap.size + 1 < ((wc.setCell ⟨xb, 0, none⟩ (.string ⟨sa.toArray⟩)).setCell ⟨b, o, none⟩ (.string ⟨sb.toArray⟩)).heap.size := by simpa [World.setCell] using hr1
        have HL2 := Lib.hid (h5.tail WF wbf)
        have HWB := Lib.hid WB
        have HWC := Lib.hid WC
        clear WB WF WC
        generalize hwd : ((wc.setCell ⟨xb, 0, none⟩ (.string ⟨sa.toArray⟩)).setCell ⟨b, o, none⟩ (.string ⟨sb.toArray⟩)) = wd at *
        clear hwd k0 k1 k2 g0 hr1 y0 y1 y2 y3 y4 y5 x0 x1 x2 xf hbf hpf h1 h5 bxb hq hp hn HL HPB hB hfz
        cases e6 : decide (m = s.length)
        · have hbe2 : (sb == []) = false := by rw [hbe, e6]
          have HRS : Hid (restS ⟨sb, 0, 0⟩ l = ⟨sb, 0, 0⟩ :: l) := Lib.hid (by simp only [restS, Pt.isE, hbe2]; rfl)
          clear hbe e6
          go_wp2
          refine bodyPost_ret (v := .tuple #[.agg #[.string ⟨sa.toArray⟩, .int .i64 0, .int .i64 0], .bool true]) (by simp [results, Try.results16, go_sem, wk0, wk1, wk2]) rfl ?_
          rw [HNX.out, HRS.out]
          have hB2 : BodyAt lo hi (wd.setCell ⟨pb, 1, none⟩ (.int .i64 (n + m))) pb (⟨sb, 0, 0⟩ :: l) (n + m) := ⟨_, _, by rw [show (⟨sb, 0, 0⟩ :: l : List Pt).length = nl from hnl, heap_setCell_same _ _ _ _ _ _ HWB.out]; rfl, h2, h3, by rw [show (⟨sb, 0, 0⟩ :: l : List Pt).length = nl from hnl]; exact h4, (HL2.out.head hb wbf v0 d1 d2).setpb _⟩
          refine ⟨rfl, Lib.hid ?_, ?_⟩
          · repeat' (with_reducible first | exact hB2 | refine BodyAt.set_ ?_ (by show hi ≤ w.heap.size + 1; omega) _ | refine BodyAt.drew_ ?_)
          · repeat' (with_reducible first | exact HWC.out | refine Chg.set_ ?_ (.inr (by show w.heap.size ≤ w.heap.size + 1; omega)) _ | refine Chg.set_ ?_ (.inl ⟨h2, h3⟩) _ | refine Chg.drew_ ?_)
        · have hbe2 : (sb == []) = true := by rw [hbe, e6]
          have HRS : Hid (restS ⟨sb, 0, 0⟩ l = l) := Lib.hid (by simp only [restS, Pt.isE, hbe2]; rfl)
          have hll1 : l.length + 1 = nl := hnl
          clear hbe e6
          go_wp2_with fail
          · have hl0 : l = [] := List.eq_nil_of_length_eq_zero (by omega)
            subst hl0
            obtain rfl : nl = 1 := by simpa using hll1.symm
            refine bodyPost_ret (v := .tuple #[.agg #[.string ⟨sa.toArray⟩, .int .i64 0, .int .i64 0], .bool true]) (by simp [results, Try.results16, go_sem, wk0, wk1, wk2]) rfl ?_
            rw [HNX.out, HRS.out]
            have hB2 : ∀ A k, BodyAt lo hi ((wd.setCell ⟨pb, 1, none⟩ (.int .i64 (n + m))).setCell ⟨pb, 0, none⟩ (.slice A 0 k)) pb [] (n + m) := fun A k => ⟨A, k, by rw [heap_setCell_same _ _ _ _ _ _ (heap_setCell_same _ _ _ _ _ _ HWB.out)]; rfl, h2, h3, Nat.zero_le _, fun k hk => absurd hk (by simp)⟩
            refine ⟨rfl, Lib.hid ?_, ?_⟩
            · repeat' (with_reducible first | exact hB2 _ _ | refine BodyAt.set_ ?_ (by show hi ≤ w.heap.size + 1; omega) _ | refine BodyAt.drew_ ?_)
            · repeat' (with_reducible first | exact HWC.out | refine Chg.set_ ?_ (.inr (by show w.heap.size ≤ w.heap.size + 1; omega)) _ | refine Chg.set_ ?_ (.inl ⟨h2, h3⟩) _ | refine Chg.drew_ ?_)
          · refine bodyPost_ret (v := .tuple #[.agg #[.string ⟨sa.toArray⟩, .int .i64 0, .int .i64 0], .bool true]) (by simp [results, Try.results16, go_sem, wk0, wk1, wk2]) rfl ?_
            rw [HNX.out, HRS.out]
            have hl1 : nl - 1 = l.length := by omega
            have hB2 : BodyAt lo hi ((wd.setCell ⟨pb, 1, none⟩ (.int .i64 (n + m))).setCell ⟨pb, 0, none⟩ (.slice (some ⟨b, o + 3, none⟩) (nl - 1) (c' - 1))) pb l (n + m) := ⟨_, _, by rw [heap_setCell_same _ _ _ _ _ _ (heap_setCell_same _ _ _ _ _ _ HWB.out), hl1]; rfl, h2, h3, by omega, (HL2.out.setpb _).setpb _⟩
            refine ⟨rfl, Lib.hid ?_, ?_⟩
            · repeat' (with_reducible first | exact hB2 | refine BodyAt.set_ ?_ (by show hi ≤ w.heap.size + 1; omega) _ | refine BodyAt.drew_ ?_)
            · repeat' (with_reducible first | exact HWC.out | refine Chg.set_ ?_ (.inr (by show w.heap.size ≤ w.heap.size + 1; omega)) _ | refine Chg.set_ ?_ (.inl ⟨h2, h3⟩) _ | refine Chg.drew_ ?_)
      · have hs : s = [] := by simpa using e5
        obtain ⟨hq0, hq1, hq2, hq3, hq4⟩ := ready_span hR hs (hp hs).2.1
        have hp' := hp hs
        rcases q with ⟨qs, qf, qt⟩
        simp only at hq0 hq1 hq2 hq3 hq4 x0 x1 x2
        subst hq0 hq1 hs
        have HCN : Hid (canS ⟨[], qf, t⟩ S = qt - qf) := Lib.hid (by omega)
        have hqt : qf + 1 ≤ qt ∧ qt ≤ t := by omega
        have hn' : n + (t - qf) ≤ 9000000000000000000 := by simpa [Pt.size] using hn.2
        clear HQ hR hq2 hq3 hq4
        go_wp2_with fail
        obtain ⟨m, hmm⟩ : ∃ m, min (qt - qf) most = m := ⟨_, rfl⟩
        rw [hmm]
        have hm1 : 1 ≤ m ∧ m ≤ qt - qf := by omega
        have HM := Lib.hid hmm
        clear hmm
        have d0 : (((wc.setCell ⟨xb, 2, none⟩ (.int .i64 (qf + m))).setCell ⟨b, o + 1, none⟩ (.int .i64 (qf + m))).setCell ⟨pb, 1, none⟩ (.int .i64 (n + m))).cell? ⟨pb, 0, none⟩ = some (.slice (some ⟨b, o, none⟩) nl c') := by simp [go_sem, *]
        have d1 : (((wc.setCell ⟨xb, 2, none⟩ (.int .i64 (qf + m))).setCell ⟨b, o + 1, none⟩ (.int .i64 (qf + m))).setCell ⟨pb, 1, none⟩ (.int .i64 (n + m))).cell? ⟨b, o + 1, none⟩ = some (.int .i64 (qf + m)) := by simp [go_sem, *]
        have d2 : (((wc.setCell ⟨xb, 2, none⟩ (.int .i64 (qf + m))).setCell ⟨b, o + 1, none⟩ (.int .i64 (qf + m))).setCell ⟨pb, 1, none⟩ (.int .i64 (n + m))).cell? ⟨b, o + 2, none⟩ = some (.int .i64 t) := by simp [go_sem, *]
        have v0 : (((wc.setCell ⟨xb, 2, none⟩ (.int .i64 (qf + m))).setCell ⟨b, o + 1, none⟩ (.int .i64 (qf + m))).setCell ⟨pb, 1, none⟩ (.int .i64 (n + m))).cell? ⟨b, o, none⟩ = some (.string ⟨#[]⟩) := by simp [go_sem, *]
        have wx0 : (((wc.setCell ⟨xb, 2, none⟩ (.int .i64 (qf + m))).setCell ⟨b, o + 1, none⟩ (.int .i64 (qf + m))).setCell ⟨pb, 1, none⟩ (.int .i64 (n + m))).cell? ⟨xb, 0, none⟩ = some (.string ⟨#[]⟩) := by simp [go_sem, *]
        have wx1 : (((wc.setCell ⟨xb, 2, none⟩ (.int .i64 (qf + m))).setCell ⟨b, o + 1, none⟩ (.int .i64 (qf + m))).setCell ⟨pb, 1, none⟩ (.int .i64 (n + m))).cell? ⟨xb, 1, none⟩ = some (.int .i64 qf) := by simp [go_sem, *]
        have wx2 : (((wc.setCell ⟨xb, 2, none⟩ (.int .i64 (qf + m))).setCell ⟨b, o + 1, none⟩ (.int .i64 (qf + m))).setCell ⟨pb, 1, none⟩ (.int .i64 (n + m))).cell? ⟨xb, 2, none⟩ = some (.int .i64 (qf + m)) := by simp [go_sem, *]
        have wk0 : (((wc.setCell ⟨xb, 2, none⟩ (.int .i64 (qf + m))).setCell ⟨b, o + 1, none⟩ (.int .i64 (qf + m))).setCell ⟨pb, 1, none⟩ (.int .i64 (n + m))).cell? ⟨w.heap.size + 1, 0, none⟩ = some (.string ⟨#[]⟩) := by simp [go_sem, *]
        have wk1 : (((wc.setCell ⟨xb, 2, none⟩ (.int .i64 (qf + m))).setCell ⟨b, o + 1, none⟩ (.int .i64 (qf + m))).setCell ⟨pb, 1, none⟩ (.int .i64 (n + m))).cell? ⟨w.heap.size + 1, 1, none⟩ = some (.int .i64 0) := by simp [go_sem, *]
        have wk2 : (((wc.setCell ⟨xb, 2, none⟩ (.int .i64 (qf + m))).setCell ⟨b, o + 1, none⟩ (.int .i64 (qf + m))).setCell ⟨pb, 1, none⟩ (.int .i64 (n + m))).cell? ⟨w.heap.size + 1, 2, none⟩ = some (.int .i64 0) := by simp [go_sem, *]
        have wf : ∀ j, (((wc.setCell ⟨xb, 2, none⟩ (.int .i64 (qf + m))).setCell ⟨b, o + 1, none⟩ (.int .i64 (qf + m))).setCell ⟨pb, 1, none⟩ (.int .i64 (n + m))).frozen? ⟨w.heap.size + 1, j, none⟩ = false := fun j => by simp [go_sem, *]
        have wpf : ∀ j, (((wc.setCell ⟨xb, 2, none⟩ (.int .i64 (qf + m))).setCell ⟨b, o + 1, none⟩ (.int .i64 (qf + m))).setCell ⟨pb, 1, none⟩ (.int .i64 (n + m))).frozen? ⟨pb, j, none⟩ = false := fun j => by simp [go_sem, *]
        have wbf : ∀ j, (((wc.setCell ⟨xb, 2, none⟩ (.int .i64 (qf + m))).setCell ⟨b, o + 1, none⟩ (.int .i64 (qf + m))).setCell ⟨pb, 1, none⟩ (.int .i64 (n + m))).frozen? ⟨b, j, none⟩ = false := fun j => by simp [go_sem, *]
        have WB : (((wc.setCell ⟨xb, 2, none⟩ (.int .i64 (qf + m))).setCell ⟨b, o + 1, none⟩ (.int .i64 (qf + m))).setCell ⟨pb, 1, none⟩ (.int .i64 (n + m))).heap[pb]? = some (.cells #[.slice (some ⟨b, o, none⟩) nl c', .int .i64 (n + m)] 76 (0, 0)) := by
          rw [heap_setCell_same _ _ _ _ _ _ (((Below.heap_setCell _ _ _ pb n6).trans ((Below.heap_setCell _ _ _ pb n4).trans h1)))]; rfl
        have WF : ∀ j u, 3 ≤ j → wc.cell? ⟨b, o + j, none⟩ = some u → (((wc.setCell ⟨xb, 2, none⟩ (.int .i64 (qf + m))).setCell ⟨b, o + 1, none⟩ (.int .i64 (qf + m))).setCell ⟨pb, 1, none⟩ (.int .i64 (n + m))).cell? ⟨b, o + j, none⟩ = some u := fun j u hj hc => by
          rw [World.cell?_setCell_other _ _ _ _ (by simp <;> omega), World.cell?_setCell_other _ _ _ _ (by simp <;> omega), World.cell?_setCell_other _ _ _ _ (by simp <;> omega)]; exact hc
        have WC : Chg lo hi w (((wc.setCell ⟨xb, 2, none⟩ (.int .i64 (qf + m))).setCell ⟨b, o + 1, none⟩ (.int .i64 (qf + m))).setCell ⟨pb, 1, none⟩ (.int .i64 (n + m))) := (((Chg.of_ext hxw).set_ (.inr (by show w.heap.size ≤ xb; omega)) _).set_ (.inl ⟨hb.1, hb.2.1⟩) _).set_ (.inl ⟨h2, h3⟩) _
        have hwds : w.heap.size + 1 < (((wc.setCell ⟨xb, 2, none⟩ (.int .i64 (qf + m))).setCell ⟨b, o + 1, none⟩ (.int .i64 (qf + m))).setCell ⟨pb, 1, none⟩ (.int .i64 (n + m))).heap.size := by simpa [World.setCell] using hr1
        have HL2 := Lib.hid (h5.tail WF wbf)
        have HWB := Lib.hid WB
        have HWC := Lib.hid WC
        clear WB WF WC
        generalize hwd : (((wc.setCell ⟨xb, 2, none⟩ (.int .i64 (qf + m))).setCell ⟨b, o + 1, none⟩ (.int .i64 (qf + m))).setCell ⟨pb, 1, none⟩ (.int .i64 (n + m))) = wd at *
        clear hwd
        have HNX : Hid (nextS (⟨[], qf, t⟩ :: l) S most = some (⟨[], qf, qf + m⟩, restS ⟨[], qf + m, t⟩ l, m)) := Lib.hid (by simp only [nextS, HCN.out, HM.out]; rw [if_neg (by omega)]; rfl)
        clear k0 k1 k2 g0 hr1 y0 y1 y2 y3 y4 y5 x0 x1 x2 xf hbf hpf h1 h5 bxb hq hp hn HL HPB hB e5 hfz
        go_region
        cases e6 : decide (qf + m = t)
        · have e7 : ¬ qf + m = t := by simpa using e6
          have HRS : Hid (restS ⟨[], qf + m, t⟩ l = ⟨[], qf + m, t⟩ :: l) := Lib.hid (by simp [restS, Pt.isE, e7])
          clear e6
          go_wp2
          refine bodyPost_ret (v := .tuple #[.agg #[.string ⟨#[]⟩, .int .i64 qf, .int .i64 (qf + m)], .bool true]) (by simp [results, Try.results16, go_sem, *]) rfl ?_
          rw [HNX.out, HRS.out]
          have hB2 : BodyAt lo hi wd pb (⟨[], qf + m, t⟩ :: l) (n + m) := ⟨_, _, by rw [show (⟨[], qf + m, t⟩ :: l : List Pt).length = nl from hnl]; exact HWB.out, h2, h3, by rw [show (⟨[], qf + m, t⟩ :: l : List Pt).length = nl from hnl]; exact h4, HL2.out.head hb wbf v0 d1 d2⟩
          refine ⟨rfl, Lib.hid ?_, ?_⟩
          · repeat' (with_reducible first | exact hB2 | refine BodyAt.set_ ?_ (by show hi ≤ w.heap.size + 1; omega) _ | refine BodyAt.drew_ ?_)
          · repeat' (with_reducible first | exact HWC.out | refine Chg.set_ ?_ (.inr (by show w.heap.size ≤ w.heap.size + 1; omega)) _ | refine Chg.drew_ ?_)
        · have e7 : qf + m = t := by simpa using e6
          have HRS : Hid (restS ⟨[], qf + m, t⟩ l = l) := Lib.hid (by simp [restS, Pt.isE, e7])
          have e8 : (qf + m == t) = true := by simpa using e7
          clear e7 e6
          have hll1 : l.length + 1 = nl := hnl
          go_wp2_with fail
          · have hl0 : l = [] := List.eq_nil_of_length_eq_zero (by omega)
            subst hl0
            obtain rfl : nl = 1 := by simpa using hll1.symm
            refine bodyPost_ret (v := .tuple #[.agg #[.string ⟨#[]⟩, .int .i64 qf, .int .i64 (qf + m)], .bool true]) (by simp [results, Try.results16, go_sem, wk0, wk1, wk2]) rfl ?_
            rw [HNX.out, HRS.out]
            have hB2 : ∀ A k, BodyAt lo hi (wd.setCell ⟨pb, 0, none⟩ (.slice A 0 k)) pb [] (n + m) := fun A k => ⟨A, k, by rw [heap_setCell_same _ _ _ _ _ _ HWB.out]; rfl, h2, h3, Nat.zero_le _, fun k hk => absurd hk (by simp)⟩
            refine ⟨rfl, Lib.hid ?_, ?_⟩
            · repeat' (with_reducible first | exact hB2 _ _ | refine BodyAt.set_ ?_ (by show hi ≤ w.heap.size + 1; omega) _ | refine BodyAt.drew_ ?_)
            · repeat' (with_reducible first | exact HWC.out | refine Chg.set_ ?_ (.inr (by show w.heap.size ≤ w.heap.size + 1; omega)) _ | refine Chg.set_ ?_ (.inl ⟨h2, h3⟩) _ | refine Chg.drew_ ?_)
          · refine bodyPost_ret (v := .tuple #[.agg #[.string ⟨#[]⟩, .int .i64 qf, .int .i64 (qf + m)], .bool true]) (by simp [results, Try.results16, go_sem, wk0, wk1, wk2]) rfl ?_
            rw [HNX.out, HRS.out]
            have hl1 : nl - 1 = l.length := by omega
            have hB2 : BodyAt lo hi (wd.setCell ⟨pb, 0, none⟩ (.slice (some ⟨b, o + 3, none⟩) (nl - 1) (c' - 1))) pb l (n + m) := ⟨_, _, by rw [heap_setCell_same _ _ _ _ _ _ HWB.out, hl1]; rfl, h2, h3, by omega, HL2.out.setpb _⟩
            refine ⟨rfl, Lib.hid ?_, ?_⟩
            · repeat' (with_reducible first | exact hB2 | refine BodyAt.set_ ?_ (by show hi ≤ w.heap.size + 1; omega) _ | refine BodyAt.drew_ ?_)
            · repeat' (with_reducible first | exact HWC.out | refine Chg.set_ ?_ (.inr (by show w.heap.size ≤ w.heap.size + 1; omega)) _ | refine Chg.set_ ?_ (.inl ⟨h2, h3⟩) _ | refine Chg.drew_ ?_)
end Go.Proofs.Ytcdokpkffbigdaa
