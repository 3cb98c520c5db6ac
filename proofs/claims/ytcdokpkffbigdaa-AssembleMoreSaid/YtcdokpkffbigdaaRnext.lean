/- The reference's Next. -/
import Derived.Test.YtcdokpkffbigdaaRnx
import Derived.Deep.Cut
namespace Go.Proofs.Ytcdokpkffbigdaa
open Go.RowKit

def nextR (R : List Pt) (n : Int) (S : List Sp) (most : Int) : List Pt × Int × Pt × Bool :=
  match nextS R S most with
  | none => (R, n, ⟨[], 0, 0⟩, false)
  | some x => (x.2.1, n + x.2.2, x.1, true)
def RNextPost (A₀ : Option Addr) (x : List Pt × Int × Pt × Bool) (w : World) (e : Ending) (w' : World) : Prop :=
  ∃ A c, e = .returned (.tuple #[.agg #[.slice A x.1.length c, .int .i64 x.2.1], x.2.2.1.val, .bool x.2.2.2]) ∧ Hid (PAt w' A x.1) ∧ x.1.length ≤ c ∧ Ext w w' ∧ Hid (A = A₀ ∨ NewA w A)
theorem PAt.tail {w : World} {b o : Nat} {p : Pt} {l : List Pt} (h : PAt w (some ⟨b, o, none⟩) (p :: l)) : PAt w (some ⟨b, o + 3, none⟩) l := fun k hk => by
  obtain ⟨b', o', e, p0, p1, p2⟩ := h (k + 1) (by simpa using hk)
  cases e
  refine ⟨b, o + 3, rfl, ?_, ?_, ?_⟩
  · rw [show o + 3 + k * 3 = o + (k + 1) * 3 from by omega]; exact p0
  · rw [show o + 3 + k * 3 + 1 = o + (k + 1) * 3 + 1 from by omega]; exact p1
  · rw [show o + 3 + k * 3 + 2 = o + (k + 1) * 3 + 2 from by omega]; exact p2
theorem nextR_none {R : List Pt} {n : Int} {S : List Sp} {most : Int} (h : nextS R S most = none) : nextR R n S most = (R, n, ⟨[], 0, 0⟩, false) := by unfold nextR; rw [h]
theorem nextR_some {R : List Pt} {n : Int} {S : List Sp} {most : Int} {x : Pt × List Pt × Int} (h : nextS R S most = some x) : nextR R n S most = (x.2.1, n + x.2.2, x.1, true) := by unfold nextR; rw [h]

theorem canS_text {p : Pt} {S : List Sp} (h : p.s ≠ []) : canS p S = p.s.length := by
  unfold canS; rw [if_neg h]
theorem canS_le {p : Pt} {S : List Sp} (h : p.s = []) (hp : p.f < p.t) : canS p S ≤ p.t - p.f := by
  unfold canS; rw [if_pos h]
  cases hF : firstS S p.f with
  | none => simp only; omega
  | some x => simp only; split <;> omega

theorem PAt.set_ {w : World} {A : Option Addr} {l : List Pt} (h : PAt w A l) {p : Addr} (hp : ∀ b o, A = some ⟨b, o, none⟩ → b ≠ p.block) (u : Value) : PAt (w.setCell p u) A l := fun k hk => by
  obtain ⟨b, o, e, p0, p1, p2⟩ := h k hk
  have hne : ∀ j, p ≠ ⟨b, j, none⟩ := fun j e2 => hp b o e (by rw [e2])
  exact ⟨b, o, e, (World.cell?_setCell_other w _ _ u (hne _)).trans p0, (World.cell?_setCell_other w _ _ u (hne _)).trans p1, (World.cell?_setCell_other w _ _ u (hne _)).trans p2⟩
theorem PAt.drew_ {w : World} {A : Option Addr} {l : List Pt} (h : PAt w A l) : PAt w.drew A l := h

set_option maxHeartbeats 4000000 in
set_option maxRecDepth 100000 in
theorem rnext_nil (A : Option Addr) (c : Nat) (R : List Pt) (n : Int) (B : Option Addr) (d : Nat) (S : List Sp) (most : Int) (w : World) (h : PAt w A R) (hc : R.length ≤ c) (hm : R = [] ∨ most < 1) :
    Calls Try.prog 29 #[.agg #[.slice A R.length c, .int .i64 n], .slice B S.length d, .int .i64 most] w (RNextPost A (R, n, ⟨[], 0, 0⟩, false) w) := by
  have hx0 : ∀ o1 o2 o3, Ext w (((w.alloc o1).alloc o2).alloc o3) := fun _ _ _ => (((Ext.refl w).alloc _).alloc _).alloc _
  have HP := Lib.hid (fun W (hx : Ext w W) => h.ext hx)
  clear h
  rcases hm with rfl | hm
  · go_enter Try.func29, Try.ntmps29
    go_wp2
    refine bodyPost_ret (v := .tuple #[.agg #[.slice A 0 c, .int .i64 n], .agg #[.string ⟨#[]⟩, .int .i64 0, .int .i64 0], .bool false]) (by simp [results, Try.results29, go_sem]) rfl ⟨A, c, rfl, Lib.hid (PAt.nil _ _), hc, ?_, Lib.hid (.inl rfl)⟩
    exact hx0 _ _ _
  · have e2 : decide (most < 1) = true := decide_eq_true hm
    rcases R with _ | ⟨p, l⟩
    · go_enter Try.func29, Try.ntmps29
      go_wp2
      refine bodyPost_ret (v := .tuple #[.agg #[.slice A 0 c, .int .i64 n], .agg #[.string ⟨#[]⟩, .int .i64 0, .int .i64 0], .bool false]) (by simp [results, Try.results29, go_sem]) rfl ⟨A, c, rfl, Lib.hid (PAt.nil _ _), hc, ?_, Lib.hid (.inl rfl)⟩
      exact hx0 _ _ _
    · obtain ⟨nl, hnl⟩ : ∃ nl, (p :: l).length = nl := ⟨_, rfl⟩
      have e1 : ((nl : Int) == 0) = false := beq_eq_false_iff_ne.2 (by rw [← hnl]; simp; omega)
      have HN := Lib.hid hnl
      rw [hnl]
      rw [hnl] at hc
      clear hnl
      go_enter Try.func29, Try.ntmps29
      go_wp2
      refine bodyPost_ret (v := .tuple #[.agg #[.slice A nl c, .int .i64 n], .agg #[.string ⟨#[]⟩, .int .i64 0, .int .i64 0], .bool false]) (by simp [results, Try.results29, go_sem]) rfl ⟨A, c, by rw [HN.out]; rfl, Lib.hid (HP.out _ (hx0 _ _ _)), by rw [HN.out]; exact hc, ?_, Lib.hid (.inl rfl)⟩
      exact hx0 _ _ _

set_option maxHeartbeats 8000000 in
set_option maxRecDepth 100000 in
theorem rnext_calls (A : Option Addr) (c : Nat) (p : Pt) (l : List Pt) (n : Int) (B : Option Addr) (d : Nat) (S : List Sp) (most : Int) (w : World) (h : PAt w A (p :: l)) (hc : (p :: l).length ≤ c) (hS : SAt w B S) (_ : Norm S) (hlS : S.length ≤ 1000000) (hm : 1 ≤ most)
    (hp : p.s = [] → 0 ≤ p.f ∧ p.f < p.t ∧ p.t ≤ 4611686018427387904) (hsz : p.s.length ≤ 1000) (hn : 0 ≤ n ∧ n + p.size ≤ 9000000000000000000) (hll : l.length ≤ 1000) (hSt : ∀ q ∈ S, 0 ≤ q.t ∧ q.t ≤ 4611686018427387904) :
    Calls Try.prog 29 #[.agg #[.slice A (p :: l).length c, .int .i64 n], .slice B S.length d, .int .i64 most] w (RNextPost A (nextR (p :: l) n S most) w) := by
  have hx0 : ∀ o1 o2 o3, Ext w (((w.alloc o1).alloc o2).alloc o3) := fun _ _ _ => (((Ext.refl w).alloc _).alloc _).alloc _
  obtain ⟨b, o, rfl, p0, p1, p2⟩ := h 0 (by simp)
  simp only [List.getElem_cons_zero, Nat.zero_mul, Nat.add_zero] at p0 p1 p2
  have HP := Lib.hid (fun W (hx : Ext w W) => h.ext hx)
  have HK := Lib.hid (fun W (hx : Ext w W) => And.intro (hx.cell p0) (And.intro (hx.cell p1) (hx.cell p2)))
  have HS := Lib.hid (fun W (hx : Ext w W) => hS.ext hx)
  rcases p with ⟨s, f, t⟩
  simp only at p0 p1 p2 hp hsz HK
  have HRC := Lib.hid (fun W (hx : Ext w W) => rcan_calls s f t B d S W (HS.out W hx) hlS (by omega) (fun e => by have := hp e; omega) hSt)
  obtain ⟨cn, hcn⟩ : ∃ cn, canS ⟨s, f, t⟩ S = cn := ⟨_, rfl⟩
  rw [hcn] at HRC
  obtain ⟨m, hmm⟩ : ∃ m, min cn most = m := ⟨_, rfl⟩
  have HM := Lib.hid (And.intro hcn hmm)
  obtain ⟨nl, hnl⟩ : ∃ nl, ((⟨s, f, t⟩ : Pt) :: l).length = nl := ⟨_, rfl⟩
  have hnl1 : nl = l.length + 1 := by rw [← hnl]; simp
  have e1 : ((nl : Int) == 0) = false := beq_eq_false_iff_ne.2 (by omega)
  have e2 : decide (most < 1) = false := decide_eq_false (by omega)
  have i0 : 0 < nl := by omega
  have HNL := Lib.hid hnl
  rw [hnl] at hc ⊢
  have HW := Lib.hid (And.intro hnl1 hc)
  clear hcn hnl hnl1 h hS hSt hc
  go_enter Try.func29, Try.ntmps29
  have hxb := hx0 (.cells #[.slice (some ⟨b, o, none⟩) nl c, .int .i64 n] 51) (.cells #[.slice none 0 0, .int .i64 0] 51) (.cells #[.string ⟨#[]⟩, .int .i64 0, .int .i64 0] 40)
  have b1 : (((w.alloc (.cells #[.slice (some ⟨b, o, none⟩) nl c, .int .i64 n] 51)).alloc (.cells #[.slice none 0 0, .int .i64 0] 51)).alloc (.cells #[.string ⟨#[]⟩, .int .i64 0, .int .i64 0] 40)).heap[w.heap.size]? = some (.cells #[.slice (some ⟨b, o, none⟩) nl c, .int .i64 n] 51 (0, 0)) := (((Ext.refl _).alloc _).alloc _).block (heap_alloc_new w _)
  have b2 : (((w.alloc (.cells #[.slice (some ⟨b, o, none⟩) nl c, .int .i64 n] 51)).alloc (.cells #[.slice none 0 0, .int .i64 0] 51)).alloc (.cells #[.string ⟨#[]⟩, .int .i64 0, .int .i64 0] 40)).heap[w.heap.size + 1]? = some (.cells #[.slice none 0 0, .int .i64 0] 51 (0, 0)) := by
    have := heap_alloc_new (w.alloc (.cells #[.slice (some ⟨b, o, none⟩) nl c, .int .i64 n] 51)) (.cells #[.slice none 0 0, .int .i64 0] 51)
    have := ((Ext.refl _).alloc (.cells #[.string ⟨#[]⟩, .int .i64 0, .int .i64 0] 40)).block this
    simpa using this
  have b3 : (((w.alloc (.cells #[.slice (some ⟨b, o, none⟩) nl c, .int .i64 n] 51)).alloc (.cells #[.slice none 0 0, .int .i64 0] 51)).alloc (.cells #[.string ⟨#[]⟩, .int .i64 0, .int .i64 0] 40)).heap[w.heap.size + 1 + 1]? = some (.cells #[.string ⟨#[]⟩, .int .i64 0, .int .i64 0] 40 (0, 0)) := by
    have := heap_alloc_new ((w.alloc (.cells #[.slice (some ⟨b, o, none⟩) nl c, .int .i64 n] 51)).alloc (.cells #[.slice none 0 0, .int .i64 0] 51)) (.cells #[.string ⟨#[]⟩, .int .i64 0, .int .i64 0] 40)
    simpa using this
  obtain ⟨k0, k1, k2⟩ := HK.out _ hxb
  go_wp2_with fail
  generalize (((w.alloc (.cells #[.slice (some ⟨b, o, none⟩) nl c, .int .i64 n] 51)).alloc (.cells #[.slice none 0 0, .int .i64 0] 51)).alloc (.cells #[.string ⟨#[]⟩, .int .i64 0, .int .i64 0] 40)) = w0 at *
  refine (HRC.out w0 hxb).mono ?_
  rintro e w1 ⟨rfl, hx1⟩
  have hxw := hxb.trans hx1
  replace b1 := hx1.block b1
  replace b2 := hx1.block b2
  replace b3 := hx1.block b3
  replace k0 := hx1.cell k0
  replace k1 := hx1.cell k1
  replace k2 := hx1.cell k2
  clear hx1 hxb p0 p1 p2
  have t0 : w1.cell? ⟨w.heap.size, 0, none⟩ = some (.slice (some ⟨b, o, none⟩) nl c) := by rw [cell_of_block b1]; rfl
  have t1 : w1.cell? ⟨w.heap.size, 1, none⟩ = some (.int .i64 n) := by rw [cell_of_block b1]; rfl
  have u0 : w1.cell? ⟨w.heap.size + 1, 0, none⟩ = some (.slice none 0 0) := by rw [cell_of_block b2]; rfl
  have u1 : w1.cell? ⟨w.heap.size + 1, 1, none⟩ = some (.int .i64 0) := by rw [cell_of_block b2]; rfl
  have v0 : w1.cell? ⟨w.heap.size + 1 + 1, 0, none⟩ = some (.string ⟨#[]⟩) := by rw [cell_of_block b3]; rfl
  have v1 : w1.cell? ⟨w.heap.size + 1 + 1, 1, none⟩ = some (.int .i64 0) := by rw [cell_of_block b3]; rfl
  have v2 : w1.cell? ⟨w.heap.size + 1 + 1, 2, none⟩ = some (.int .i64 0) := by rw [cell_of_block b3]; rfl
  have uf : ∀ j, w1.frozen? ⟨w.heap.size + 1, j, none⟩ = false := fun j => frozen_of_block b2 j
  have vf : ∀ j, w1.frozen? ⟨w.heap.size + 1 + 1, j, none⟩ = false := fun j => frozen_of_block b3 j
  have hz2 : w.heap.size + 1 + 1 < w1.heap.size := (Array.getElem?_eq_some_iff.1 b3).1
  have hz1 : w.heap.size + 1 < w1.heap.size := by omega
  cases e3 : decide (m < 1)
  case true =>
    have HNX : Hid (nextS (⟨s, f, t⟩ :: l) S most = none) := Lib.hid (by simp only [nextS, HM.out.1, HM.out.2]; rw [if_pos (of_decide_eq_true e3)])
    go_wp2_with fail
    refine bodyPost_ret (v := .tuple #[.agg #[.slice (some ⟨b, o, none⟩) nl c, .int .i64 n], .agg #[.string ⟨#[]⟩, .int .i64 0, .int .i64 0], .bool false]) (by simp [results, Try.results29, go_sem, u0, u1, v0, v1, v2]) rfl ?_
    rw [nextR_none HNX.out]
    refine ⟨_, c, by rw [HNL.out]; rfl, Lib.hid ?_, by rw [HNL.out]; exact HW.out.2, ?_, Lib.hid (.inl rfl)⟩
    · refine HP.out _ ?_
      exact (((((hxw.setCell (by dsimp only; omega) _).setCell (by dsimp only; omega) _).setCell (by dsimp only; omega) _).setCell (by dsimp only; omega) _).setCell (by dsimp only; omega) _)
    · exact (((((hxw.setCell (by dsimp only; omega) _).setCell (by dsimp only; omega) _).setCell (by dsimp only; omega) _).setCell (by dsimp only; omega) _).setCell (by dsimp only; omega) _)
  case false =>
  have e4 : 1 ≤ m := by have := of_decide_eq_false e3; omega
  have HNX : Hid (nextS (⟨s, f, t⟩ :: l) S most = some (cutA ⟨s, f, t⟩ m, restS (cutB ⟨s, f, t⟩ m) l, m)) := Lib.hid (by simp only [nextS, HM.out.1, HM.out.2]; rw [if_neg (by omega)])
  have hmc : m ≤ cn := by omega
  have hc1 : s ≠ [] → m ≤ s.length ∧ s.length ≤ 1000000 := fun e => by
    have := canS_text (p := ⟨s, f, t⟩) (S := S) e
    rw [HM.out.1] at this
    exact ⟨by simp only at this; omega, by omega⟩
  have hc2 : s = [] → 0 ≤ f ∧ f + m ≤ t ∧ t ≤ 4611686018427387904 := fun e => by
    have h1 := hp e
    have := canS_le (p := ⟨s, f, t⟩) (S := S) e h1.2.1
    rw [HM.out.1] at this
    simp only at this
    omega
  have hnm : 0 ≤ n ∧ n + m ≤ 9000000000000000000 := by
    refine ⟨hn.1, ?_⟩
    have := hn.2
    unfold Pt.size at this
    by_cases e : s = []
    · have := hc2 e
      simp only [e, if_true] at *
      omega
    · have := hc1 e
      simp only [e, if_false] at *
      omega
  have HPT0 := fun W => parted_calls s f t m W e4 hc1 (fun e => ⟨(hc2 e).1, by have := hc2 e; omega⟩)
  obtain ⟨qa, hqa⟩ : ∃ qa, cutA ⟨s, f, t⟩ m = qa := ⟨_, rfl⟩
  obtain ⟨qb, hqb⟩ : ∃ qb, cutB ⟨s, f, t⟩ m = qb := ⟨_, rfl⟩
  rw [hqa, hqb] at HNX HPT0
  have hqbn : qb.s.length ≤ 1000 := by
    rw [← hqb]
    unfold cutB
    split
    · simp
    · simp; omega
  rcases qa with ⟨sa, fa, ta⟩
  rcases qb with ⟨sb, fb, tb⟩
  have HPT := Lib.hid (fun W => (HPT0 W).mono (R' := fun e w' => e = .returned (.tuple #[.agg #[.string ⟨sa.toArray⟩, .int .i64 fa, .int .i64 ta], .agg #[.string ⟨sb.toArray⟩, .int .i64 fb, .int .i64 tb]]) ∧ Ext W w') fun e w' h => h)
  clear HPT0 hqa hqb hc1 hc2 hn hp
  go_wp2_with fail
  refine (HPT.out w1).mono ?_
  rintro e w2 ⟨rfl, hx2⟩
  clear HPT HRC
  have hxw2 := hxw.trans hx2
  replace t0 := hx2.cell t0
  replace t1 := hx2.cell t1
  replace b1 := hx2.block b1
  replace b2 := hx2.block b2
  replace b3 := hx2.block b3
  have hzw2 : w.heap.size + 1 + 1 < w2.heap.size := Nat.lt_of_lt_of_le hz2 hx2.size
  clear u0 u1 v0 v1 v2 uf vf k0 k1 k2 hxw hx2 hz1 hz2
  have hx3 : Ext w2 ((w2.alloc (.cells #[.string ⟨sa.toArray⟩, .int .i64 fa, .int .i64 ta] 40)).alloc (.cells #[.string ⟨sb.toArray⟩, .int .i64 fb, .int .i64 tb] 40)) := ((Ext.refl _).alloc _).alloc _
  have a1 := ((Ext.refl _).alloc (.cells #[.string ⟨sb.toArray⟩, .int .i64 fb, .int .i64 tb] 40)).block (heap_alloc_new w2 (.cells #[.string ⟨sa.toArray⟩, .int .i64 fa, .int .i64 ta] 40))
  have a2 := heap_alloc_new (w2.alloc (.cells #[.string ⟨sa.toArray⟩, .int .i64 fa, .int .i64 ta] 40)) (.cells #[.string ⟨sb.toArray⟩, .int .i64 fb, .int .i64 tb] 40)
  have hs2 : (w2.alloc (.cells #[.string ⟨sa.toArray⟩, .int .i64 fa, .int .i64 ta] 40)).heap.size = w2.heap.size + 1 := by simp
  rw [hs2] at a2
  go_upto_region 7 with (fail)
  generalize ((w2.alloc (.cells #[.string ⟨sa.toArray⟩, .int .i64 fa, .int .i64 ta] 40)).alloc (.cells #[.string ⟨sb.toArray⟩, .int .i64 fb, .int .i64 tb] 40)) = wb at *
  have hxwb := hxw2.trans hx3
  replace t0 := hx3.cell t0
  replace t1 := hx3.cell t1
  replace b1 := hx3.block b1
  replace b2 := hx3.block b2
  replace b3 := hx3.block b3
  have HA1 := Lib.hid a1
  have HA2 := Lib.hid a2
  have HB1 := Lib.hid b1
  have HB2 := Lib.hid b2
  have HB3 := Lib.hid b3
  have hw2b := hx3.size
  clear a1 a2 b1 b2 b3 hx3 hs2
  go_cut [12] from 44 to 48 (fun v wx => Hid (∃ A1 c1, v = .slice A1 l.length c1 ∧ wx.ownsRow wb.heap.size 40 3 v l.length (pts l)) ∧ Ext wb wx)
  case first =>
    have hown0 := World.ownsRow_lit (base := wb.heap.size) (size := 3) (e := 40) wb #[] 0 (Nat.le_refl _) (by simp [maxLen]) rfl
    have hxa : Ext wb (wb.alloc (.cells #[] 40)) := (Ext.refl wb).alloc _
    have HPA := Lib.hid (HP.out _ (hxwb.trans hxa))
    replace t0 := hxa.cell t0
    obtain ⟨hw1, hw2⟩ := HW.out
    have i1 : 1 ≤ nl := by omega
    by_cases hcc : c = 1
    · have hl0 : l = [] := List.eq_nil_of_length_eq_zero (by omega)
      subst hl0
      obtain rfl : nl = 1 := by simpa using hw1
      subst hcc
      clear hw1 hw2 i1
      go_wp2_with fail
      go_meet
      exact ⟨Lib.hid ⟨_, 0, rfl, hown0⟩, hxa⟩
    · have HT := Lib.hid HPA.out.tail
      have hnl2 : nl - 1 = l.length := by omega
      have hcc2 : 1 < c := by omega
      clear hw1 hcc
      have hR := HT.out.reads
      go_wp2_with (at_builtin; refine wpList_append_src _ rfl _ _ 22 rfl wb.heap.size 40 _ 3 32 Try.underlying22 infoPart rfl (by omega) (.slice (some ⟨wb.heap.size, 0, none⟩) 0 0) 0 [] rfl hown0 _ _ _ _ _ rfl hR (pts_plain _) (by simp [maxLen]; omega) (by omega) hxa.size ?_; intro v4 w4 hown hm4; have hx4 := ext_moved hxa hown0 hm4; rw [Nat.zero_add, List.nil_append] at hown)
      go_meet
      obtain ⟨A5, c5, hv, hc5⟩ := own_shape hown
      exact ⟨Lib.hid ⟨A5, c5, hv, hown⟩, hx4⟩
  case rest =>
    obtain ⟨hcut, hxc⟩ := hcut
    obtain ⟨A5, c5, rfl, hown⟩ := hcut.out
    have HOW := Lib.hid hown
    have hA1 := hxc.block HA1.out
    have hA2 := hxc.block HA2.out
    have hB1 := hxc.block HB1.out
    have hB2 := hxc.block HB2.out
    have hB3 := hxc.block HB3.out
    have y0 : wc.cell? ⟨w2.heap.size + 1, 0, none⟩ = some (.string ⟨sb.toArray⟩) := by rw [cell_of_block hA2]; rfl
    have y1 : wc.cell? ⟨w2.heap.size + 1, 1, none⟩ = some (.int .i64 fb) := by rw [cell_of_block hA2]; rfl
    have y2 : wc.cell? ⟨w2.heap.size + 1, 2, none⟩ = some (.int .i64 tb) := by rw [cell_of_block hA2]; rfl
    have hxwc := hxwb.trans hxc
    have hwbc := hxc.size
    have hlen := hown.1
    obtain ⟨LL, hLL⟩ : ∃ LL, restS ⟨sb, fb, tb⟩ l = LL := ⟨_, rfl⟩
    have HLL := Lib.hid hLL
    rw [hLL] at HNX
    clear hcut HA2 hA2 hown t0 t1 hLL hlen
    go_wp2_with fail
    refine (empty_calls sb fb tb _).mono ?_
    rintro e w4 ⟨rfl, hx4⟩
    have hxw4 := hxwc.trans hx4
    replace hA1 := hx4.block hA1
    replace hB1 := hx4.block hB1
    replace hB2 := hx4.block hB2
    replace hB3 := hx4.block hB3
    replace y0 := hx4.cell y0
    replace y1 := hx4.cell y1
    replace y2 := hx4.cell y2
    have HO4 := Lib.hid (ownsRow_ext HOW.out hx4)
    have h4s := hx4.size
    clear hx4 hxc
    obtain ⟨be, hbe⟩ : ∃ be, (sb == [] && fb == tb) = be := ⟨_, rfl⟩
    rw [hbe]
    have HBE := Lib.hid hbe
    clear hbe
    go_upto_if 51 with (fail)
    go_cut [12] from 52 to 55 (fun v wx => Hid (∃ A1 c1, v = .slice A1 LL.length c1 ∧ wx.ownsRow wb.heap.size 40 3 v LL.length (pts LL)) ∧ Ext w4 wx)
    case first =>
      cases be
      · have hLL2 : ⟨sb, fb, tb⟩ :: l = LL := by rw [← HLL.out]; simp only [restS, Pt.isE, HBE.out]; rfl
        subst hLL2
        have hown0 := World.ownsRow_lit (base := wb.heap.size) (size := 3) (e := 40) w4 #[.string ⟨sb.toArray⟩, .int .i64 fb, .int .i64 tb] 1 (by omega) (by simp [maxLen]) rfl
        have hxa : Ext w4 (w4.alloc (.cells #[.string ⟨sb.toArray⟩, .int .i64 fb, .int .i64 tb] 40)) := (Ext.refl w4).alloc _
        have hR := (pat_of_own (ownsRow_ext HO4.out hxa)).reads
        have hxas : wb.heap.size ≤ (w4.alloc (.cells #[.string ⟨sb.toArray⟩, .int .i64 fb, .int .i64 tb] 40)).heap.size := by have := hxa.size; omega
        go_wp2_with (at_builtin; refine wpList_append_src _ rfl _ _ 22 rfl wb.heap.size 40 _ 3 32 Try.underlying22 infoPart rfl (by omega) (.slice (some ⟨w4.heap.size, 0, none⟩) 1 1) 1 _ rfl hown0 _ _ _ _ _ rfl hR (pts_plain _) (by simp [maxLen]; omega) (by omega) hxas ?_; intro v5 w5 hown hm5)
        go_meet
        have hownX := World.ownsRow_lit (base := w4.heap.size) (size := 3) (e := 40) w4 #[.string ⟨sb.toArray⟩, .int .i64 fb, .int .i64 tb] 1 (Nat.le_refl _) (by simp [maxLen]) rfl
        have hx5 := ext_moved hxa hownX hm5
        have hpp : [Value.string ⟨sb.toArray⟩, .int .i64 fb, .int .i64 tb] ++ pts l = pts (⟨sb, fb, tb⟩ :: l) := by simp [pts, Pt.cells]
        have hll5 : 1 + l.length = (⟨sb, fb, tb⟩ :: l : List Pt).length := by simp; omega
        rw [hpp, hll5] at hown
        obtain ⟨A6, c6, hv, _⟩ := own_shape hown
        exact ⟨Lib.hid ⟨A6, c6, hv, hown⟩, hx5⟩
      · have hLL2 : l = LL := by rw [← HLL.out]; simp only [restS, Pt.isE, HBE.out]; rfl
        subst hLL2
        go_wp2_with fail
        go_meet
        exact ⟨Lib.hid ⟨A5, c5, rfl, HO4.out⟩, Ext.refl _⟩
    case rest =>
      obtain ⟨hcut, hxc⟩ := hcut
      obtain ⟨A6, c6, rfl, hown⟩ := hcut.out
      obtain ⟨_, _, hv6, hc6⟩ := own_shape hown
      cases hv6
      have HOW6 := Lib.hid hown
      replace hA1 := hxc.block hA1
      replace hB1 := hxc.block hB1
      replace hB2 := hxc.block hB2
      replace hB3 := hxc.block hB3
      have hxw6 := hxw4.trans hxc
      have hwc6 := hxc.size
      have g1 : wc.cell? ⟨w.heap.size, 1, none⟩ = some (.int .i64 n) := by rw [cell_of_block hB1]; rfl
      have g2 : wc.cell? ⟨w2.heap.size, 0, none⟩ = some (.string ⟨sa.toArray⟩) := by rw [cell_of_block hA1]; rfl
      have g3 : wc.cell? ⟨w2.heap.size, 1, none⟩ = some (.int .i64 fa) := by rw [cell_of_block hA1]; rfl
      have g4 : wc.cell? ⟨w2.heap.size, 2, none⟩ = some (.int .i64 ta) := by rw [cell_of_block hA1]; rfl
      have u0 : wc.cell? ⟨w.heap.size + 1, 0, none⟩ = some (.slice none 0 0) := by rw [cell_of_block hB2]; rfl
      have u1 : wc.cell? ⟨w.heap.size + 1, 1, none⟩ = some (.int .i64 0) := by rw [cell_of_block hB2]; rfl
      have v0 : wc.cell? ⟨w.heap.size + 1 + 1, 0, none⟩ = some (.string ⟨#[]⟩) := by rw [cell_of_block hB3]; rfl
      have v1 : wc.cell? ⟨w.heap.size + 1 + 1, 1, none⟩ = some (.int .i64 0) := by rw [cell_of_block hB3]; rfl
      have v2 : wc.cell? ⟨w.heap.size + 1 + 1, 2, none⟩ = some (.int .i64 0) := by rw [cell_of_block hB3]; rfl
      have uf : ∀ j, wc.frozen? ⟨w.heap.size + 1, j, none⟩ = false := fun j => frozen_of_block hB2 j
      have vf : ∀ j, wc.frozen? ⟨w.heap.size + 1 + 1, j, none⟩ = false := fun j => frozen_of_block hB3 j
      have hz2 : w.heap.size + 1 + 1 < wc.heap.size := (Array.getElem?_eq_some_iff.1 hB3).1
      have hz1 : w.heap.size + 1 < wc.heap.size := by omega
      have hbw : w.heap.size + 1 + 1 < wb.heap.size := (Array.getElem?_eq_some_iff.1 HB3.out).1
      have q1 : ¬ w.heap.size + 1 = w2.heap.size := by omega
      have q2 : ¬ w.heap.size + 1 + 1 = w2.heap.size := by omega
      have hnm1 := hnm.1
      have hnm2 := hnm.2
      clear hown hcut hA1 hB1 hB2 hB3 HB1 HB2 HB3 HA1 hxc y0 y1 y2 hxw4 hnm e1 e2 e3 hmm
      go_upto_region 10 with (fail)
      go_region
      go_wp2_with fail
      refine bodyPost_ret (v := .tuple #[.agg #[.slice A6 LL.length c6, .int .i64 (n + m)], .agg #[.string ⟨sa.toArray⟩, .int .i64 fa, .int .i64 ta], .bool true]) (by simp [results, Try.results29, go_sem, u0, u1, v0, v1, v2]) rfl ?_
      rw [nextR_some HNX.out]
      have hww : w.heap.size ≤ wb.heap.size := by omega
      refine ⟨A6, c6, rfl, Lib.hid ?_, hc6, ?_, Lib.hid (.inr (fun b o e => Nat.le_trans hww (own_base HOW6.out (by rw [e]; rfl))))⟩
      · have hP := pat_of_own HOW6.out
        have hbs : ∀ b o, A6 = some ⟨b, o, none⟩ → wb.heap.size ≤ b := fun b o e => own_base HOW6.out (by rw [e]; rfl)
        repeat' (with_reducible first | exact hP | refine PAt.drew_ ?_ | refine PAt.set_ ?_ (fun b o e => by have := hbs b o e; dsimp only; omega) _)
      · repeat' (with_reducible first | exact hxw6 | refine Ext.drew ?_ | refine Ext.setCell ?_ (by dsimp only; omega) _)
end Go.Proofs.Ytcdokpkffbigdaa
