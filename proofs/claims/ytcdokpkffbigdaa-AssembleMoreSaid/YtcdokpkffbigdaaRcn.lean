/- The reference's Next at any list, and its Can. -/
import Derived.Test.YtcdokpkffbigdaaRcan
import Derived.Deep.LoopGhost
namespace Go.Proofs.Ytcdokpkffbigdaa
open Go.RowKit

theorem own_lt {w : World} {base : Nat} {e : TypeId} {size : Nat} {v : Value} {n : Nat} {xs : List Value} (h : w.ownsRow base e size v n xs) {g : Nat} (hg : v.ownBlock = some g) : base ≤ g ∧ g < w.heap.size := by
  rcases h.2 with ⟨rfl, _⟩ | ⟨g', cap, cur, rfl, hb, hh, _⟩
  · simp [Value.ownBlock] at hg
  · simp [Value.ownBlock] at hg
    subst hg
    exact ⟨hb, (Array.getElem?_eq_some_iff.1 hh).1⟩
theorem own_base_le {w : World} {base base' : Nat} {e : TypeId} {size : Nat} {v : Value} {n : Nat} {xs : List Value} (h : w.ownsRow base e size v n xs) (hb : base' ≤ base) : w.ownsRow base' e size v n xs := by
  refine ⟨h.1, ?_⟩
  rcases h.2 with h1 | ⟨g, cap, cur, hv, hg, r⟩
  · exact .inl h1
  · exact .inr ⟨g, cap, cur, hv, Nat.le_trans hb hg, r⟩
theorem own_set {w : World} {base : Nat} {e : TypeId} {size : Nat} {v : Value} {n : Nat} {xs : List Value} (h : w.ownsRow base e size v n xs) {p : Addr} (hp : v.ownBlock ≠ some p.block) (u : Value) : (w.setCell p u).ownsRow base e size v n xs := by
  refine ⟨h.1, ?_⟩
  rcases h.2 with h1 | ⟨g, cap, cur, rfl, hg, hh, r⟩
  · exact .inl h1
  · exact .inr ⟨g, cap, cur, rfl, hg, (Below.heap_setCell w p u g (fun e => hp (by rw [← e]; rfl))).trans hh, r⟩
theorem PAt.moved {w w' : World} {v v' : Value} {A : Option Addr} {l : List Pt} (h : PAt w A l) (hm : Moved w w' v v') (ho : 0 < l.length → ∀ b o, A = some ⟨b, o, none⟩ → v.ownBlock ≠ some b) : PAt w' A l := fun k hk => by
  obtain ⟨b, o, e, p0, p1, p2⟩ := h k hk
  have hne := ho (by omega) b o e
  have hlt : b < w.heap.size := block_of_cell p0
  have hb := hm.1.block b hlt (fun e => hne e.symm)
  exact ⟨b, o, e, (World.cell?_of_block hb).trans p0, (World.cell?_of_block hb).trans p1, (World.cell?_of_block hb).trans p2⟩
theorem norm_bd {S : List Sp} (h : Norm S) : ∀ q ∈ S, 0 ≤ q.t ∧ q.t ≤ 4611686018427387904 := fun q hq => by
  have := h.1 q hq
  unfold Sp.ok at this
  omega

theorem rnx_calls (A : Option Addr) (c : Nat) (R : List Pt) (n : Int) (B : Option Addr) (d : Nat) (S : List Sp) (most : Int) (w : World) (h : PAt w A R) (hc : R.length ≤ c) (hS : SAt w B S) (hN : Norm S) (hlS : S.length ≤ 1000000) (hR : ROk R) (hn : 0 ≤ n ∧ n + sumS R ≤ 9000000000000000000) :
    Calls Try.prog 29 #[.agg #[.slice A R.length c, .int .i64 n], .slice B S.length d, .int .i64 most] w (RNextPost A (nextR R n S most) w) := by
  rcases R with _ | ⟨p, l⟩
  · exact rnext_nil A c [] n B d S most w h hc (.inl rfl)
  · by_cases hm : most < 1
    · have e : nextS (p :: l) S most = none := by simp only [nextS]; rw [if_pos (by omega)]
      rw [nextR_none e]
      exact rnext_nil A c (p :: l) n B d S most w h hc (.inr hm)
    · obtain ⟨h1, h2⟩ := hR.each p (by simp)
      have hl := hR.len
      have hz := hR.tail.sum
      rw [sumS_cons] at hn
      exact rnext_calls A c p l n B d S most w h hc hS hN hlS (by omega) h2 (by omega) ⟨hn.1, by omega⟩ (by simp at hl; omega) (norm_bd hN)

theorem rcanL_length (S : List Sp) (L : List Pt) : (rcanL S L).length ≤ L.length := by
  induction L with
  | nil => simp [rcanL]
  | cons p l ih =>
    simp only [rcanL]
    split
    · simp
    · split
      · simp; exact ih
      · simp
def RcInv (w0 : World) (bx : Nat) (S : List Sp) (R0 : List Pt) (k : Nat) (v : Value) (wr : World) : Prop :=
  ∃ (R done : List Pt) (n : Int) (A A2 : Option Addr) (c c2 : Nat),
    wr.heap[bx]? = some (.cells #[.slice A R.length c, .int .i64 n] 51 (0, 0)) ∧ v = .slice A2 done.length c2 ∧ wr.ownsRow (bx + 1) 40 3 v done.length (pts done) ∧ PAt wr A R ∧ R.length ≤ c ∧ ROk R ∧ (0 ≤ n ∧ n + sumS R ≤ 9000000000000000000) ∧
    rcanL S R0 = done ++ rcanL S R ∧ (0 < R.length → ∀ b o, A = some ⟨b, o, none⟩ → v.ownBlock ≠ some b ∧ b ≠ bx) ∧ (sumS R).toNat ≤ k ∧ Ext w0 wr

set_option maxHeartbeats 4000000 in
set_option maxRecDepth 100000 in
theorem rcanall_calls (A : Option Addr) (c : Nat) (R : List Pt) (n : Int) (B : Option Addr) (d : Nat) (S : List Sp) (w : World) (h : PAt w A R) (hc : R.length ≤ c) (hS : SAt w B S) (hN : Norm S) (hlS : S.length ≤ 1000000) (hR : ROk R) (hn : 0 ≤ n ∧ n + sumS R ≤ 9000000000000000000) :
    Calls Try.prog 23 #[.agg #[.slice A R.length c, .int .i64 n], .slice B S.length d] w (PRowPost w (rcanL S R)) := by
  have hx0 : Ext w (w.alloc (.cells #[.slice A R.length c, .int .i64 n] 51)) := (Ext.refl w).alloc _
  have b0 := heap_alloc_new w (.cells #[.slice A R.length c, .int .i64 n] 51)
  have hbA : 0 < R.length → ∀ b o, A = some ⟨b, o, none⟩ → b < w.heap.size := fun h0 b o e => by
    obtain ⟨b', o', e', p0, _⟩ := h 0 h0
    rw [e] at e'
    cases e'
    exact block_of_cell p0
  have HS := Lib.hid (fun W (hx : Ext w W) => hS.ext hx)
  have HI : Hid (RcInv w w.heap.size S R (sumS R).toNat (.slice none 0 0) (w.alloc (.cells #[.slice A R.length c, .int .i64 n] 51))) := Lib.hid ⟨R, [], n, A, none, c, 0, b0, rfl, World.ownsRow_nil _ _ _ _, h.ext hx0, hc, hR, hn, rfl, fun h0 b o e => ⟨by simp [Value.ownBlock], by have := hbA h0 b o e; omega⟩, Nat.le_refl _, hx0⟩
  have HR30 := Lib.hid hR.len
  clear hbA hx0 b0 h hc hS hR hn
  go_enter Try.func23, Try.ntmps23
  go_wp2
  go_loopg [5] (sumS R).toNat (fun k v wr => Hid (RcInv w w.heap.size S R k v wr))
  case atStart => exact HI
  case round =>
    clear HI
    obtain ⟨R1, done, n1, A1, A2, c1, c2, hb, rfl, hown, hP, hc1, hR1, hn1, hcan, hout, hk, hx⟩ := hrel
    have t0 : wr.cell? ⟨w.heap.size, 0, none⟩ = some (.slice A1 R1.length c1) := by rw [cell_of_block hb]; rfl
    have t1 : wr.cell? ⟨w.heap.size, 1, none⟩ = some (.int .i64 n1) := by rw [cell_of_block hb]; rfl
    have HRN0 := rnx_calls A1 c1 R1 n1 B d S 4611686018427387904 wr hP hc1 (HS.out _ hx) hN hlS hR1 hn1
    have hnx := rcanL_next hN hR1
    have hlen : done.length + (rcanL S R1).length ≤ 30 := by
      have h1 := rcanL_length S R
      rw [hcan, List.length_append] at h1
      have := HR30.out
      omega
    have hdl : done.length ≤ 30 := by omega
    have HB := Lib.hid hb
    have HO := Lib.hid hown
    have HOUT := Lib.hid hout
    have HC := Lib.hid hcan
    have HX := Lib.hid hx
    cases hns : nextS R1 S 4611686018427387904 with
    | none =>
      rw [nextR_none hns] at HRN0
      rw [hns] at hnx
      have HRN : Hid (Calls Try.prog 29 #[.agg #[.slice A1 R1.length c1, .int .i64 n1], .slice B S.length d, .int .i64 4611686018427387904] wr fun e w' => ∃ A' c', e = .returned (.tuple #[.agg #[.slice A' R1.length c', .int .i64 n1], .agg #[.string ⟨#[]⟩, .int .i64 0, .int .i64 0], .bool false]) ∧ Ext wr w') := Lib.hid (HRN0.mono fun e w' ⟨A', c', he, _, _, hx, _⟩ => ⟨A', c', he, hx⟩)
      have HRES : Hid (rcanL S R = done) := Lib.hid (by rw [hcan, hnx, List.append_nil])
      clear HRN0 hnx hlen hb hown hP hc1 hR1 hn1 hcan hout hk hx hns
      go_wp2_with fail
      refine HRN.out.mono ?_
      rintro e w2 ⟨A', c', rfl, hx2⟩
      have HO2 := Lib.hid (ownsRow_ext HO.out ((hx2.alloc (.cells #[.slice A' R1.length c', .int .i64 n1] 51)).alloc (.cells #[.string ⟨#[]⟩, .int .i64 0, .int .i64 0] 40)))
      clear HRN t0 t1
      go_wp2
      go_ret
      rw [HRES.out]
      exact ⟨_, rfl, Lib.hid (own_base_le HO2.out (by omega)), ((HX.out.trans hx2).alloc _).alloc _⟩
    | some x =>
      rcases x with ⟨q, R2, m⟩
      obtain ⟨hok2, hm1, hm2, hsm⟩ := next_ok hR1 hns
      rw [nextR_some hns] at HRN0
      rw [hns] at hnx
      simp only at HRN0 hnx
      have hR1p : 0 < R1.length := by
        rcases R1 with _ | ⟨_, _⟩
        · cases hns
        · simp
      rcases q with ⟨qs, qf, qt⟩
      have HRN : Hid (Calls Try.prog 29 #[.agg #[.slice A1 R1.length c1, .int .i64 n1], .slice B S.length d, .int .i64 4611686018427387904] wr fun e w' => ∃ A' c', e = .returned (.tuple #[.agg #[.slice A' R2.length c', .int .i64 (n1 + m)], .agg #[.string ⟨qs.toArray⟩, .int .i64 qf, .int .i64 qt], .bool true]) ∧ Hid (PAt w' A' R2 ∧ R2.length ≤ c' ∧ (A' = A1 ∨ NewA wr A')) ∧ Ext wr w') := Lib.hid (HRN0.mono fun e w' ⟨A', c', he, hp, hc, hx, hk⟩ => ⟨A', c', he, Lib.hid ⟨hp.out, hc, hk.out⟩, hx⟩)
      have HFIN : Hid (ROk R2 ∧ (0 ≤ n1 + m ∧ n1 + m + sumS R2 ≤ 9000000000000000000) ∧ rcanL S R = (done ++ [⟨qs, qf, qt⟩]) ++ rcanL S R2 ∧ (sumS R2).toNat < gk) := Lib.hid ⟨hok2, by omega, by rw [hcan, hnx, List.append_assoc]; rfl, by have := hok2.sum; omega⟩
      have HP1 := Lib.hid hR1p
      clear HRN0 hnx hlen hb hown hP hc1 hR1 hn1 hcan hout hk hx hns hok2 hm1 hm2 hsm hR1p
      go_wp2_with fail
      refine HRN.out.mono ?_
      rintro e w2 ⟨A', c', rfl, hPN, hx2⟩
      have hx3 : Ext w2 ((w2.alloc (.cells #[.slice A' R2.length c', .int .i64 (n1 + m)] 51)).alloc (.cells #[.string ⟨qs.toArray⟩, .int .i64 qf, .int .i64 qt] 40)) := ((Ext.refl w2).alloc _).alloc _
      have hown3 := ownsRow_ext HO.out (hx2.trans hx3)
      have HB3 := Lib.hid ((hx2.trans hx3).block HB.out)
      have bn3 := Lib.hid (((Ext.refl _).alloc (.cells #[.string ⟨qs.toArray⟩, .int .i64 qf, .int .i64 qt] 40)).block (heap_alloc_new w2 (.cells #[.slice A' R2.length c', .int .i64 (n1 + m)] 51)))
      have hbase : w.heap.size + 1 ≤ ((w2.alloc (.cells #[.slice A' R2.length c', .int .i64 (n1 + m)] 51)).alloc (.cells #[.string ⟨qs.toArray⟩, .int .i64 qf, .int .i64 qt] 40)).heap.size := by
        have := (Array.getElem?_eq_some_iff.1 HB3.out).1
        omega
      have hrow : ∀ g, (Value.slice A2 done.length c2).ownBlock = some g → g < wr.heap.size := fun g e => (own_lt HO.out e).2
      have HROW := Lib.hid hrow
      clear HRN t0 t1 hrow
      go_wp2_with (at_builtin; refine wpList_append_new _ rfl _ _ 22 rfl (w.heap.size + 1) 40 _ 3 32 Try.underlying22 infoPart rfl (by omega) (.slice A2 done.length c2) done.length (pts done) rfl hown3 1 1 _ (by simp) _ rfl rfl (by simp [Value.oneCell']) (by simp [maxLen]; omega) (by omega) hbase ?_; intro v5 w5 hown5 hm5; have hn5 := (hm5.1.block _ (Array.getElem?_eq_some_iff.1 bn3.out).1 (fun e => by have := HROW.out _ e.symm; have := hx2.size; omega)).trans bn3.out; have hb5 := (hm5.1.block _ (Array.getElem?_eq_some_iff.1 HB3.out).1 (fun e => by have := own_base HO.out e.symm; omega)).trans HB3.out; have q0 : w5.cell? ⟨w2.heap.size, 0, none⟩ = some (.slice A' R2.length c') := (by rw [cell_of_block hn5]; rfl); have q1 : w5.cell? ⟨w2.heap.size, 1, none⟩ = some (.int .i64 (n1 + m)) := (by rw [cell_of_block hn5]; rfl); have t0 : w5.cell? ⟨w.heap.size, 0, none⟩ = some (.slice A1 R1.length c1) := (by rw [cell_of_block hb5]; rfl); have t1 : w5.cell? ⟨w.heap.size, 1, none⟩ = some (.int .i64 n1) := (by rw [cell_of_block hb5]; rfl); have tf : ∀ j, w5.frozen? ⟨w.heap.size, j, none⟩ = false := (fun j => frozen_of_block hb5 j))
      obtain ⟨hP2, hc2, hk2⟩ := hPN.out
      obtain ⟨hok2, hn2, hcan2, hlt2⟩ := HFIN.out
      have hw5 : Ext w w5 := ext_moved ((HX.out.trans hx2).trans hx3) (own_base_le hown3 (by omega)) hm5
      obtain ⟨A5, c5, rfl, _⟩ := own_shape hown5
      have hown6 : w5.ownsRow (w.heap.size + 1) 40 3 (.slice A5 (done ++ [Pt.mk qs qf qt]).length c5) (done ++ [Pt.mk qs qf qt]).length (pts (done ++ [Pt.mk qs qf qt])) := by
        rw [List.length_append, pts_append]; exact hown5
      have hnb : (Value.slice A5 (done ++ [Pt.mk qs qf qt]).length c5).ownBlock ≠ some w.heap.size := fun e => by
        have := own_base hown6 e
        omega
      have hA2 : 0 < R2.length → ∀ b o, A' = some ⟨b, o, none⟩ → b < w2.heap.size ∧ (Value.slice A2 done.length c2).ownBlock ≠ some b ∧ b ≠ w.heap.size := fun h0 b o e => by
        have hlt : b < w2.heap.size := by
          obtain ⟨b', o', e', p0, _⟩ := hP2 0 h0
          rw [e] at e'
          cases e'
          exact block_of_cell p0
        refine ⟨hlt, ?_⟩
        rcases hk2 with rfl | hk2
        · exact HOUT.out HP1.out b o e
        · have h1 := hk2 b o e
          have h2 : w.heap.size < wr.heap.size := (Array.getElem?_eq_some_iff.1 HB.out).1
          exact ⟨fun e => by have := HROW.out _ e; omega, by omega⟩
      have hP5 : PAt w5 A' R2 := (hP2.ext hx3).moved hm5 (fun h0 b o e => (hA2 h0 b o e).2.1)
      have hI : RcInv w w.heap.size S R (sumS R2).toNat (.slice A5 (done ++ [Pt.mk qs qf qt]).length c5) ((w5.setCell ⟨w.heap.size, 0, none⟩ (.slice A' R2.length c')).setCell ⟨w.heap.size, 1, none⟩ (.int .i64 (n1 + m))) := by
        refine ⟨R2, done ++ [Pt.mk qs qf qt], n1 + m, A', A5, c', c5, ?_, rfl, own_set (own_set hown6 hnb _) hnb _, ?_, hc2, hok2, hn2, hcan2, ?_, Nat.le_refl _, (hw5.setCell (Nat.le_refl _) _).setCell (Nat.le_refl _) _⟩
        · rw [heap_setCell_same _ _ _ _ _ _ (heap_setCell_same _ _ _ _ _ _ hb5)]; rfl
        · intro k hk
          exact (PAt.set_ (PAt.set_ hP5 (fun b o e => (hA2 (by omega) b o e).2.2) _) (fun b o e => (hA2 (by omega) b o e).2.2) _) k hk
        · intro h0 b o e
          obtain ⟨h1, h2, h3⟩ := hA2 h0 b o e
          refine ⟨fun e2 => ?_, h3⟩
          rw [show (Value.slice A5 (done ++ [Pt.mk qs qf qt]).length c5) = (Value.slice A5 (done.length + 1) c5) by simp] at e2
          rcases hm5.2 with hv | ⟨g, hg, hv⟩
          · exact h2 (hv ▸ e2)
          · rw [hv] at e2
            cases e2
            have := hx3.size
            omega
      have hv1 : (Value.slice A5 (done ++ [Pt.mk qs qf qt]).length c5) = .slice A5 (done.length + 1) c5 := by simp
      rw [hv1] at hI
      have HI2 := Lib.hid hI
      have HLT := Lib.hid hlt2
      clear hv1 hI hlt2 hP5 hA2 hnb hown6 hown5 hw5 hm5 hn2 hcan2 hok2 hP2 hk2 hb5 hn5
      go_roundg (sumS R2).toNat
      case measure => exact HLT.out
      case rel => exact HI2
end Go.Proofs.Ytcdokpkffbigdaa
