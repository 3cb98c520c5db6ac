/- The reference's Seal. -/
import Derived.Test.YtcdokpkffbigdaaRnext
namespace Go.Proofs.Ytcdokpkffbigdaa
open Go.RowKit

def RSealPost (A₀ : Option Addr) (n : Int) (r : List Pt × Int) (w : World) (e : Ending) (w' : World) : Prop :=
  ∃ A c, e = .returned (.tuple #[.agg #[.slice A r.1.length c, .int .i64 n], .int .i64 r.2]) ∧ Hid (PAt w' A r.1) ∧ r.1.length ≤ c ∧ Ext w w' ∧ Hid (A = A₀ ∨ NewA w A)
theorem PAt.init {w : World} {A : Option Addr} {l m : List Pt} (h : PAt w A (l ++ m)) : PAt w A l := fun k hk => by
  obtain ⟨b, o, e, p⟩ := h k (by simp; omega)
  simp only [List.getElem_append_left hk] at p
  exact ⟨b, o, e, p⟩

set_option maxHeartbeats 1000000 in
set_option maxRecDepth 100000 in
theorem rseal_nil (A : Option Addr) (c : Nat) (n x : Int) (w : World) :
    Calls Try.prog 28 #[.agg #[.slice A 0 c, .int .i64 n], .int .i64 x] w (RSealPost A n ([], 6) w) := by
  go_enter Try.func28, Try.ntmps28
  go_wp2
  refine bodyPost_ret (v := .tuple #[.agg #[.slice A 0 c, .int .i64 n], .int .i64 6]) (by simp [results, Try.results28, go_sem]) rfl ⟨A, c, rfl, Lib.hid (PAt.nil _ _), Nat.zero_le _, ?_, Lib.hid (.inl rfl)⟩
  exact ((Ext.refl w).alloc _).alloc _

set_option maxHeartbeats 8000000 in
set_option maxRecDepth 100000 in
theorem rseal_calls (A : Option Addr) (c : Nat) (l : List Pt) (p : Pt) (n x : Int) (w : World) (h : PAt w A (l ++ [p])) (hc : (l ++ [p]).length ≤ c) (hl : l.length ≤ 1000) :
    Calls Try.prog 28 #[.agg #[.slice A (l ++ [p]).length c, .int .i64 n], .int .i64 x] w (RSealPost A n (sealS (l ++ [p]) x) w) := by
  have HS := Lib.hid (sealS_snoc l p x)
  obtain ⟨b, o, rfl, p0, p1, p2⟩ := h l.length (by simp)
  simp only [List.getElem_concat_length] at p0 p1 p2
  have HP := Lib.hid (fun W (hx : Ext w W) => h.ext hx)
  obtain ⟨k, hk⟩ : ∃ k, l.length = k := ⟨_, rfl⟩
  obtain ⟨nl, hnl⟩ : ∃ nl, (l ++ [p]).length = nl := ⟨_, rfl⟩
  have hnk : nl = k + 1 := by rw [← hnl, ← hk]; simp
  rw [hnl] at hc ⊢
  rw [hk] at p0 p1 p2 hl
  have HK := Lib.hid hk
  have HNL := Lib.hid hnl
  have HNK := Lib.hid hnk
  rcases p with ⟨s, f, t⟩
  simp only at p0 p1 p2
  have i2 : (k : Int) < nl := by omega
  have i3 : k < nl := by omega
  have i4 : (nl : Int) - 1 = k := by omega
  have i5 : ¬ (k : Int) < 0 := by omega
  have i6 : k ≤ c := by omega
  have hx0 : Ext w ((w.alloc (.cells #[.slice (some ⟨b, o, none⟩) nl c, .int .i64 n] 51)).alloc (.cells #[.slice none 0 0, .int .i64 0] 51)) := ((Ext.refl w).alloc _).alloc _
  have b1 : ((w.alloc (.cells #[.slice (some ⟨b, o, none⟩) nl c, .int .i64 n] 51)).alloc (.cells #[.slice none 0 0, .int .i64 0] 51)).heap[w.heap.size]? = some (.cells #[.slice (some ⟨b, o, none⟩) nl c, .int .i64 n] 51 (0, 0)) := ((Ext.refl _).alloc _).block (heap_alloc_new w _)
  have b2 : ((w.alloc (.cells #[.slice (some ⟨b, o, none⟩) nl c, .int .i64 n] 51)).alloc (.cells #[.slice none 0 0, .int .i64 0] 51)).heap[w.heap.size + 1]? = some (.cells #[.slice none 0 0, .int .i64 0] 51 (0, 0)) := by
    have := heap_alloc_new (w.alloc (.cells #[.slice (some ⟨b, o, none⟩) nl c, .int .i64 n] 51)) (.cells #[.slice none 0 0, .int .i64 0] 51)
    simpa using this
  replace p0 := hx0.cell p0
  replace p1 := hx0.cell p1
  replace p2 := hx0.cell p2
  clear hk hnl hnk h
  go_enter Try.func28, Try.ntmps28
  go_upto_region 2 with (fail)
  generalize ((w.alloc (.cells #[.slice (some ⟨b, o, none⟩) nl c, .int .i64 n] 51)).alloc (.cells #[.slice none 0 0, .int .i64 0] 51)) = w1 at *
  have t0 : w1.cell? ⟨w.heap.size, 0, none⟩ = some (.slice (some ⟨b, o, none⟩) nl c) := by rw [cell_of_block b1]; rfl
  have t1 : w1.cell? ⟨w.heap.size, 1, none⟩ = some (.int .i64 n) := by rw [cell_of_block b1]; rfl
  have u0 : w1.cell? ⟨w.heap.size + 1, 0, none⟩ = some (.slice none 0 0) := by rw [cell_of_block b2]; rfl
  have u1 : w1.cell? ⟨w.heap.size + 1, 1, none⟩ = some (.int .i64 0) := by rw [cell_of_block b2]; rfl
  have uf : ∀ j, w1.frozen? ⟨w.heap.size + 1, j, none⟩ = false := fun j => frozen_of_block b2 j
  have hz1 : w.heap.size + 1 < w1.heap.size := (Array.getElem?_eq_some_iff.1 b2).1
  have z1 : ¬ w1.heap.size = w.heap.size + 1 := by omega
  have z2 : ¬ w.heap.size + 1 = w1.heap.size := by omega
  have z3 : ¬ w1.heap.size = w.heap.size := by omega
  have z4 : ¬ w.heap.size = w1.heap.size := by omega
  have hz0 : w.heap.size < w1.heap.size := by omega
  have HB1 := Lib.hid b1
  have HB2 := Lib.hid b2
  clear b1 b2
  cases es : (s == [])
  case false =>
    have hs : ¬ s = [] := by simpa using es
    have HR : Hid (sealS (l ++ [⟨s, f, t⟩]) x = (l ++ [⟨s, f, t⟩], 6)) := Lib.hid (by rw [HS.out, if_neg (by simp [Pt.open_, hs])])
    go_wp2_with fail
    refine bodyPost_ret (v := .tuple #[.agg #[.slice (some ⟨b, o, none⟩) nl c, .int .i64 n], .int .i64 6]) (by simp [results, Try.results28, go_sem, u0, u1]) rfl ?_
    rw [HR.out]
    refine ⟨_, c, by rw [HNL.out], Lib.hid (HP.out _ ?_), by rw [HNL.out]; exact hc, ?_, Lib.hid (.inl rfl)⟩
    all_goals repeat' (with_reducible first | exact hx0 | refine Ext.drew ?_ | refine Ext.alloc ?_ _ | refine Ext.setCell ?_ (by dsimp only; omega) _)

  case true =>
  have hs : s = [] := by simpa using es
  subst hs
  clear es
  cases et : decide (t = 4611686018427387904)
  case false =>
    have ht : ¬ t = 4611686018427387904 := of_decide_eq_false et
    have HR : Hid (sealS (l ++ [⟨[], f, t⟩]) x = (l ++ [⟨[], f, t⟩], 6)) := Lib.hid (by rw [HS.out, if_neg (by simp [Pt.open_, ht])])
    go_wp2_with fail
    refine bodyPost_ret (v := .tuple #[.agg #[.slice (some ⟨b, o, none⟩) nl c, .int .i64 n], .int .i64 6]) (by simp [results, Try.results28, go_sem, u0, u1]) rfl ?_
    rw [HR.out]
    refine ⟨_, c, by rw [HNL.out], Lib.hid (HP.out _ ?_), by rw [HNL.out]; exact hc, ?_, Lib.hid (.inl rfl)⟩
    all_goals repeat' (with_reducible first | exact hx0 | refine Ext.drew ?_ | refine Ext.alloc ?_ _ | refine Ext.setCell ?_ (by dsimp only; omega) _)

  case true =>
  have ht : t = 4611686018427387904 := of_decide_eq_true et
  subst ht
  have HS1 : Hid (sealS (l ++ [⟨[], f, 4611686018427387904⟩]) x = if x < 0 ∨ 1099511627776 < x then (l ++ [⟨[], f, 4611686018427387904⟩], 1) else if x < f then (l ++ [⟨[], f, 4611686018427387904⟩], 11) else (l ++ (if f = x then [] else [⟨[], f, x⟩]), 0)) := Lib.hid (by rw [HS.out, if_pos (by simp [Pt.open_])])
  clear et HS
  cases e2 : decide (x < 0)
  case true =>
    have e3 : x < 0 := of_decide_eq_true e2
    have HR : Hid (sealS (l ++ [⟨[], f, 4611686018427387904⟩]) x = (l ++ [⟨[], f, 4611686018427387904⟩], 1)) := Lib.hid (by rw [HS1.out, if_pos (.inl e3)])
    go_wp2_with fail
    refine bodyPost_ret (v := .tuple #[.agg #[.slice (some ⟨b, o, none⟩) nl c, .int .i64 n], .int .i64 1]) (by simp [results, Try.results28, go_sem, u0, u1]) rfl ?_
    rw [HR.out]
    refine ⟨_, c, by rw [HNL.out], Lib.hid (HP.out _ ?_), by rw [HNL.out]; exact hc, ?_, Lib.hid (.inl rfl)⟩
    all_goals repeat' (with_reducible first | exact hx0 | refine Ext.drew ?_ | refine Ext.alloc ?_ _ | refine Ext.setCell ?_ (by dsimp only; omega) _)

  case false =>
  have e3 : ¬ x < 0 := of_decide_eq_false e2
  cases e4 : decide (1099511627776 < x)
  case true =>
    have e5 : 1099511627776 < x := of_decide_eq_true e4
    have HR : Hid (sealS (l ++ [⟨[], f, 4611686018427387904⟩]) x = (l ++ [⟨[], f, 4611686018427387904⟩], 1)) := Lib.hid (by rw [HS1.out, if_pos (.inr e5)])
    go_wp2_with fail
    refine bodyPost_ret (v := .tuple #[.agg #[.slice (some ⟨b, o, none⟩) nl c, .int .i64 n], .int .i64 1]) (by simp [results, Try.results28, go_sem, u0, u1]) rfl ?_
    rw [HR.out]
    refine ⟨_, c, by rw [HNL.out], Lib.hid (HP.out _ ?_), by rw [HNL.out]; exact hc, ?_, Lib.hid (.inl rfl)⟩
    all_goals repeat' (with_reducible first | exact hx0 | refine Ext.drew ?_ | refine Ext.alloc ?_ _ | refine Ext.setCell ?_ (by dsimp only; omega) _)

  case false =>
  have e5 : ¬ 1099511627776 < x := of_decide_eq_false e4
  have HS2 : Hid (sealS (l ++ [⟨[], f, 4611686018427387904⟩]) x = if x < f then (l ++ [⟨[], f, 4611686018427387904⟩], 11) else (l ++ (if f = x then [] else [⟨[], f, x⟩]), 0)) := Lib.hid (by rw [HS1.out, if_neg (by omega)])
  clear HS1
  cases e6 : decide (x < f)
  case true =>
    have e7 : x < f := of_decide_eq_true e6
    have HR : Hid (sealS (l ++ [⟨[], f, 4611686018427387904⟩]) x = (l ++ [⟨[], f, 4611686018427387904⟩], 11)) := Lib.hid (by rw [HS2.out, if_pos e7])
    go_wp2_with fail
    refine bodyPost_ret (v := .tuple #[.agg #[.slice (some ⟨b, o, none⟩) nl c, .int .i64 n], .int .i64 11]) (by simp [results, Try.results28, go_sem, u0, u1, hz1]) rfl ?_
    rw [HR.out]
    refine ⟨_, c, by rw [HNL.out], Lib.hid (HP.out _ ?_), by rw [HNL.out]; exact hc, ?_, Lib.hid (.inl rfl)⟩
    all_goals repeat' (with_reducible first | exact hx0 | refine Ext.drew ?_ | refine Ext.alloc ?_ _ | refine Ext.setCell ?_ (by dsimp only; omega) _)

  case false =>
  have e7 : ¬ x < f := of_decide_eq_false e6
  have HS3 : Hid (sealS (l ++ [⟨[], f, 4611686018427387904⟩]) x = (l ++ (if f = x then [] else [⟨[], f, x⟩]), 0)) := Lib.hid (by rw [HS2.out, if_neg e7])
  clear HS2
  go_upto_region 9 with (fail)
  have hx7 : Ext w1 (w1.alloc (.cells #[.string ⟨#[]⟩, .int .i64 f, .int .i64 4611686018427387904] 40)) := (Ext.refl _).alloc _
  have bp := heap_alloc_new w1 (.cells #[.string ⟨#[]⟩, .int .i64 f, .int .i64 4611686018427387904] 40)
  generalize (w1.alloc (.cells #[.string ⟨#[]⟩, .int .i64 f, .int .i64 4611686018427387904] 40)) = w7 at *
  have hx07 := hx0.trans hx7
  replace t0 := hx7.cell t0
  have hown0 := World.ownsRow_lit (base := w7.heap.size) (size := 3) (e := 40) w7 #[] 0 (Nat.le_refl _) (by simp [maxLen]) rfl
  have hxa : Ext w7 (w7.alloc (.cells #[] 40)) := (Ext.refl w7).alloc _
  have hR0 := ((HP.out _ (hx07.trans hxa)).init).reads
  rw [HK.out] at hR0
  replace t0 := hxa.cell t0
  have HR0 := Lib.hid hR0
  clear hR0 p0 p1 p2
  go_upto_if 63 with (at_builtin; refine wpList_append_src _ rfl (.tmp 53) (.tmp 57) 22 rfl w7.heap.size 40 _ 3 32 Try.underlying22 infoPart rfl (by omega) (.slice (some ⟨w7.heap.size, 0, none⟩) 0 0) 0 [] rfl hown0 _ _ _ _ _ rfl HR0.out (pts_plain _) (by simp [maxLen]; omega) (by omega) hxa.size ?_; intro v4 w4 hown hm4; have hx4 := ext_moved hxa hown0 hm4; rw [Nat.zero_add, List.nil_append] at hown; have bp4 := hx4.block bp; have m0 : w4.cell? ⟨w1.heap.size, 1, none⟩ = some (.int .i64 f) := (by rw [cell_of_block bp4]; rfl))
  have hB1 := hx7.block HB1.out
  have hB2 := hx7.block HB2.out
  have HX4 := Lib.hid hx4
  have HO4 := Lib.hid hown
  have hw74 := hx4.size
  obtain ⟨A4, c4, rfl, hc4⟩ := own_shape hown
  obtain ⟨LL, hLL⟩ : ∃ LL, l ++ (if f = x then [] else [⟨[], f, x⟩]) = LL := ⟨_, rfl⟩
  rw [hLL] at HS3
  have HLL := Lib.hid hLL
  have hw7 : w1.heap.size < w7.heap.size := (Array.getElem?_eq_some_iff.1 bp).1
  clear hown hm4 hx4 hown0 hxa HR0 bp bp4 hLL t0 hx7
  generalize hbe : decide (f < x) = be
  have HBE := Lib.hid hbe
  clear hbe
  go_cut [8] from 64 to 72 (fun v wx => Hid (∃ A1 c1, v = .slice A1 LL.length c1 ∧ wx.ownsRow w7.heap.size 40 3 v LL.length (pts LL)) ∧ Ext w7 wx)
  case first =>
    cases be
    · have e9 : f = x := by have := of_decide_eq_false HBE.out; omega
      have hL2 : l = LL := by rw [← HLL.out, if_pos e9, List.append_nil]
      subst hL2
      clear e9
      go_wp2_with fail
      go_meet
      exact ⟨Lib.hid ⟨A4, c4, by rw [HK.out], by rw [HK.out]; exact HO4.out⟩, HX4.out⟩
    · have e9 : ¬ f = x := by have := of_decide_eq_true HBE.out; omega
      have hL2 : l ++ [⟨[], f, x⟩] = LL := by rw [← HLL.out, if_neg e9]
      have hown4 := HO4.out
      go_wp2_with (at_builtin; refine wpList_append_new _ rfl _ _ 22 rfl w7.heap.size 40 _ 3 32 Try.underlying22 infoPart rfl (by omega) (.slice A4 k c4) k (pts l) rfl hown4 1 1 _ (by simp) _ rfl rfl (by simp [Value.oneCell']) (by simp [maxLen]; omega) (by omega) hw74 ?_; intro v5 w5 hown5 hm5)
      go_meet
      have hx5 := ext_moved HX4.out HO4.out hm5
      have hpp : pts l ++ [Value.string ⟨#[]⟩, .int .i64 f, .int .i64 x] = pts LL := by rw [← hL2, pts_append]; rfl
      have hll5 : k + 1 = LL.length := by rw [← hL2, ← HK.out]; simp
      rw [hpp, hll5] at hown5
      obtain ⟨A6, c6, hv, _⟩ := own_shape hown5
      exact ⟨Lib.hid ⟨A6, c6, hv, hown5⟩, hx5⟩
  case rest =>
    obtain ⟨hcut, hxc⟩ := hcut
    obtain ⟨A6, c6, rfl, hown⟩ := hcut.out
    obtain ⟨_, _, hv6, hc6⟩ := own_shape hown
    cases hv6
    have HOW6 := Lib.hid hown
    replace hB1 := hxc.block hB1
    replace hB2 := hxc.block hB2
    have hxw6 := hx07.trans hxc
    have g1 : wc.cell? ⟨w.heap.size, 1, none⟩ = some (.int .i64 n) := by rw [cell_of_block hB1]; rfl
    have u0 : wc.cell? ⟨w.heap.size + 1, 0, none⟩ = some (.slice none 0 0) := by rw [cell_of_block hB2]; rfl
    have u1 : wc.cell? ⟨w.heap.size + 1, 1, none⟩ = some (.int .i64 0) := by rw [cell_of_block hB2]; rfl
    have uf : ∀ j, wc.frozen? ⟨w.heap.size + 1, j, none⟩ = false := fun j => frozen_of_block hB2 j
    have hz1 : w.heap.size + 1 < wc.heap.size := (Array.getElem?_eq_some_iff.1 hB2).1
    clear hown hcut hB1 hB2 HB1 HB2 hxc m0
    go_wp2_with fail
    refine bodyPost_ret (v := .tuple #[.agg #[.slice A6 LL.length c6, .int .i64 n], .int .i64 0]) (by simp [results, Try.results28, go_sem, u0, u1]) rfl ?_
    rw [HS3.out]
    have hww : w.heap.size ≤ w7.heap.size := by omega
    refine ⟨A6, c6, rfl, Lib.hid ?_, hc6, ?_, Lib.hid (.inr (fun b o e => Nat.le_trans hww (own_base HOW6.out (by rw [e]; rfl))))⟩
    · have hP := pat_of_own HOW6.out
      have hbs : ∀ b o, A6 = some ⟨b, o, none⟩ → w7.heap.size ≤ b := fun b o e => own_base HOW6.out (by rw [e]; rfl)
      repeat' (with_reducible first | exact hP | refine PAt.drew_ ?_ | refine PAt.set_ ?_ (fun b o e => by have := hbs b o e; dsimp only; omega) _)
    · repeat' (with_reducible first | exact hxw6 | refine Ext.drew ?_ | refine Ext.setCell ?_ (by dsimp only; omega) _)
end Go.Proofs.Ytcdokpkffbigdaa
