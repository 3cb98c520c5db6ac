/- ImapNil: what a nil map, and a zero one, tell. The walk. -/
import Derived.Test.YtjiabibnbpjhaaaNil
import Derived.Test.YtjiabibnbpjhaaaSpl
import Derived.Test.YtjiabibnbpjhaaaFirst
import Derived.Test.YtjiabibnbpjhaaaLawApart
namespace Go.Proofs.Ytjiabibnbpjhaaa.Rg
open Go.RowKit

set_option maxHeartbeats 8000000 in
set_option maxRecDepth 100000 in
theorem lawNil_calls (f t x at_ : Int) (w : World) :
    Calls Try.prog 10 #[.agg #[.int .i64 f, .int .i64 t], .int .i64 x, .int .i64 at_] w fun e w' => e = .returned (.bool true) ∧ Ext w w' := by
  have hx0 : Ext w (w.alloc (.cells #[.int .i64 f, .int .i64 t] 34)) := (Ext.refl w).alloc _
  have s0 : (w.alloc (.cells #[.int .i64 f, .int .i64 t] 34)).cell? ⟨w.heap.size, 0, none⟩ = some (.int .i64 f) := by simp
  have s1 : (w.alloc (.cells #[.int .i64 f, .int .i64 t] 34)).cell? ⟨w.heap.size, 1, none⟩ = some (.int .i64 t) := by simp
  go_enter Try.func10, Try.ntmps10
  go_wp2_with fail
  generalize (w.alloc (.cells #[.int .i64 f, .int .i64 t] 34)) = w0 at *
  obtain ⟨sb, hsb⟩ : ∃ sb, w.heap.size = sb := ⟨_, rfl⟩
  rw [hsb] at s0 s1 ⊢
  clear hsb
  refine (alive_calls _).mono ?_
  rintro e wa ⟨rfl, hx⟩
  replace s0 := hx.cell s0
  replace s1 := hx.cell s1
  replace hx0 := hx0.trans hx
  clear hx
  go_wp2_with fail
  refine (drop_none f t wa).mono ?_
  rintro e wb ⟨rfl, hx⟩
  replace s0 := hx.cell s0
  replace s1 := hx.cell s1
  replace hx0 := hx0.trans hx
  clear hx
  go_wp2_with fail
  refine (get_none at_ wb).mono ?_
  rintro e wc ⟨rfl, hx⟩
  have hxd : Ext wc (wc.alloc (.cells #[.int .i64 0, .int .i64 0] 34)) := (Ext.refl wc).alloc _
  have z0 : (wc.alloc (.cells #[.int .i64 0, .int .i64 0] 34)).cell? ⟨wc.heap.size, 0, none⟩ = some (.int .i64 0) := by simp
  have z1 : (wc.alloc (.cells #[.int .i64 0, .int .i64 0] 34)).cell? ⟨wc.heap.size, 1, none⟩ = some (.int .i64 0) := by simp
  replace s0 := hxd.cell (hx.cell s0)
  replace s1 := hxd.cell (hx.cell s1)
  replace hx0 := (hx0.trans hx).trans hxd
  clear hx hxd
  have hq := neqSpan 0 0 0 0
  have hg50 := guardSpan
  go_wp2_with fail
  generalize (wc.alloc (.cells #[.int .i64 0, .int .i64 0] 34)) = wd at *
  generalize wc.heap.size = zc at *
  refine (put_none f t x wd).mono ?_
  rintro e we ⟨rfl, hx⟩
  replace s0 := hx.cell s0
  replace s1 := hx.cell s1
  replace z0 := hx.cell z0
  replace z1 := hx.cell z1
  replace hx0 := hx0.trans hx
  clear hx
  go_wp2_with fail
  refine (len_none _).mono ?_
  rintro e wf ⟨rfl, hx⟩
  replace s0 := hx.cell s0
  replace s1 := hx.cell s1
  replace z0 := hx.cell z0
  replace z1 := hx.cell z1
  replace hx0 := hx0.trans hx
  clear hx
  go_wp2_with fail
  refine (all_none _).mono ?_
  rintro e wg ⟨v1, rfl, hown, hx⟩
  obtain ⟨A1, c1, rfl, _⟩ := own_shape hown
  clear hown
  replace s0 := hx.cell s0
  replace s1 := hx.cell s1
  replace z0 := hx.cell z0
  replace z1 := hx.cell z1
  replace hx0 := hx0.trans hx
  clear hx
  go_wp2_with fail
  refine (inl_none _ _ _).mono ?_
  rintro e wh ⟨v2, rfl, hown, hx⟩
  obtain ⟨A2, c2, rfl, _⟩ := own_shape hown
  clear hown
  replace s0 := hx.cell s0
  replace s1 := hx.cell s1
  replace z0 := hx.cell z0
  replace z1 := hx.cell z1
  replace hx0 := hx0.trans hx
  clear hx
  go_wp2_with fail
  refine (clone_none _).mono ?_
  rintro e wi ⟨rfl, hx⟩
  replace s0 := hx.cell s0
  replace s1 := hx.cell s1
  replace z0 := hx.cell z0
  replace z1 := hx.cell z1
  replace hx0 := hx0.trans hx
  clear hx
  go_wp2_with fail
  refine ((show Calls Try.prog 30 #[.pointer none, .int .i64 x] _ (SetPost _ []) from mapOf_none x _)).mono ?_
  rintro e wj ⟨A3, c3, rfl, HS3, _, hx⟩
  replace s0 := hx.cell s0
  replace s1 := hx.cell s1
  replace z0 := hx.cell z0
  replace z1 := hx.cell z1
  replace hx0 := hx0.trans hx
  clear hx
  go_wp2_with fail
  refine (spans_calls A3 c3 [] _ HS3.out (by simp)).mono ?_
  rintro e wk ⟨v4, rfl, hown, hx⟩
  obtain ⟨A4, c4, rfl, _⟩ := own_shape hown
  clear hown
  replace s0 := hx.cell s0
  replace s1 := hx.cell s1
  replace z0 := hx.cell z0
  replace z1 := hx.cell z1
  replace hx0 := hx0.trans hx
  clear hx
  go_wp2_with fail
  refine ((show Calls Try.prog 33 #[.pointer none] _ (SetPost _ []) from known_none _)).mono ?_
  rintro e wl ⟨A5, c5, rfl, HS5, _, hx⟩
  replace s0 := hx.cell s0
  replace s1 := hx.cell s1
  replace z0 := hx.cell z0
  replace z1 := hx.cell z1
  replace hx0 := hx0.trans hx
  clear hx
  go_wp2_with fail
  refine (spans_calls A5 c5 [] _ HS5.out (by simp)).mono ?_
  rintro e wm ⟨v6, rfl, hown, hx⟩
  obtain ⟨A6, c6, rfl, _⟩ := own_shape hown
  clear hown
  have hw2 := hx0.trans hx
  replace s0 := hx.cell s0
  replace s1 := hx.cell s1
  have hxz : Ext wm (wm.alloc (.cells #[.slice none 0 0] 73)) := (Ext.refl wm).alloc _
  have bz : (wm.alloc (.cells #[.slice none 0 0] 73)).heap[wm.heap.size]? = some (.cells #[.slice none 0 0] 73 (0, 0)) := heap_alloc_new wm _
  clear hx hx0 z0 z1 hq hg50
  go_wp2_with fail
  generalize (wm.alloc (.cells #[.slice none 0 0] 73)) = w3 at *
  obtain ⟨zb, hzb'⟩ : ∃ zb, wm.heap.size = zb := ⟨_, rfl⟩
  rw [hzb'] at bz ⊢
  have hzb : wm.heap.size ≤ zb := by omega
  clear hzb'
  have HZ3 : Hid (Holds w3 zb []) := Lib.hid ⟨none, 0, bz, Nat.le_refl _, by simp [flat]⟩
  have hzl := (Array.getElem?_eq_some_iff.1 bz).1
  refine (new_calls w3).mono ?_
  rintro e w4 ⟨rfl, HN4', hx34, hz4⟩
  have HN4 := Lib.hid HN4'
  have h24 := hxz.trans hx34
  have HZ4 := Lib.hid (HZ3.out.ext hx34)
  have hnz : zb ≠ w3.heap.size := by omega
  have hnb : wm.heap.size ≤ w3.heap.size := by omega
  generalize wm = w2 at *
  clear bz HZ3 hxz HN4'
  generalize w3.heap.size = nb at *
  cases hgb : (Go.Proofs.Ytjiabibnbpjhaaa.rightB f t && decide (f < t))
  · have HGB := Lib.hid hgb
    clear hgb
    have HPL : Hid (([] : List Rn).length ≤ 1) := Lib.hid (by simp [putR, putTo, pushR])
    have HRL : Hid ((meetsR ([] : List Rn) 0 4611686018427387904).length ≤ 1) := Lib.hid (Nat.le_trans (meetsR_length _ _ _) HPL.out)
    obtain ⟨P, hP⟩ : ∃ P, ([] : List Rn) = P := ⟨_, rfl⟩

    rw [hP] at HPL HRL
    subst hP

    obtain ⟨R, hR⟩ : ∃ R, meetsR ([] : List Rn) 0 4611686018427387904 = R := ⟨_, rfl⟩
    rw [hR] at HRL
    have hRl := HRL.out
    have HAL : Hid (∀ mb w, Holds w mb [] → Calls Try.prog 16 #[.pointer (some ⟨mb, 0, none⟩)] w (ListPost w R)) := Lib.hid fun mb w h => by rw [← hR]; exact all_calls mb _ w h (by have := HPL.out; omega)
    have hl1 : decide ((R.length : Int) ≤ 1) = true := decide_eq_true (by omega)
    clear hR
    go_wp2
    go_region_held3 (fun w' => w'.cell? ⟨sb, 0, none⟩ = some (.int .i64 f) ∧ w'.cell? ⟨sb, 1, none⟩ = some (.int .i64 t))
      ((refine (fun hE => ⟨Ext.cell hE s0, Ext.cell hE s1⟩ : Ext w2 _ → _) ?_
        (repeat' with_reducible first | exact hE10.out | exact hE9.out | exact hE8.out | exact hE7.out | exact hE6.out | exact hE5.out | exact h24 | refine Ext.drew ?_ | refine Ext.alloc ?_ _)))
      (first
        | (go_at_call 23
           (with_reducible refine (put_bad zb f t x _ HGB.out).mono ?_)
           rintro e w5 ⟨rfl, hx5⟩
           have hE5 : Hid (Ext w2 w5) := Lib.hid ((h24.trans (Ext.refl w4).drew).trans hx5)
           have HN5 := Lib.hid ((HN4.out.ext (Ext.refl w4).drew).ext hx5)
           have HZ5 := Lib.hid ((HZ4.out.ext (Ext.refl w4).drew).ext hx5))
        | (go_at_call 23
           (with_reducible refine (put_bad nb f t x _ HGB.out).mono ?_)
           rintro e w6 ⟨rfl, hx6⟩
           have hE6 : Hid (Ext w2 w6) := Lib.hid (hE5.out.trans hx6)
           have HZ6 := Lib.hid (HZ5.out.ext hx6)
           have HN6 := Lib.hid (HN5.out.ext hx6))
        | (go_at_call 16
           (with_reducible refine (HAL.out zb _ HZ6.out).mono ?_)
           rintro e w7 ⟨v7, rfl, hown7, hx7⟩
           obtain ⟨A7, c7, rfl, _⟩ := own_shape hown7
           have hE7 : Hid (Ext w2 w7) := Lib.hid (hE6.out.trans hx7)
           have HN7 := Lib.hid (HN6.out.ext hx7)
           have HZ7 := Lib.hid (HZ6.out.ext hx7)
           have HR7 := Lib.hid (row3_own hown7)
           clear hown7)
        | (go_at_call 16
           (with_reducible refine (HAL.out nb _ HN7.out).mono ?_)
           rintro e w8 ⟨v8, rfl, hown8, hx8⟩
           obtain ⟨A8, c8, rfl, _⟩ := own_shape hown8
           have hE8 : Hid (Ext w2 w8) := Lib.hid (hE7.out.trans hx8)
           have HZ8 := Lib.hid (HZ7.out.ext hx8)
           have HR78 := Lib.hid (HR7.out.ext hx8)
           have HR8 := Lib.hid (row3_own hown8)
           clear hown8)
        | (go_at_call 15
           (with_reducible refine (same_yes A7 A8 c7 c8 R _ HR78.out HR8.out (by omega)).mono ?_)
           rintro e w9 ⟨rfl, hx9⟩
           have hE9 : Hid (Ext w2 w9) := Lib.hid (hE8.out.trans hx9)
           have HZ9 := Lib.hid (HZ8.out.ext hx9))
        | (go_at_call 16
           (with_reducible refine (HAL.out zb _ HZ9.out).mono ?_)
           rintro e w10 ⟨v10, rfl, hown10, hx10⟩
           obtain ⟨A10, c10, rfl, _⟩ := own_shape hown10
           have hE10 : Hid (Ext w2 w10) := Lib.hid (hE9.out.trans hx10)
           clear hown10))
    all_goals go_wp2
    all_goals go_ret
    all_goals exact ⟨by simp, hw2.trans hE10.out⟩
  · have HGB := Lib.hid hgb
    clear hgb
    have HPL : Hid ((putR f t x []).length ≤ 1) := Lib.hid (by simp [putR, putTo, pushR])
    have HRL : Hid ((meetsR (putR f t x []) 0 4611686018427387904).length ≤ 1) := Lib.hid (Nat.le_trans (meetsR_length _ _ _) HPL.out)
    obtain ⟨P, hP⟩ : ∃ P, (putR f t x []) = P := ⟨_, rfl⟩
    have hput : Hid (∀ mb w, Holds w mb [] → Calls Try.prog 23 #[.pointer (some ⟨mb, 0, none⟩), .agg #[.int .i64 f, .int .i64 t], .int .i64 x] w fun e w' => e = .returned (.int .i64 0) ∧ Holds w' mb P ∧ w.grownBy w' (some mb)) := Lib.hid fun mb w h => by rw [← hP]; exact put_good mb [] f t x w h HGB.out (by simp)
    rw [hP] at HPL HRL

    clear hP
    obtain ⟨R, hR⟩ : ∃ R, meetsR P 0 4611686018427387904 = R := ⟨_, rfl⟩
    rw [hR] at HRL
    have hRl := HRL.out
    have HAL : Hid (∀ mb w, Holds w mb P → Calls Try.prog 16 #[.pointer (some ⟨mb, 0, none⟩)] w (ListPost w R)) := Lib.hid fun mb w h => by rw [← hR]; exact all_calls mb _ w h (by have := HPL.out; omega)
    have hl1 : decide ((R.length : Int) ≤ 1) = true := decide_eq_true (by omega)
    clear hR
    go_wp2
    go_region_held3 (fun w' => w'.cell? ⟨sb, 0, none⟩ = some (.int .i64 f) ∧ w'.cell? ⟨sb, 1, none⟩ = some (.int .i64 t))
      ((refine (fun hE => ⟨Ext.cell hE s0, Ext.cell hE s1⟩ : Ext w2 _ → _) ?_
        (repeat' with_reducible first | exact hE10.out | exact hE9.out | exact hE8.out | exact hE7.out | exact hE6.out | exact hE5.out | exact h24 | refine Ext.drew ?_ | refine Ext.alloc ?_ _)))
      (first
        | (go_at_call 23
           (with_reducible refine (hput.out zb _ (HZ4.out.ext (Ext.refl w4).drew)).mono ?_)
           rintro e w5 ⟨rfl, HZ5', hg5⟩
           have hE5 : Hid (Ext w2 w5) := Lib.hid (ext_only (h24.trans (Ext.refl w4).drew) hzb hg5)
           have HN5 := Lib.hid (Holds.mu (HN4.out.ext (Ext.refl w4).drew) ((Mu.refl zb _).grown hg5) (HZ4.out.ext (Ext.refl w4).drew) hnz.symm)
           have HZ5 := Lib.hid HZ5')
        | (go_at_call 23
           (with_reducible refine (hput.out nb _ HN5.out).mono ?_)
           rintro e w6 ⟨rfl, HN6', hg6⟩
           have hE6 : Hid (Ext w2 w6) := Lib.hid (ext_only hE5.out hnb hg6)
           have HZ6 := Lib.hid (Holds.mu HZ5.out ((Mu.refl nb _).grown hg6) HN5.out hnz)
           have HN6 := Lib.hid HN6')
        | (go_at_call 16
           (with_reducible refine (HAL.out zb _ HZ6.out).mono ?_)
           rintro e w7 ⟨v7, rfl, hown7, hx7⟩
           obtain ⟨A7, c7, rfl, _⟩ := own_shape hown7
           have hE7 : Hid (Ext w2 w7) := Lib.hid (hE6.out.trans hx7)
           have HN7 := Lib.hid (HN6.out.ext hx7)
           have HZ7 := Lib.hid (HZ6.out.ext hx7)
           have HR7 := Lib.hid (row3_own hown7)
           clear hown7)
        | (go_at_call 16
           (with_reducible refine (HAL.out nb _ HN7.out).mono ?_)
           rintro e w8 ⟨v8, rfl, hown8, hx8⟩
           obtain ⟨A8, c8, rfl, _⟩ := own_shape hown8
           have hE8 : Hid (Ext w2 w8) := Lib.hid (hE7.out.trans hx8)
           have HZ8 := Lib.hid (HZ7.out.ext hx8)
           have HR78 := Lib.hid (HR7.out.ext hx8)
           have HR8 := Lib.hid (row3_own hown8)
           clear hown8)
        | (go_at_call 15
           (with_reducible refine (same_yes A7 A8 c7 c8 R _ HR78.out HR8.out (by omega)).mono ?_)
           rintro e w9 ⟨rfl, hx9⟩
           have hE9 : Hid (Ext w2 w9) := Lib.hid (hE8.out.trans hx9)
           have HZ9 := Lib.hid (HZ8.out.ext hx9))
        | (go_at_call 16
           (with_reducible refine (HAL.out zb _ HZ9.out).mono ?_)
           rintro e w10 ⟨v10, rfl, hown10, hx10⟩
           obtain ⟨A10, c10, rfl, _⟩ := own_shape hown10
           have hE10 : Hid (Ext w2 w10) := Lib.hid (hE9.out.trans hx10)
           clear hown10))
    all_goals go_wp2
    all_goals go_ret
    all_goals exact ⟨by simp, hw2.trans hE10.out⟩
end Go.Proofs.Ytjiabibnbpjhaaa.Rg
