/- The contract of the index's Drop. -/
import Derived.Test.YtgcplndmhlideaaGreatIxd
namespace Go.Proofs.YtgcplndmhlideaaGreat
open Go.RowKit

set_option maxHeartbeats 1000000 in
set_option maxRecDepth 100000 in
theorem drop_no (xb : Nat) (u : Int) (x : Ix) (v n : Int) (w : World) (h : IxAt w xb u x) (hf : Fit u x) (hn : I64 n) (hg : getS x.L v n = none) :
    Calls Tryz.prog 23 #[.pointer (some ⟨xb, 0, none⟩), .agg #[.int .i64 v, .int .i64 n]] w (XPost w xb u x (.bool false)) := by
  obtain ⟨k, hw, hk, _, hgk⟩ := get_key hf v n hn
  rw [hg] at hgk
  have HGET := Lib.hid (show It.getV (getL k (itemsOf x.L v)) = .tuple #[.agg #[.int .i64 0, .int .i64 0], .bool false] by rw [hgk]; rfl)
  clear hgk hg hn
  have hx0 : Ext w (w.alloc (.cells #[.int .i64 v, .int .i64 n] 49)) := (Ext.refl w).alloc _
  have a0 : (w.alloc (.cells #[.int .i64 v, .int .i64 n] 49)).cell? ⟨w.heap.size, 0, none⟩ = some (.int .i64 v) := by simp
  have a1 : (w.alloc (.cells #[.int .i64 v, .int .i64 n] 49)).cell? ⟨w.heap.size, 1, none⟩ = some (.int .i64 n) := by simp
  have H0 := Lib.hid (h.ext hx0)
  clear h
  go_enter Tryz.func23, Tryz.ntmps23
  go_wp2_with fail
  generalize w.alloc (.cells #[.int .i64 v, .int .i64 n] 49) = W at *
  generalize hnb : w.heap.size = nb at *
  refine (ofx_calls xb u x v W H0.out hf).mono ?_
  rintro e w3 ⟨pm, rfl, hit, hx1⟩
  replace a0 := hx1.cell a0
  replace a1 := hx1.cell a1
  replace H0 := Lib.hid (H0.out.ext hx1)
  replace hx0 := hx0.trans hx1
  clear hx1
  have hmb : w.heap.size ≤ w3.heap.size := hx0.size
  have HNW := Lib.hid (show w3.heap.size ≠ nb from by have := block_of_cell a0; dsimp only at this; omega)
  go_upto_region 2 with (fail)
  have hx1 : Ext w3 (w3.alloc (.cells #[.pointer pm] 81)) := (Ext.refl _).alloc _
  have mk := heap_alloc_new w3 (.cells #[.pointer pm] 81)
  have m0 : (w3.alloc (.cells #[.pointer pm] 81)).cell? ⟨w3.heap.size, 0, none⟩ = some (.pointer pm) := cell_blk mk 0 rfl
  replace a0 := hx1.cell a0
  replace a1 := hx1.cell a1
  replace H0 := Lib.hid (H0.out.ext hx1)
  replace hx0 := hx0.trans hx1
  replace hit := hit.ext hx1
  clear hx1
  generalize (w3.alloc (.cells #[.pointer pm] 81)) = w4 at *
  rw [hnb] at hmb
  have HMN := Lib.hid (show w3.heap.size ≠ nb from HNW.out)
  generalize w3.heap.size = mb at *
  have HI := Lib.hid hit
  have MK := Lib.hid mk
  clear hit mk
  go_wp2_with fail
  refine (itget_calls pm (itemsOf x.L v) k w4 HI.out hk).mono ?_
  rw [HGET.out]
  rintro e w5 ⟨rfl, hx1⟩
  replace a0 := hx1.cell a0
  replace a1 := hx1.cell a1
  replace m0 := hx1.cell m0
  replace H0 := Lib.hid (H0.out.ext hx1)
  replace hx0 := hx0.trans hx1
  replace HI := Lib.hid (HI.out.ext hx1)
  replace MK := Lib.hid (hx1.block MK.out)
  clear hx1 HGET
  clear hw hk m0 MK
  generalize itemsOf x.L v = l at *
  go_wp2
  go_ret
  exact ⟨rfl, H0.out.ext ((Ext.refl _).alloc _), Chx.of_ext (hx0.alloc _)⟩
set_option maxHeartbeats 4000000 in
set_option maxRecDepth 100000 in
theorem drop_yes (xb : Nat) (u : Int) (x : Ix) (v n : Int) (s : Sl) (w : World) (h : IxAt w xb u x) (hf : Fit u x) (hg : getS x.L v n = some s) :
    Calls Tryz.prog 23 #[.pointer (some ⟨xb, 0, none⟩), .agg #[.int .i64 v, .int .i64 n]] w (XPost w xb u ⟨dropS x.L v n, x.c⟩ (.bool true)) := by
  obtain ⟨gs, gv, gn⟩ := getS_some hg
  obtain ⟨o1, o2, o3, o4, o5, o6⟩ := hf.ok.ok s gs
  obtain ⟨o7, o8⟩ := hf.ok.cnt s gs
  have hf1 := hf.c1
  have hf2 := hf.u1
  obtain ⟨kv, rfl⟩ : ∃ k : Nat, v = k := ⟨v.toNat, by omega⟩
  obtain ⟨kn, rfl⟩ : ∃ k : Nat, n = k := ⟨n.toNat, by omega⟩
  have kv1 : kv ≤ 1099511627776 := by omega
  have kn1 : kn ≤ 1099511627776 := by omega
  have hwv : IntKind.u64.wrap (kv : Int) = (kv : Int) := IntWalk.u64_in _ (by omega)
  have hwn : IntKind.u64.wrap (kn : Int) = (kn : Int) := IntWalk.u64_in _ (by omega)
  have hk : kn < 2 ^ 64 := by omega
  have hgi := get_items hf.ok (kv : Int) (kn : Int) (by omega)
  rw [Int.toNat_natCast, hg] at hgi
  have HGET := Lib.hid (show It.getV (getL kn (itemsOf x.L kv)) = .tuple #[.agg #[.int .i64 s.b, .int .i64 s.c], .bool true] by rw [hgi]; rfl)
  have HXW := Lib.hid (show xb < w.heap.size from by obtain ⟨p, q, lv, hb, _⟩ := h; exact (Array.getElem?_eq_some_iff.1 hb).1)
  have HF1 := Lib.hid (fun (W : World) (pp qq pa : Option Addr) lv => ix_drop1 (w := W) (xb := xb) (u := u) (x := x) (kv := kv) (kn := kn) (p := pp) (q := qq) (p' := pa) (lv := lv) hf hg)
  have HF0 := Lib.hid (fun (W : World) (pp qq : Option Addr) lv => ix_drop0 (w := W) (xb := xb) (u := u) (x := x) (kv := kv) (kn := kn) (p := pp) (q := qq) (lv := lv) hf hg)
  obtain ⟨ks, hks⟩ : ∃ k : Nat, s.c = k := ⟨s.c.toNat, by omega⟩
  have hwk : IntKind.u64.wrap (ks : Int) = (ks : Int) := IntWalk.u64_in _ (by omega)
  have hk64 : ks < 2 ^ 64 := by omega
  rw [hks] at HGET HF1 HF0
  obtain ⟨sb, hsb⟩ : ∃ b, s.b = b := ⟨_, rfl⟩
  rw [hsb] at HGET HF1 HF0 o5 o6
  clear hgi hg gs gv gn o1 o2 o3 o4 o7 o8 hf1 hks hsb
  have hx0 : Ext w (w.alloc (.cells #[.int .i64 kv, .int .i64 kn] 49)) := (Ext.refl w).alloc _
  have a0 : (w.alloc (.cells #[.int .i64 kv, .int .i64 kn] 49)).cell? ⟨w.heap.size, 0, none⟩ = some (.int .i64 kv) := by simp
  have a1 : (w.alloc (.cells #[.int .i64 kv, .int .i64 kn] 49)).cell? ⟨w.heap.size, 1, none⟩ = some (.int .i64 kn) := by simp
  have H0 := Lib.hid (h.ext hx0)
  clear h
  go_enter Tryz.func23, Tryz.ntmps23
  go_wp2_with fail
  generalize w.alloc (.cells #[.int .i64 kv, .int .i64 kn] 49) = W at *
  generalize hnb : w.heap.size = nb at *
  refine (ofx_calls xb u x kv W H0.out hf).mono ?_
  rintro e w3 ⟨pm, rfl, hit, hx1⟩
  replace a0 := hx1.cell a0
  replace a1 := hx1.cell a1
  replace H0 := Lib.hid (H0.out.ext hx1)
  replace hx0 := hx0.trans hx1
  clear hx1
  have hmb : w.heap.size ≤ w3.heap.size := hx0.size
  have HNW := Lib.hid (show w3.heap.size ≠ nb from by have := block_of_cell a0; dsimp only at this; omega)
  go_upto_region 2 with (fail)
  have hx1 : Ext w3 (w3.alloc (.cells #[.pointer pm] 81)) := (Ext.refl _).alloc _
  have mk := heap_alloc_new w3 (.cells #[.pointer pm] 81)
  have m0 : (w3.alloc (.cells #[.pointer pm] 81)).cell? ⟨w3.heap.size, 0, none⟩ = some (.pointer pm) := cell_blk mk 0 rfl
  replace a0 := hx1.cell a0
  replace a1 := hx1.cell a1
  replace H0 := Lib.hid (H0.out.ext hx1)
  replace hx0 := hx0.trans hx1
  replace hit := hit.ext hx1
  clear hx1
  generalize (w3.alloc (.cells #[.pointer pm] 81)) = w4 at *
  rw [hnb] at hmb
  have HMN := Lib.hid (show w3.heap.size ≠ nb from HNW.out)
  generalize w3.heap.size = mb at *
  have HI := Lib.hid hit
  have MK := Lib.hid mk
  clear hit mk
  go_wp2_with fail
  refine (itget_calls pm (itemsOf x.L kv) kn w4 HI.out hk).mono ?_
  rw [HGET.out]
  rintro e w5 ⟨rfl, hx1⟩
  replace a0 := hx1.cell a0
  replace a1 := hx1.cell a1
  replace m0 := hx1.cell m0
  replace H0 := Lib.hid (H0.out.ext hx1)
  replace hx0 := hx0.trans hx1
  replace HI := Lib.hid (HI.out.ext hx1)
  replace MK := Lib.hid (hx1.block MK.out)
  clear hx1 HGET
  have hxw : xb < nb := HXW.out
  have hlen : (itemsOf x.L kv).length ≤ 1000 := by have := items_len x.L kv; have := hf.len; omega
  obtain ⟨hs0, hs1⟩ := sum_le hf
  obtain ⟨p, q, lv, hb, hmp, hnm, hvs⟩ := H0.out
  have hlv : lv.length ≤ 1000 := by have := vers_len hmp hvs hf; have := hf.len; omega
  have hcl : (cntOf x.L).length ≤ 1000 := by have := hf.len; simp [cntOf]; omega
  obtain ⟨c0, hcc⟩ : ∃ c0, x.c = c0 := ⟨_, rfl⟩
  obtain ⟨t, ht⟩ : ∃ t, sumS x.L = t := ⟨_, rfl⟩
  rw [hcc] at hb HF0 HF1
  rw [ht] at hb HF0 HF1 hs0 hs1
  have HCX := Lib.hid hcc
  have htw : IntKind.i64.wrap (t - sb) = t - sb := by rw [IntWalk.i64_in _ (by omega)]
  generalize cntOf x.L = lc at *
  generalize itemsOf x.L kv = li at *
  have HM := Lib.hid hmp
  have HV := Lib.hid hvs
  have HN := Lib.hid hnm
  have HCL := Lib.hid (And.intro hlv (And.intro hcl hlen))
  have HUP := Lib.hid hmp.up
  clear hcc ht hvs hmp hnm H0 hf hs0 hs1 hlv hcl hlen o5 o6 hf2
  go_upto_region 5 with (fail)
  have hx1 : Ext w5 (w5.alloc (.cells #[.int .i64 sb, .int .i64 ks] 95)) := (Ext.refl _).alloc _
  have ik := heap_alloc_new w5 (.cells #[.int .i64 sb, .int .i64 ks] 95)
  have i0 : (w5.alloc (.cells #[.int .i64 sb, .int .i64 ks] 95)).cell? ⟨w5.heap.size, 0, none⟩ = some (.int .i64 sb) := cell_blk ik 0 rfl
  have i1 : (w5.alloc (.cells #[.int .i64 sb, .int .i64 ks] 95)).cell? ⟨w5.heap.size, 1, none⟩ = some (.int .i64 ks) := cell_blk ik 1 rfl
  have hib : w.heap.size ≤ w5.heap.size := hx0.size
  rw [hnb] at hib
  replace a0 := hx1.cell a0
  replace a1 := hx1.cell a1
  replace m0 := hx1.cell m0
  replace hb := hx1.block hb
  replace hx0 := hx0.trans hx1
  replace HI := Lib.hid (HI.out.ext hx1)
  replace HV := Lib.hid (HV.out.ext hx1)
  replace HM := Lib.hid (HM.out.ext hx1)
  replace HN := Lib.hid (HN.out.ext hx1)
  replace MK := Lib.hid (hx1.block MK.out)
  clear hx1 ik
  generalize (w5.alloc (.cells #[.int .i64 sb, .int .i64 ks] 95)) = w6 at *
  generalize w5.heap.size = ib at *
  have c4 : w6.cell? ⟨xb, 4, none⟩ = some (.int .i64 t) := cell_blk hb 4 rfl
  have keep : Hid (∀ W', Ext w6 W' → W'.cell? ⟨ib, 0, none⟩ = some (.int .i64 sb)) := Lib.hid fun W' hE => hE.cell i0
  have keep2 : Hid (∀ W', Ext w6 W' → ∀ v, (W'.setCell ⟨xb, 4, none⟩ v).cell? ⟨ib, 0, none⟩ = some (.int .i64 sb)) := Lib.hid fun W' hE v => (World.cell?_setCell_far _ _ _ v (by show xb ≠ ib; omega)).trans (hE.cell i0)
  refine wp_region_noPanic ?_
  refine wp_region_held_drew (S := fun w' => w'.cell? ⟨ib, 0, none⟩ = some (.int .i64 sb)) (by kernel_rfl) ?_ (fun hHeld => ?_)
  · exact keep.out _ (Ext.refl w6).drew
  refine wpAnyH_take (i := 0) (v := ?_) rfl (by kernel_rfl) (by kernel_rfl) (by kernel_rfl) (fun _ _ _ h => h) (Or.inl ⟨by rfl, ?_⟩) (by assumption) ?_
  rotate_left
  · intro w hSw
    try dsimp only at hSw
    go_simp
    try with_reducible rfl
  try simp only [Act.put]
  try simp only [List.setIfInBounds_toArray]
  try simp only [List.set_cons_succ]
  try simp only [List.set_cons_zero]
  refine wpAnyH_take (i := 1) (v := ?_) rfl (by kernel_rfl) (by kernel_rfl) (by kernel_rfl) (fun _ _ _ h => h) (Or.inl ⟨by rfl, ?_⟩) (by assumption) ?_
  rotate_left
  · intro w hSw
    try dsimp only at hSw
    go_simp
    try with_reducible rfl
  try simp only [Act.put]
  try simp only [List.setIfInBounds_toArray]
  try simp only [List.set_cons_succ]
  try simp only [List.set_cons_zero]
  refine wpAnyH_take (i := 2) (v := ?_) rfl (by kernel_rfl) (by kernel_rfl) (by kernel_rfl) (fun _ _ _ h => h) (Or.inl ⟨by rfl, ?_⟩) (by assumption) ?_
  rotate_left
  · intro w hSw
    try dsimp only at hSw
    go_simp
    try with_reducible rfl
  try simp only [Act.put]
  try simp only [List.setIfInBounds_toArray]
  try simp only [List.set_cons_succ]
  try simp only [List.set_cons_zero]
  refine wpAnyH_take (i := 4) (v := ?_) rfl (by kernel_rfl) (by kernel_rfl) (by kernel_rfl) (fun _ _ _ h => h) (Or.inl ⟨by rfl, ?_⟩) (by assumption) ?_
  rotate_left
  · intro w hSw
    try dsimp only at hSw
    go_simp
    try with_reducible rfl
  try simp only [Act.put]
  try simp only [List.setIfInBounds_toArray]
  try simp only [List.set_cons_succ]
  try simp only [List.set_cons_zero]
  refine wpAnyH_take (i := 5) (v := ?_) rfl (by kernel_rfl) (by kernel_rfl) (by kernel_rfl) (fun _ _ _ h => h) (Or.inl ⟨by rfl, ?_⟩) (by assumption) ?_
  rotate_left
  · intro w hSw
    try dsimp only at hSw
    go_simp
    try with_reducible rfl
  try simp only [Act.put]
  try simp only [List.setIfInBounds_toArray]
  try simp only [List.set_cons_succ]
  try simp only [List.set_cons_zero]
  refine wpAnyH_ready (rs := [3]) (by kernel_rfl) (by simp) ?_
  refine AllReadyH.cons rfl (fun K hK => ?_) AllReadyH.nil
  have e5' := (show Ext w6 w6.drew from (Ext.refl w6).drew).cell c4
  go_simp
  clear e5'
  refine hK.out _ _ ?_ (fun hHeld2 => ?_)
  · exact keep.out _ (Ext.refl w6).drew
  clear hHeld
  have hHeld := hHeld2
  clear hHeld2 hK K
  try simp only [Act.put]
  try simp only [List.setIfInBounds_toArray]
  try simp only [List.set_cons_succ]
  try simp only [List.set_cons_zero]
  refine wpAnyH_take (i := 6) (v := ?_) rfl (by kernel_rfl) (by kernel_rfl) (by kernel_rfl) (fun _ _ _ h => h) (Or.inl ⟨by rfl, ?_⟩) (by assumption) ?_
  rotate_left
  · intro w hSw
    try dsimp only at hSw
    go_simp
    try with_reducible rfl
  try simp only [Act.put]
  try simp only [List.setIfInBounds_toArray]
  try simp only [List.set_cons_succ]
  try simp only [List.set_cons_zero]
  refine wpAnyH_take (i := 7) (v := ?_) rfl (by kernel_rfl) (by kernel_rfl) (by kernel_rfl) (fun _ _ _ h => h) (Or.inl ⟨by rfl, ?_⟩) (by assumption) ?_
  rotate_left
  · intro w hSw
    try dsimp only at hSw
    go_simp
    try with_reducible rfl
  try simp only [Act.put]
  try simp only [List.setIfInBounds_toArray]
  try simp only [List.set_cons_succ]
  try simp only [List.set_cons_zero]
  refine wpAnyH_take (i := 8) (v := ?_) rfl (by kernel_rfl) (by kernel_rfl) (by kernel_rfl) (fun _ _ _ h => h) (Or.inl ⟨by rfl, ?_⟩) (by assumption) ?_
  rotate_left
  · intro w hSw
    try dsimp only at hSw
    go_simp
    try with_reducible rfl
  try simp only [Act.put]
  try simp only [List.setIfInBounds_toArray]
  try simp only [List.set_cons_succ]
  try simp only [List.set_cons_zero]
  refine wpAnyH_ready (rs := [9]) (by kernel_rfl) (by simp) ?_
  refine AllReadyH.cons rfl (fun K hK => ?_) AllReadyH.nil
  have q1 := (show Ext w6 w6.drew from (Ext.refl w6).drew).cell c4
  have q2 : w6.drew.frozen? ⟨xb, 4, none⟩ = false := frozen_blk ((show Ext w6 w6.drew from (Ext.refl w6).drew).block hb) 4
  go_simp
  refine hK.out _ _ ?_ (fun hHeld2 => ?_)
  · exact keep2.out _ (Ext.refl w6).drew _
  clear hHeld hHeld2 hK K q1 q2
  try simp only [Act.put]
  try simp only [List.setIfInBounds_toArray]
  try simp only [List.set_cons_succ]
  try simp only [List.set_cons_zero]
  refine wpAnyH_done (by kernel_rfl) ?_ _
  refine noPanic_intro ?_
  clear keep keep2 c4
  have hap : Apt xb w6 := Apt.ix hb
  have hd : Ext (w6.setCell ⟨xb, 4, none⟩ (.int .i64 (t - sb))) (w6.setCell ⟨xb, 4, none⟩ (.int .i64 (t - sb))).drew := (Ext.refl _).drew
  have hb2 := hd.block (heap_setCell_same w6 xb 4 _ _ (.int .i64 (t - sb)) hb)
  replace HI := Lib.hid ((HI.out.set hap 4 (.int .i64 (t - sb))).ext hd)
  replace HV := Lib.hid ((HV.out.set hap 4 (.int .i64 (t - sb))).ext hd)
  replace HM := Lib.hid ((HM.out.set hap 4 (.int .i64 (t - sb))).ext hd)
  replace HN := Lib.hid ((HN.out.set hap 4 (.int .i64 (t - sb))).ext hd)
  replace MK := Lib.hid (hd.block ((Below.heap_setCell w6 ⟨xb, 4, none⟩ (.int .i64 (t - sb)) mb (by show mb ≠ xb; omega)).trans MK.out))
  replace a0 := hd.cell ((World.cell?_setCell_far w6 ⟨xb, 4, none⟩ ⟨nb, 0, none⟩ (.int .i64 (t - sb)) (by show xb ≠ nb; omega)).trans a0)
  replace a1 := hd.cell ((World.cell?_setCell_far w6 ⟨xb, 4, none⟩ ⟨nb, 1, none⟩ (.int .i64 (t - sb)) (by show xb ≠ nb; omega)).trans a1)
  replace m0 := hd.cell ((World.cell?_setCell_far w6 ⟨xb, 4, none⟩ ⟨mb, 0, none⟩ (.int .i64 (t - sb)) (by show xb ≠ mb; omega)).trans m0)
  replace i1 := hd.cell ((World.cell?_setCell_far w6 ⟨xb, 4, none⟩ ⟨ib, 1, none⟩ (.int .i64 (t - sb)) (by show xb ≠ ib; omega)).trans i1)
  have hCH := Lib.hid (((Chx.of_ext (xb := xb) hx0).set 4 (.int .i64 (t - sb))).drew)
  clear hd hap hb hx0 i0
  go_upto_region 6 with (fail)
  generalize (w6.setCell ⟨xb, 4, none⟩ (.int .i64 (t - sb))).drew = w7 at *
  have HB := Lib.hid (show w7.heap[xb]? = some (.cells #[.int .i64 u, .pointer p, .pointer q, .int .i64 c0, .int .i64 (t - sb)] 77 (0, 0)) from hb2)
  have c2 : w7.cell? ⟨xb, 2, none⟩ = some (.pointer q) := cell_blk HB.out 2 rfl
  have HC : Hid (∀ W, Ext w7 W → Calls Tryz.prog 41 #[.agg #[.pointer q], .int .u64 ks] W (NmPost W (dropL ks lc))) := Lib.hid fun W hx => nmdrop_calls q lc ks W (HN.out.ext hx) hk64 HCL.out.2.1
  have keep : Hid (∀ W', Ext w7 W' → W'.cell? ⟨ib, 1, none⟩ = some (.int .i64 ks)) := Lib.hid fun W' hE => hE.cell i1
  have keep2 : Hid (∀ W', Ext w7 W' → ∀ v, (W'.setCell ⟨xb, 2, none⟩ v).cell? ⟨ib, 1, none⟩ = some (.int .i64 ks)) := Lib.hid fun W' hE v => (World.cell?_setCell_far _ _ _ v (by show xb ≠ ib; omega)).trans (hE.cell i1)
  clear hb2
  refine wp_region_noPanic ?_
  refine wp_region_held_drew (S := fun w' => w'.cell? ⟨ib, 1, none⟩ = some (.int .i64 ks)) (by kernel_rfl) ?_ (fun hHeld => ?_)
  · exact keep.out _ (Ext.refl w7).drew
  refine wpAnyH_take (i := 0) (v := ?_) rfl (by kernel_rfl) (by kernel_rfl) (by kernel_rfl) (fun _ _ _ h => h) (Or.inl ⟨by rfl, ?_⟩) (by assumption) ?_
  rotate_left
  · intro w hSw
    try dsimp only at hSw
    go_simp
    try with_reducible rfl
  try simp only [Act.put]
  try simp only [List.setIfInBounds_toArray]
  try simp only [List.set_cons_succ]
  try simp only [List.set_cons_zero]
  refine wpAnyH_take (i := 1) (v := ?_) rfl (by kernel_rfl) (by kernel_rfl) (by kernel_rfl) (fun _ _ _ h => h) (Or.inl ⟨by rfl, ?_⟩) (by assumption) ?_
  rotate_left
  · intro w hSw
    try dsimp only at hSw
    go_simp
    try with_reducible rfl
  try simp only [Act.put]
  try simp only [List.setIfInBounds_toArray]
  try simp only [List.set_cons_succ]
  try simp only [List.set_cons_zero]
  refine wpAnyH_take (i := 2) (v := ?_) rfl (by kernel_rfl) (by kernel_rfl) (by kernel_rfl) (fun _ _ _ h => h) (Or.inl ⟨by rfl, ?_⟩) (by assumption) ?_
  rotate_left
  · intro w hSw
    try dsimp only at hSw
    go_simp
    try with_reducible rfl
  try simp only [Act.put]
  try simp only [List.setIfInBounds_toArray]
  try simp only [List.set_cons_succ]
  try simp only [List.set_cons_zero]
  refine wpAnyH_take (i := 3) (v := ?_) rfl (by kernel_rfl) (by kernel_rfl) (by kernel_rfl) (fun _ _ _ h => h) (Or.inl ⟨by rfl, ?_⟩) (by assumption) ?_
  rotate_left
  · intro w hSw
    try dsimp only at hSw
    go_simp
    try with_reducible rfl
  try simp only [Act.put]
  try simp only [List.setIfInBounds_toArray]
  try simp only [List.set_cons_succ]
  try simp only [List.set_cons_zero]
  refine wpAnyH_take (i := 5) (v := ?_) rfl (by kernel_rfl) (by kernel_rfl) (by kernel_rfl) (fun _ _ _ h => h) (Or.inl ⟨by rfl, ?_⟩) (by assumption) ?_
  rotate_left
  · intro w hSw
    try dsimp only at hSw
    go_simp
    try with_reducible rfl
  try simp only [Act.put]
  try simp only [List.setIfInBounds_toArray]
  try simp only [List.set_cons_succ]
  try simp only [List.set_cons_zero]
  refine wpAnyH_take (i := 6) (v := ?_) rfl (by kernel_rfl) (by kernel_rfl) (by kernel_rfl) (fun _ _ _ h => h) (Or.inl ⟨by rfl, ?_⟩) (by assumption) ?_
  rotate_left
  · intro w hSw
    try dsimp only at hSw
    go_simp
    try with_reducible rfl
  try simp only [Act.put]
  try simp only [List.setIfInBounds_toArray]
  try simp only [List.set_cons_succ]
  try simp only [List.set_cons_zero]
  refine wpAnyH_take (i := 7) (v := ?_) rfl (by kernel_rfl) (by kernel_rfl) (by kernel_rfl) (fun _ _ _ h => h) (Or.inl ⟨by rfl, ?_⟩) (by assumption) ?_
  rotate_left
  · intro w hSw
    try dsimp only at hSw
    go_simp
    try with_reducible rfl
  try simp only [Act.put]
  try simp only [List.setIfInBounds_toArray]
  try simp only [List.set_cons_succ]
  try simp only [List.set_cons_zero]
  refine wpAnyH_ready (rs := [4]) (by kernel_rfl) (by simp) ?_
  refine AllReadyH.cons rfl (fun K hK => ?_) AllReadyH.nil
  have e5' := (show Ext w7 w7.drew from (Ext.refl w7).drew).cell c2
  go_simp
  clear e5'
  refine hK.out _ _ ?_ (fun hHeld2 => ?_)
  · exact keep.out _ (Ext.refl w7).drew
  clear hHeld
  have hHeld := hHeld2
  clear hHeld2 hK K
  try simp only [Act.put]
  try simp only [List.setIfInBounds_toArray]
  try simp only [List.set_cons_succ]
  try simp only [List.set_cons_zero]
  refine wpAnyH_ready (rs := [8]) (by kernel_rfl) (by simp) ?_
  refine AllReadyH.cons rfl (fun K hK => ?_) AllReadyH.nil
  go_simp
  refine (HC.out _ (Ext.refl w7).drew).mono ?_
  rintro e wc ⟨qc, rfl, hic, hxc⟩
  replace hxc := (show Ext w7 w7.drew from (Ext.refl w7).drew).trans hxc
  have q1 := hxc.cell c2
  have q2 : wc.frozen? ⟨xb, 2, none⟩ = false := frozen_blk (hxc.block HB.out) 2
  go_simp
  refine hK.out _ _ ?_ (fun hHeld2 => ?_)
  · exact keep.out _ hxc
  clear hHeld
  have hHeld := hHeld2
  clear hHeld2 hK K
  try simp only [Act.put]
  try simp only [List.setIfInBounds_toArray]
  try simp only [List.set_cons_succ]
  try simp only [List.set_cons_zero]
  refine wpAnyH_take (i := 9) (v := ?_) rfl (by kernel_rfl) (by kernel_rfl) (by kernel_rfl) (fun _ _ _ h => h) (Or.inl ⟨by rfl, ?_⟩) (by assumption) ?_
  rotate_left
  · intro w hSw
    try dsimp only at hSw
    go_simp
    try with_reducible rfl
  try simp only [Act.put]
  try simp only [List.setIfInBounds_toArray]
  try simp only [List.set_cons_succ]
  try simp only [List.set_cons_zero]
  refine wpAnyH_take (i := 10) (v := ?_) rfl (by kernel_rfl) (by kernel_rfl) (by kernel_rfl) (fun _ _ _ h => h) (Or.inl ⟨by rfl, ?_⟩) (by assumption) ?_
  rotate_left
  · intro w hSw
    try dsimp only at hSw
    go_simp
    try with_reducible rfl
  try simp only [Act.put]
  try simp only [List.setIfInBounds_toArray]
  try simp only [List.set_cons_succ]
  try simp only [List.set_cons_zero]
  refine wpAnyH_ready (rs := [11]) (by kernel_rfl) (by simp) ?_
  refine AllReadyH.cons rfl (fun K hK => ?_) AllReadyH.nil
  go_simp
  refine hK.out _ _ ?_ (fun hHeld2 => ?_)
  · exact keep2.out _ hxc _
  clear hHeld hHeld2 hK K q1 q2
  try simp only [Act.put]
  try simp only [List.setIfInBounds_toArray]
  try simp only [List.set_cons_succ]
  try simp only [List.set_cons_zero]
  refine wpAnyH_done (by kernel_rfl) ?_ _
  refine noPanic_intro ?_
  clear keep keep2 c2 HC i1
  have hbc := hxc.block HB.out
  have hap : Apt xb wc := Apt.ix hbc
  have hb2 := heap_setCell_same wc xb 2 _ _ (.pointer qc) hbc
  replace HI := Lib.hid ((HI.out.ext hxc).set hap 2 (.pointer qc))
  replace HV := Lib.hid ((HV.out.ext hxc).set hap 2 (.pointer qc))
  replace HM := Lib.hid ((HM.out.ext hxc).set hap 2 (.pointer qc))
  replace HN := Lib.hid (hic.set hap 2 (.pointer qc))
  replace MK := Lib.hid ((Below.heap_setCell wc ⟨xb, 2, none⟩ (.pointer qc) mb (by show mb ≠ xb; omega)).trans (hxc.block MK.out))
  replace a0 := (World.cell?_setCell_far _ ⟨xb, 2, none⟩ ⟨nb, 0, none⟩ (.pointer qc) (by show xb ≠ nb; omega)).trans (hxc.cell a0)
  replace a1 := (World.cell?_setCell_far _ ⟨xb, 2, none⟩ ⟨nb, 1, none⟩ (.pointer qc) (by show xb ≠ nb; omega)).trans (hxc.cell a1)
  replace m0 := (World.cell?_setCell_far _ ⟨xb, 2, none⟩ ⟨mb, 0, none⟩ (.pointer qc) (by show xb ≠ mb; omega)).trans (hxc.cell m0)
  replace hCH := Lib.hid ((hCH.out.trans (Chx.of_ext hxc)).set 2 (.pointer qc))
  clear hbc hap hic hxc HB
  go_upto_region 7 with (fail)
  generalize wc.setCell ⟨xb, 2, none⟩ (.pointer qc) = w8 at *
  have HB := Lib.hid (show w8.heap[xb]? = some (.cells #[.int .i64 u, .pointer p, .pointer qc, .int .i64 c0, .int .i64 (t - sb)] 77 (0, 0)) from hb2)
  clear hb2
  go_wp2_with fail
  refine (itdrop_calls pm li kn w8 HI.out hk HCL.out.2.2).mono ?_
  rintro e wd ⟨pd, rfl, hid, hxd⟩
  have mkd := hxd.block MK.out
  have md : wd.cell? ⟨mb, 0, none⟩ = some (.pointer pm) := cell_blk mkd 0 rfl
  have fd : wd.frozen? ⟨mb, 0, none⟩ = false := frozen_blk mkd 0
  have hap : Apt mb wd := Apt.map mkd
  have mk2 := heap_setCell_same wd mb 0 _ _ (.pointer pd) mkd
  replace HI := Lib.hid (hid.set hap 0 (.pointer pd))
  replace HV := Lib.hid ((HV.out.ext hxd).set hap 0 (.pointer pd))
  replace HM := Lib.hid ((HM.out.ext hxd).set hap 0 (.pointer pd))
  replace HN := Lib.hid ((HN.out.ext hxd).set hap 0 (.pointer pd))
  replace HB := Lib.hid ((Below.heap_setCell wd ⟨mb, 0, none⟩ (.pointer pd) xb (by show xb ≠ mb; omega)).trans (hxd.block HB.out))
  have hmn : mb ≠ nb := HMN.out
  replace a0 := (World.cell?_setCell_far _ ⟨mb, 0, none⟩ ⟨nb, 0, none⟩ (.pointer pd) (by show mb ≠ nb; omega)).trans (hxd.cell a0)
  replace hCH := Lib.hid ((hCH.out.trans (Chx.of_ext hxd)).setNew (mb := mb) (by omega) 0 (.pointer pd))
  clear m0 a1 MK hap hid hxd mkd
  go_upto_region 8 with (fail)
  clear md fd
  generalize wd.setCell ⟨mb, 0, none⟩ (.pointer pd) = w8' at *
  have m0 : w8'.cell? ⟨mb, 0, none⟩ = some (.pointer pd) := cell_blk mk2 0 rfl
  go_wp2_with fail
  refine (itlen_calls pd (dropL kn li) w8' HI.out).mono ?_
  rintro e w9 ⟨rfl, hx9⟩
  replace a0 := hx9.cell a0
  replace m0 := hx9.cell m0
  replace HI := Lib.hid (HI.out.ext hx9)
  replace HV := Lib.hid (HV.out.ext hx9)
  replace HM := Lib.hid (HM.out.ext hx9)
  replace HN := Lib.hid (HN.out.ext hx9)
  replace HB := Lib.hid (hx9.block HB.out)
  replace hCH := Lib.hid (hCH.out.trans (Chx.of_ext hx9))
  clear hx9 mk2
  have c1 : w9.cell? ⟨xb, 1, none⟩ = some (.pointer p) := cell_blk HB.out 1 rfl
  by_cases hz : dropL kn li = []
  · have hz2 : ((dropL kn li).length : Int) = 0 := by rw [hz]; rfl
    rw [hz2]
    have HZ := Lib.hid hz
    have HD : Hid (∀ W, Ext w9 W → Calls Tryz.prog 42 #[.agg #[.pointer p], .int .u64 kv] W (MpPost W (dropL kv lv))) := Lib.hid fun W hx => mpdrop_calls p lv kv W (HM.out.ext hx) (by omega) HCL.out.1
    have keep : Hid (∀ W', Ext w9 W' → W'.cell? ⟨nb, 0, none⟩ = some (.int .i64 kv)) := Lib.hid fun W' hE => hE.cell a0
    have keep2 : Hid (∀ W', Ext w9 W' → ∀ v, (W'.setCell ⟨xb, 1, none⟩ v).cell? ⟨nb, 0, none⟩ = some (.int .i64 kv)) := Lib.hid fun W' hE v => (World.cell?_setCell_far _ _ _ v (by show xb ≠ nb; omega)).trans (hE.cell a0)
    clear hz hz2
    go_upto_region 9 with (fail)
    refine wp_region_noPanic ?_
    refine wp_region_held_drew (S := fun w' => w'.cell? ⟨nb, 0, none⟩ = some (.int .i64 kv)) (by kernel_rfl) ?_ (fun hHeld => ?_)
    · exact keep.out _ (Ext.refl w9).drew
    refine wpAnyH_take (i := 0) (v := ?_) rfl (by kernel_rfl) (by kernel_rfl) (by kernel_rfl) (fun _ _ _ h => h) (Or.inl ⟨by rfl, ?_⟩) (by assumption) ?_
    rotate_left
    · intro w hSw
      try dsimp only at hSw
      go_simp
      try with_reducible rfl
    try simp only [Act.put]
    try simp only [List.setIfInBounds_toArray]
    try simp only [List.set_cons_succ]
    try simp only [List.set_cons_zero]
    refine wpAnyH_take (i := 1) (v := ?_) rfl (by kernel_rfl) (by kernel_rfl) (by kernel_rfl) (fun _ _ _ h => h) (Or.inl ⟨by rfl, ?_⟩) (by assumption) ?_
    rotate_left
    · intro w hSw
      try dsimp only at hSw
      go_simp
      try with_reducible rfl
    try simp only [Act.put]
    try simp only [List.setIfInBounds_toArray]
    try simp only [List.set_cons_succ]
    try simp only [List.set_cons_zero]
    refine wpAnyH_take (i := 2) (v := ?_) rfl (by kernel_rfl) (by kernel_rfl) (by kernel_rfl) (fun _ _ _ h => h) (Or.inl ⟨by rfl, ?_⟩) (by assumption) ?_
    rotate_left
    · intro w hSw
      try dsimp only at hSw
      go_simp
      try with_reducible rfl
    try simp only [Act.put]
    try simp only [List.setIfInBounds_toArray]
    try simp only [List.set_cons_succ]
    try simp only [List.set_cons_zero]
    refine wpAnyH_take (i := 3) (v := ?_) rfl (by kernel_rfl) (by kernel_rfl) (by kernel_rfl) (fun _ _ _ h => h) (Or.inl ⟨by rfl, ?_⟩) (by assumption) ?_
    rotate_left
    · intro w hSw
      try dsimp only at hSw
      go_simp
      try with_reducible rfl
    try simp only [Act.put]
    try simp only [List.setIfInBounds_toArray]
    try simp only [List.set_cons_succ]
    try simp only [List.set_cons_zero]
    refine wpAnyH_take (i := 5) (v := ?_) rfl (by kernel_rfl) (by kernel_rfl) (by kernel_rfl) (fun _ _ _ h => h) (Or.inl ⟨by rfl, ?_⟩) (by assumption) ?_
    rotate_left
    · intro w hSw
      try dsimp only at hSw
      go_simp
      try with_reducible rfl
    try simp only [Act.put]
    try simp only [List.setIfInBounds_toArray]
    try simp only [List.set_cons_succ]
    try simp only [List.set_cons_zero]
    refine wpAnyH_take (i := 6) (v := ?_) rfl (by kernel_rfl) (by kernel_rfl) (by kernel_rfl) (fun _ _ _ h => h) (Or.inl ⟨by rfl, ?_⟩) (by assumption) ?_
    rotate_left
    · intro w hSw
      try dsimp only at hSw
      go_simp
      try with_reducible rfl
    try simp only [Act.put]
    try simp only [List.setIfInBounds_toArray]
    try simp only [List.set_cons_succ]
    try simp only [List.set_cons_zero]
    refine wpAnyH_take (i := 7) (v := ?_) rfl (by kernel_rfl) (by kernel_rfl) (by kernel_rfl) (fun _ _ _ h => h) (Or.inl ⟨by rfl, ?_⟩) (by assumption) ?_
    rotate_left
    · intro w hSw
      try dsimp only at hSw
      go_simp
      try with_reducible rfl
    try simp only [Act.put]
    try simp only [List.setIfInBounds_toArray]
    try simp only [List.set_cons_succ]
    try simp only [List.set_cons_zero]
    refine wpAnyH_ready (rs := [4]) (by kernel_rfl) (by simp) ?_
    refine AllReadyH.cons rfl (fun K hK => ?_) AllReadyH.nil
    have e5' := (show Ext w9 w9.drew from (Ext.refl w9).drew).cell c1
    go_simp
    clear e5'
    refine hK.out _ _ ?_ (fun hHeld2 => ?_)
    · exact keep.out _ (Ext.refl w9).drew
    clear hHeld
    have hHeld := hHeld2
    clear hHeld2 hK K
    try simp only [Act.put]
    try simp only [List.setIfInBounds_toArray]
    try simp only [List.set_cons_succ]
    try simp only [List.set_cons_zero]
    refine wpAnyH_ready (rs := [8]) (by kernel_rfl) (by simp) ?_
    refine AllReadyH.cons rfl (fun K hK => ?_) AllReadyH.nil
    go_simp
    refine (HD.out _ (Ext.refl w9).drew).mono ?_
    rintro e wc ⟨pv, rfl, hic, hxc⟩
    replace hxc := (show Ext w9 w9.drew from (Ext.refl w9).drew).trans hxc
    have q1 := hxc.cell c1
    have q2 : wc.frozen? ⟨xb, 1, none⟩ = false := frozen_blk (hxc.block HB.out) 1
    go_simp
    refine hK.out _ _ ?_ (fun hHeld2 => ?_)
    · exact keep.out _ hxc
    clear hHeld
    have hHeld := hHeld2
    clear hHeld2 hK K
    try simp only [Act.put]
    try simp only [List.setIfInBounds_toArray]
    try simp only [List.set_cons_succ]
    try simp only [List.set_cons_zero]
    refine wpAnyH_take (i := 9) (v := ?_) rfl (by kernel_rfl) (by kernel_rfl) (by kernel_rfl) (fun _ _ _ h => h) (Or.inl ⟨by rfl, ?_⟩) (by assumption) ?_
    rotate_left
    · intro w hSw
      try dsimp only at hSw
      go_simp
      try with_reducible rfl
    try simp only [Act.put]
    try simp only [List.setIfInBounds_toArray]
    try simp only [List.set_cons_succ]
    try simp only [List.set_cons_zero]
    refine wpAnyH_take (i := 10) (v := ?_) rfl (by kernel_rfl) (by kernel_rfl) (by kernel_rfl) (fun _ _ _ h => h) (Or.inl ⟨by rfl, ?_⟩) (by assumption) ?_
    rotate_left
    · intro w hSw
      try dsimp only at hSw
      go_simp
      try with_reducible rfl
    try simp only [Act.put]
    try simp only [List.setIfInBounds_toArray]
    try simp only [List.set_cons_succ]
    try simp only [List.set_cons_zero]
    refine wpAnyH_ready (rs := [11]) (by kernel_rfl) (by simp) ?_
    refine AllReadyH.cons rfl (fun K hK => ?_) AllReadyH.nil
    go_simp
    refine hK.out _ _ ?_ (fun hHeld2 => ?_)
    · exact keep2.out _ hxc _
    clear hHeld hHeld2 hK K q1 q2
    try simp only [Act.put]
    try simp only [List.setIfInBounds_toArray]
    try simp only [List.set_cons_succ]
    try simp only [List.set_cons_zero]
    refine wpAnyH_done (by kernel_rfl) ?_ _
    refine noPanic_intro ?_
    have hap : Apt xb wc := Apt.ix (hxc.block HB.out)
    go_wp2
    go_ret
    exact ⟨rfl, by rw [HCX.out]; exact HF0.out _ pv qc lv (heap_setCell_same wc xb 1 _ _ _ (hxc.block HB.out)) ((HV.out.ext hxc).set hap 1 _) (hic.set hap 1 _) HZ.out ((HN.out.ext hxc).set hap 1 _), (hCH.out.trans (Chx.of_ext hxc)).set 1 _⟩
  · have hz2 : (((dropL kn li).length : Int) == 0) = false := beq_eq_false_iff_ne.2 (fun e => hz (List.length_eq_zero_iff.1 (by omega)))
    have hz3 : ((dropL kn li).length : Int) ≠ 0 := fun e => hz (List.length_eq_zero_iff.1 (by omega))
    have HZ := Lib.hid hz
    have HP : Hid (∀ W, Ext w9 W → Calls Tryz.prog 36 #[.agg #[.pointer p], .int .u64 kv, .agg #[.pointer pd]] W (MpPost W (putL kv pd lv))) := Lib.hid fun W hx => mpput_calls p lv kv pd W (HM.out.ext hx) (by omega) HCL.out.1
    have keep : Hid (∀ W', Ext w9 W' → W'.cell? ⟨nb, 0, none⟩ = some (.int .i64 kv) ∧ W'.cell? ⟨mb, 0, none⟩ = some (.pointer pd)) := Lib.hid fun W' hE => ⟨hE.cell a0, hE.cell m0⟩
    have keep2 : Hid (∀ W', Ext w9 W' → ∀ v, (W'.setCell ⟨xb, 1, none⟩ v).cell? ⟨nb, 0, none⟩ = some (.int .i64 kv) ∧ (W'.setCell ⟨xb, 1, none⟩ v).cell? ⟨mb, 0, none⟩ = some (.pointer pd)) := Lib.hid fun W' hE v => ⟨(World.cell?_setCell_far _ _ _ v (by show xb ≠ nb; omega)).trans (hE.cell a0), (World.cell?_setCell_far _ _ _ v (by show xb ≠ mb; omega)).trans (hE.cell m0)⟩
    generalize hdd : dropL kn li = ld at *
    clear hz hdd
    go_upto_region 10 with (fail)
    refine wp_region_noPanic ?_
    refine wp_region_held_drew (S := fun w' => w'.cell? ⟨nb, 0, none⟩ = some (.int .i64 kv) ∧ w'.cell? ⟨mb, 0, none⟩ = some (.pointer pd)) (by kernel_rfl) ?_ (fun hHeld => ?_)
    · exact keep.out _ (Ext.refl w9).drew
    refine wpAnyH_take (i := 0) (v := ?_) rfl (by kernel_rfl) (by kernel_rfl) (by kernel_rfl) (fun _ _ _ h => h) (Or.inl ⟨by rfl, ?_⟩) (by assumption) ?_
    rotate_left
    · intro w hSw
      try dsimp only at hSw
      go_simp
      try with_reducible rfl
    try simp only [Act.put]
    try simp only [List.setIfInBounds_toArray]
    try simp only [List.set_cons_succ]
    try simp only [List.set_cons_zero]
    refine wpAnyH_take (i := 1) (v := ?_) rfl (by kernel_rfl) (by kernel_rfl) (by kernel_rfl) (fun _ _ _ h => h) (Or.inl ⟨by rfl, ?_⟩) (by assumption) ?_
    rotate_left
    · intro w hSw
      try dsimp only at hSw
      go_simp
      try with_reducible rfl
    try simp only [Act.put]
    try simp only [List.setIfInBounds_toArray]
    try simp only [List.set_cons_succ]
    try simp only [List.set_cons_zero]
    refine wpAnyH_take (i := 2) (v := ?_) rfl (by kernel_rfl) (by kernel_rfl) (by kernel_rfl) (fun _ _ _ h => h) (Or.inl ⟨by rfl, ?_⟩) (by assumption) ?_
    rotate_left
    · intro w hSw
      try dsimp only at hSw
      go_simp
      try with_reducible rfl
    try simp only [Act.put]
    try simp only [List.setIfInBounds_toArray]
    try simp only [List.set_cons_succ]
    try simp only [List.set_cons_zero]
    refine wpAnyH_take (i := 3) (v := ?_) rfl (by kernel_rfl) (by kernel_rfl) (by kernel_rfl) (fun _ _ _ h => h) (Or.inl ⟨by rfl, ?_⟩) (by assumption) ?_
    rotate_left
    · intro w hSw
      try dsimp only at hSw
      go_simp
      try with_reducible rfl
    try simp only [Act.put]
    try simp only [List.setIfInBounds_toArray]
    try simp only [List.set_cons_succ]
    try simp only [List.set_cons_zero]
    refine wpAnyH_take (i := 5) (v := ?_) rfl (by kernel_rfl) (by kernel_rfl) (by kernel_rfl) (fun _ _ _ h => h) (Or.inl ⟨by rfl, ?_⟩) (by assumption) ?_
    rotate_left
    · intro w hSw
      try dsimp only at hSw
      go_simp
      try with_reducible rfl
    try simp only [Act.put]
    try simp only [List.setIfInBounds_toArray]
    try simp only [List.set_cons_succ]
    try simp only [List.set_cons_zero]
    refine wpAnyH_take (i := 6) (v := ?_) rfl (by kernel_rfl) (by kernel_rfl) (by kernel_rfl) (fun _ _ _ h => h) (Or.inl ⟨by rfl, ?_⟩) (by assumption) ?_
    rotate_left
    · intro w hSw
      try dsimp only at hSw
      go_simp
      try with_reducible rfl
    try simp only [Act.put]
    try simp only [List.setIfInBounds_toArray]
    try simp only [List.set_cons_succ]
    try simp only [List.set_cons_zero]
    refine wpAnyH_take (i := 7) (v := ?_) rfl (by kernel_rfl) (by kernel_rfl) (by kernel_rfl) (fun _ _ _ h => h) (Or.inl ⟨by rfl, ?_⟩) (by assumption) ?_
    rotate_left
    · intro w hSw
      try dsimp only at hSw
      go_simp
      try with_reducible rfl
    try simp only [Act.put]
    try simp only [List.setIfInBounds_toArray]
    try simp only [List.set_cons_succ]
    try simp only [List.set_cons_zero]
    refine wpAnyH_take (i := 8) (v := ?_) rfl (by kernel_rfl) (by kernel_rfl) (by kernel_rfl) (fun _ _ _ h => h) (Or.inl ⟨by rfl, ?_⟩) (by assumption) ?_
    rotate_left
    · intro w hSw
      try dsimp only at hSw
      go_simp
      try with_reducible rfl
    try simp only [Act.put]
    try simp only [List.setIfInBounds_toArray]
    try simp only [List.set_cons_succ]
    try simp only [List.set_cons_zero]
    refine wpAnyH_ready (rs := [4]) (by kernel_rfl) (by simp) ?_
    refine AllReadyH.cons rfl (fun K hK => ?_) AllReadyH.nil
    have e5' := (show Ext w9 w9.drew from (Ext.refl w9).drew).cell c1
    go_simp
    clear e5'
    refine hK.out _ _ ?_ (fun hHeld2 => ?_)
    · exact keep.out _ (Ext.refl w9).drew
    clear hHeld
    have hHeld := hHeld2
    clear hHeld2 hK K
    try simp only [Act.put]
    try simp only [List.setIfInBounds_toArray]
    try simp only [List.set_cons_succ]
    try simp only [List.set_cons_zero]
    refine wpAnyH_ready (rs := [9]) (by kernel_rfl) (by simp) ?_
    refine AllReadyH.cons rfl (fun K hK => ?_) AllReadyH.nil
    go_simp
    refine (HP.out _ (Ext.refl w9).drew).mono ?_
    rintro e wc ⟨pv, rfl, hic, hxc⟩
    replace hxc := (show Ext w9 w9.drew from (Ext.refl w9).drew).trans hxc
    have q1 := hxc.cell c1
    have q2 : wc.frozen? ⟨xb, 1, none⟩ = false := frozen_blk (hxc.block HB.out) 1
    go_simp
    refine hK.out _ _ ?_ (fun hHeld2 => ?_)
    · exact keep.out _ hxc
    clear hHeld
    have hHeld := hHeld2
    clear hHeld2 hK K
    try simp only [Act.put]
    try simp only [List.setIfInBounds_toArray]
    try simp only [List.set_cons_succ]
    try simp only [List.set_cons_zero]
    refine wpAnyH_take (i := 10) (v := ?_) rfl (by kernel_rfl) (by kernel_rfl) (by kernel_rfl) (fun _ _ _ h => h) (Or.inl ⟨by rfl, ?_⟩) (by assumption) ?_
    rotate_left
    · intro w hSw
      try dsimp only at hSw
      go_simp
      try with_reducible rfl
    try simp only [Act.put]
    try simp only [List.setIfInBounds_toArray]
    try simp only [List.set_cons_succ]
    try simp only [List.set_cons_zero]
    refine wpAnyH_take (i := 11) (v := ?_) rfl (by kernel_rfl) (by kernel_rfl) (by kernel_rfl) (fun _ _ _ h => h) (Or.inl ⟨by rfl, ?_⟩) (by assumption) ?_
    rotate_left
    · intro w hSw
      try dsimp only at hSw
      go_simp
      try with_reducible rfl
    try simp only [Act.put]
    try simp only [List.setIfInBounds_toArray]
    try simp only [List.set_cons_succ]
    try simp only [List.set_cons_zero]
    refine wpAnyH_ready (rs := [12]) (by kernel_rfl) (by simp) ?_
    refine AllReadyH.cons rfl (fun K hK => ?_) AllReadyH.nil
    go_simp
    refine hK.out _ _ ?_ (fun hHeld2 => ?_)
    · exact keep2.out _ hxc _
    clear hHeld hHeld2 hK K q1 q2
    try simp only [Act.put]
    try simp only [List.setIfInBounds_toArray]
    try simp only [List.set_cons_succ]
    try simp only [List.set_cons_zero]
    refine wpAnyH_done (by kernel_rfl) ?_ _
    refine noPanic_intro ?_
    have hap : Apt xb wc := Apt.ix (hxc.block HB.out)
    go_wp2
    go_ret
    exact ⟨rfl, by rw [HCX.out]; exact HF1.out _ pv qc pd lv (heap_setCell_same wc xb 1 _ _ _ (hxc.block HB.out)) ((HV.out.ext hxc).set hap 1 _) HUP.out (hic.set hap 1 _) ((HI.out.ext hxc).set hap 1 _) HZ.out ((HN.out.ext hxc).set hap 1 _), (hCH.out.trans (Chx.of_ext hxc)).set 1 _⟩
theorem xdrop_calls (xb : Nat) (u : Int) (x : Ix) (v n : Int) (w : World) (h : IxAt w xb u x) (hf : Fit u x) (hn : I64 n) :
    Calls Tryz.prog 23 #[.pointer (some ⟨xb, 0, none⟩), .agg #[.int .i64 v, .int .i64 n]] w (XPost w xb u ⟨dropS x.L v n, x.c⟩ (.bool (getS x.L v n).isSome)) := by
  cases hg : getS x.L v n with
  | some s => exact drop_yes xb u x v n s w h hf hg
  | none =>
    have e : dropS x.L v n = x.L := List.filter_eq_self.2 fun s hs => by
      have := getS_none.1 hg s hs
      cases hq : isN v n s with
      | false => rfl
      | true => exact absurd (isN_iff.1 hq) this
    rw [e]
    exact drop_no xb u x v n w h hf hn hg
end Go.Proofs.YtgcplndmhlideaaGreat
