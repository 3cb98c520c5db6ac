/- The walk of the law IndexPlays. -/
import Derived.Test.YtgcplndmhlideaaOpen
namespace Go.Proofs.Ytgcplndmhlideaa
open Go.RowKit

set_option maxRecDepth 100000 in
theorem xbytes_nil (w : World) : Calls Try.prog 9 #[.pointer none] w fun e w' => e = .returned (.int .i64 0) ∧ Ext w w' := by
  go_enter Try.func9, Try.ntmps9
  go_wp2
  go_ret
  exact ⟨rfl, Ext.refl w⟩

set_option maxHeartbeats 2000000 in
set_option maxRecDepth 100000 in
theorem lawPlays_calls (u : Int) (A : Option Addr) (c : Nat) (l : List Ac) (w : World) (h : ActsIn w A l) : Calls Try.prog 3 #[.int .i64 u, .slice A l.length c] w fun e w' => e = .returned (.bool true) ∧ Ext w w' := by
  obtain ⟨ha, hi, hm⟩ := h
  go_enter Try.func3, Try.ntmps3
  go_wp2_with fail
  refine (alive_calls w).mono ?_
  rintro e w1 ⟨rfl, hx1⟩
  by_cases hlt : 60 < l.length
  · have hlt2 : (60 : Int) < (l.length : Int) := by omega
    clear ha hi
    go_wp2
    go_ret
    exact ⟨rfl, hx1⟩
  have hle : ¬ (60 : Int) < (l.length : Int) := by omega
  have HP := Lib.hid (play_calls A c l u w1 (ha.ext hx1) hi (by omega))
  have HL := Lib.hid hlt
  clear ha hi hlt
  go_wp2_with fail
  refine HP.out.mono ?_
  rintro e w2 (⟨hu, xb, N, v, rfl, hxb, hxn, hn, hix, hrow, hx2⟩ | ⟨hu, rfl, hx2⟩)
  · obtain ⟨mA, mk, rfl, -⟩ := own_shape (show w2.ownsRow N 42 4 v (playX u l).L.length (slsV (playX u l).L) from hrow)
    have hfw := play_few hu l (by have := HL.out; omega)
    generalize playX u l = X at *
    have hsb : ∀ s ∈ X.L, 0 ≤ s.b ∧ s.b ≤ 1048576 := fun s hs => by have := (hfw.fit.ok.ok s hs).2.2.2.2; have := hfw.fit.u1; omega
    have hll : X.L.length ≤ 1000 := by have := hfw.len; have := HL.out; omega
    have hxa : Ext w2 (w2.alloc (.cells #[.int .i64 u, .int .i64 X.c, .slice mA X.L.length mk] 27)) := (Ext.refl w2).alloc _
    have HMB := Lib.hid (heap_alloc_new w2 (.cells #[.int .i64 u, .int .i64 X.c, .slice mA X.L.length mk] 27))
    have HXW := Lib.hid ((hx1.trans hx2).trans hxa)
    have hix' := hix.ext hxa
    have hrow' := hrow.ext hxa
    have HB1 : Hid (∀ W', Ext (w2.alloc (.cells #[.int .i64 u, .int .i64 X.c, .slice mA X.L.length mk] 27)) W' → Calls Try.prog 9 #[.pointer (some ⟨xb, 0, none⟩)] W' fun e w' => e = .returned (.int .i64 (sumS X.L)) ∧ Ext W' w') := Lib.hid fun W' hx => xbytes_calls xb u X W' (hix'.ext hx)
    have HB2 : Hid (∀ W', Ext (w2.alloc (.cells #[.int .i64 u, .int .i64 X.c, .slice mA X.L.length mk] 27)) W' → Calls Try.prog 10 #[.agg #[.int .i64 u, .int .i64 X.c, .slice mA X.L.length mk]] W' fun e w' => e = .returned (.int .i64 (sumS X.L)) ∧ Ext W' w') := Lib.hid fun W' hx => refbytes_calls u X.c mA mk N X.L W' (hrow'.ext hx) hll hsb
    clear hsb hll hix hix' hrow hrow' hx1 hx2 hxa hxb hxn hn hfw hu HP
    go_upto_region 6 with (fail)
    generalize (w2.alloc (.cells #[.int .i64 u, .int .i64 X.c, .slice mA X.L.length mk] 27)) = w9 at *
    generalize w2.heap.size = mb at *
    generalize X.L.length = mn at *
    generalize X.c = mc at *
    generalize sumS X.L = T at *
    have keep : Hid (∀ W' : World, Ext w9 W' → W'.cell? ⟨mb, 0, none⟩ = some (.int .i64 u) ∧ W'.cell? ⟨mb, 1, none⟩ = some (.int .i64 mc) ∧ W'.cell? ⟨mb, 2, none⟩ = some (.slice mA mn mk)) := Lib.hid fun W' h => ⟨cell_blk (h.block HMB.out) 0 rfl, cell_blk (h.block HMB.out) 1 rfl, cell_blk (h.block HMB.out) 2 rfl⟩
    go_upto_region 6 with (fail)
    refine wp_region_noPanic ?_
    refine wp_region_held_drew (S := fun w' => w'.cell? ⟨mb, 0, none⟩ = some (.int .i64 u) ∧ w'.cell? ⟨mb, 1, none⟩ = some (.int .i64 mc) ∧ w'.cell? ⟨mb, 2, none⟩ = some (.slice mA mn mk)) (by kernel_rfl) ?_ (fun hHeld => ?_)
    · exact keep.out _ (Ext.refl w9).drew
    refine wpAnyH_take (i := 0) (v := ?_) rfl (by kernel_rfl) (by kernel_rfl) (by kernel_rfl) (fun _ _ _ h => h) (Or.inl ⟨by rfl, ?_⟩) (by assumption) ?_
    rotate_left
    · intro w hSw
      try dsimp only at hSw
      go_simp
      try with_reducible rfl
    try simp only [Act.put]
    try simp only [List.setIfInBounds_toArray]
    try simp only [List.set_cons_succ]
    try simp only [List.set_cons_zero]
    refine wpAnyH_take (i := 1) (v := ?_) rfl (by kernel_rfl) (by kernel_rfl) (by kernel_rfl) (fun _ _ _ h => h) (Or.inl ⟨by rfl, ?_⟩) (by assumption) ?_
    rotate_left
    · intro w hSw
      try dsimp only at hSw
      go_simp
      try with_reducible rfl
    try simp only [Act.put]
    try simp only [List.setIfInBounds_toArray]
    try simp only [List.set_cons_succ]
    try simp only [List.set_cons_zero]
    refine wpAnyH_take (i := 2) (v := ?_) rfl (by kernel_rfl) (by kernel_rfl) (by kernel_rfl) (fun _ _ _ h => h) (Or.inl ⟨by rfl, ?_⟩) (by assumption) ?_
    rotate_left
    · intro w hSw
      try dsimp only at hSw
      go_simp
      try with_reducible rfl
    try simp only [Act.put]
    try simp only [List.setIfInBounds_toArray]
    try simp only [List.set_cons_succ]
    try simp only [List.set_cons_zero]
    refine wpAnyH_take (i := 4) (v := ?_) rfl (by kernel_rfl) (by kernel_rfl) (by kernel_rfl) (fun _ _ _ h => h) (Or.inl ⟨by rfl, ?_⟩) (by assumption) ?_
    rotate_left
    · intro w hSw
      try dsimp only at hSw
      go_simp
      try with_reducible rfl
    try simp only [Act.put]
    try simp only [List.setIfInBounds_toArray]
    try simp only [List.set_cons_succ]
    try simp only [List.set_cons_zero]
    refine wpAnyH_ready (rs := [3]) (by kernel_rfl) (by simp) ?_
    refine AllReadyH.cons rfl (fun K hK => ?_) AllReadyH.nil
    go_simp
    refine (HB1.out _ (Ext.refl w9).drew).mono ?_
    rintro e wc ⟨rfl, hxc⟩
    replace hxc := (show Ext w9 w9.drew from (Ext.refl w9).drew).trans hxc
    go_simp
    refine hK.out _ _ ?_ (fun hHeld2 => ?_)
    · exact keep.out _ hxc
    clear hHeld
    have hHeld := hHeld2
    clear hHeld2 hK K
    try simp only [Act.put]
    try simp only [List.setIfInBounds_toArray]
    try simp only [List.set_cons_succ]
    try simp only [List.set_cons_zero]
    refine wpAnyH_ready (rs := [5]) (by kernel_rfl) (by simp) ?_
    refine AllReadyH.cons rfl (fun K hK => ?_) AllReadyH.nil
    go_simp
    refine (HB2.out _ hxc).mono ?_
    rintro e wd ⟨rfl, hxd⟩
    replace hxd := hxc.trans hxd
    go_simp
    refine hK.out _ _ ?_ (fun hHeld2 => ?_)
    · exact keep.out _ hxd
    clear hHeld
    have hHeld := hHeld2
    clear hHeld2 hK K
    try simp only [Act.put]
    try simp only [List.setIfInBounds_toArray]
    try simp only [List.set_cons_succ]
    try simp only [List.set_cons_zero]
    refine wpAnyH_take (i := 6) (v := ?_) rfl (by kernel_rfl) (by kernel_rfl) (by kernel_rfl) (fun _ _ _ h => h) (Or.inl ⟨by rfl, ?_⟩) (by assumption) ?_
    rotate_left
    · intro w hSw
      try dsimp only at hSw
      go_simp
      try with_reducible rfl
    try simp only [Act.put]
    try simp only [List.setIfInBounds_toArray]
    try simp only [List.set_cons_succ]
    try simp only [List.set_cons_zero]
    simp only [List.getElem_toArray, List.getElem_cons_succ, List.getElem_cons_zero]
    try simp only [Act.put]
    try simp only [List.setIfInBounds_toArray]
    try simp only [List.set_cons_succ]
    try simp only [List.set_cons_zero]
    refine wpAnyH_take (i := 7) (v := ?_) rfl (by kernel_rfl) (by kernel_rfl) (by kernel_rfl) (fun _ _ _ h => h) (Or.inl ⟨by rfl, ?_⟩) (by assumption) ?_
    rotate_left
    · intro w hSw
      try dsimp only at hSw
      go_simp
      try with_reducible rfl
    try simp only [Act.put]
    try simp only [List.setIfInBounds_toArray]
    try simp only [List.set_cons_succ]
    try simp only [List.set_cons_zero]
    simp only [List.getElem_toArray, List.getElem_cons_succ, List.getElem_cons_zero]
    try simp only [Act.put]
    try simp only [List.setIfInBounds_toArray]
    try simp only [List.set_cons_succ]
    try simp only [List.set_cons_zero]
    refine wpAnyH_take (i := 8) (v := ?_) rfl (by kernel_rfl) (by kernel_rfl) (by kernel_rfl) (fun _ _ _ h => h) (Or.inl ⟨by rfl, ?_⟩) (by assumption) ?_
    rotate_left
    · intro w hSw
      try dsimp only at hSw
      go_simp
      try with_reducible rfl
    try simp only [Act.put]
    try simp only [List.setIfInBounds_toArray]
    try simp only [List.set_cons_succ]
    try simp only [List.set_cons_zero]
    simp only [List.getElem_toArray, List.getElem_cons_succ, List.getElem_cons_zero]
    try simp only [Act.put]
    try simp only [List.setIfInBounds_toArray]
    try simp only [List.set_cons_succ]
    try simp only [List.set_cons_zero]
    refine wpAnyH_done (by kernel_rfl) ?_ _
    refine noPanic_intro ?_
    go_wp2
    go_ret
    exact ⟨rfl, HXW.out.trans hxd⟩
  · have hxa : Ext w2 (w2.alloc (.cells #[.int .i64 0, .int .i64 0, .slice none 0 0] 27)) := (Ext.refl w2).alloc _
    have HMB := Lib.hid (heap_alloc_new w2 (.cells #[.int .i64 0, .int .i64 0, .slice none 0 0] 27))
    have HXW := Lib.hid ((hx1.trans hx2).trans hxa)
    have HB1 : Hid (∀ W', Ext (w2.alloc (.cells #[.int .i64 0, .int .i64 0, .slice none 0 0] 27)) W' → Calls Try.prog 9 #[.pointer none] W' fun e w' => e = .returned (.int .i64 0) ∧ Ext W' w') := Lib.hid fun W' hx => xbytes_nil W'
    have HB2 : Hid (∀ W', Ext (w2.alloc (.cells #[.int .i64 0, .int .i64 0, .slice none 0 0] 27)) W' → Calls Try.prog 10 #[.agg #[.int .i64 0, .int .i64 0, .slice none 0 0]] W' fun e w' => e = .returned (.int .i64 0) ∧ Ext W' w') := Lib.hid fun W' hx => refbytes_calls 0 0 none 0 W'.heap.size [] W' (RowS.nil _ _) (by simp) (by simp)
    clear hx1 hx2 hxa hu HP
    go_upto_region 6 with (fail)
    generalize (w2.alloc (.cells #[.int .i64 0, .int .i64 0, .slice none 0 0] 27)) = w9 at *
    generalize w2.heap.size = mb at *
    have keep : Hid (∀ W' : World, Ext w9 W' → W'.cell? ⟨mb, 0, none⟩ = some (.int .i64 0) ∧ W'.cell? ⟨mb, 1, none⟩ = some (.int .i64 0) ∧ W'.cell? ⟨mb, 2, none⟩ = some (.slice none 0 0)) := Lib.hid fun W' h => ⟨cell_blk (h.block HMB.out) 0 rfl, cell_blk (h.block HMB.out) 1 rfl, cell_blk (h.block HMB.out) 2 rfl⟩
    go_upto_region 6 with (fail)
    refine wp_region_noPanic ?_
    refine wp_region_held_drew (S := fun w' => w'.cell? ⟨mb, 0, none⟩ = some (.int .i64 0) ∧ w'.cell? ⟨mb, 1, none⟩ = some (.int .i64 0) ∧ w'.cell? ⟨mb, 2, none⟩ = some (.slice none 0 0)) (by kernel_rfl) ?_ (fun hHeld => ?_)
    · exact keep.out _ (Ext.refl w9).drew
    refine wpAnyH_take (i := 0) (v := ?_) rfl (by kernel_rfl) (by kernel_rfl) (by kernel_rfl) (fun _ _ _ h => h) (Or.inl ⟨by rfl, ?_⟩) (by assumption) ?_
    rotate_left
    · intro w hSw
      try dsimp only at hSw
      go_simp
      try with_reducible rfl
    try simp only [Act.put]
    try simp only [List.setIfInBounds_toArray]
    try simp only [List.set_cons_succ]
    try simp only [List.set_cons_zero]
    refine wpAnyH_take (i := 1) (v := ?_) rfl (by kernel_rfl) (by kernel_rfl) (by kernel_rfl) (fun _ _ _ h => h) (Or.inl ⟨by rfl, ?_⟩) (by assumption) ?_
    rotate_left
    · intro w hSw
      try dsimp only at hSw
      go_simp
      try with_reducible rfl
    try simp only [Act.put]
    try simp only [List.setIfInBounds_toArray]
    try simp only [List.set_cons_succ]
    try simp only [List.set_cons_zero]
    refine wpAnyH_take (i := 2) (v := ?_) rfl (by kernel_rfl) (by kernel_rfl) (by kernel_rfl) (fun _ _ _ h => h) (Or.inl ⟨by rfl, ?_⟩) (by assumption) ?_
    rotate_left
    · intro w hSw
      try dsimp only at hSw
      go_simp
      try with_reducible rfl
    try simp only [Act.put]
    try simp only [List.setIfInBounds_toArray]
    try simp only [List.set_cons_succ]
    try simp only [List.set_cons_zero]
    refine wpAnyH_take (i := 4) (v := ?_) rfl (by kernel_rfl) (by kernel_rfl) (by kernel_rfl) (fun _ _ _ h => h) (Or.inl ⟨by rfl, ?_⟩) (by assumption) ?_
    rotate_left
    · intro w hSw
      try dsimp only at hSw
      go_simp
      try with_reducible rfl
    try simp only [Act.put]
    try simp only [List.setIfInBounds_toArray]
    try simp only [List.set_cons_succ]
    try simp only [List.set_cons_zero]
    refine wpAnyH_ready (rs := [3]) (by kernel_rfl) (by simp) ?_
    refine AllReadyH.cons rfl (fun K hK => ?_) AllReadyH.nil
    go_simp
    refine (HB1.out _ (Ext.refl w9).drew).mono ?_
    rintro e wc ⟨rfl, hxc⟩
    replace hxc := (show Ext w9 w9.drew from (Ext.refl w9).drew).trans hxc
    go_simp
    refine hK.out _ _ ?_ (fun hHeld2 => ?_)
    · exact keep.out _ hxc
    clear hHeld
    have hHeld := hHeld2
    clear hHeld2 hK K
    try simp only [Act.put]
    try simp only [List.setIfInBounds_toArray]
    try simp only [List.set_cons_succ]
    try simp only [List.set_cons_zero]
    refine wpAnyH_ready (rs := [5]) (by kernel_rfl) (by simp) ?_
    refine AllReadyH.cons rfl (fun K hK => ?_) AllReadyH.nil
    go_simp
    refine (HB2.out _ hxc).mono ?_
    rintro e wd ⟨rfl, hxd⟩
    replace hxd := hxc.trans hxd
    go_simp
    refine hK.out _ _ ?_ (fun hHeld2 => ?_)
    · exact keep.out _ hxd
    clear hHeld
    have hHeld := hHeld2
    clear hHeld2 hK K
    try simp only [Act.put]
    try simp only [List.setIfInBounds_toArray]
    try simp only [List.set_cons_succ]
    try simp only [List.set_cons_zero]
    refine wpAnyH_take (i := 6) (v := ?_) rfl (by kernel_rfl) (by kernel_rfl) (by kernel_rfl) (fun _ _ _ h => h) (Or.inl ⟨by rfl, ?_⟩) (by assumption) ?_
    rotate_left
    · intro w hSw
      try dsimp only at hSw
      go_simp
      try with_reducible rfl
    try simp only [Act.put]
    try simp only [List.setIfInBounds_toArray]
    try simp only [List.set_cons_succ]
    try simp only [List.set_cons_zero]
    simp only [List.getElem_toArray, List.getElem_cons_succ, List.getElem_cons_zero]
    try simp only [Act.put]
    try simp only [List.setIfInBounds_toArray]
    try simp only [List.set_cons_succ]
    try simp only [List.set_cons_zero]
    refine wpAnyH_take (i := 7) (v := ?_) rfl (by kernel_rfl) (by kernel_rfl) (by kernel_rfl) (fun _ _ _ h => h) (Or.inl ⟨by rfl, ?_⟩) (by assumption) ?_
    rotate_left
    · intro w hSw
      try dsimp only at hSw
      go_simp
      try with_reducible rfl
    try simp only [Act.put]
    try simp only [List.setIfInBounds_toArray]
    try simp only [List.set_cons_succ]
    try simp only [List.set_cons_zero]
    simp only [List.getElem_toArray, List.getElem_cons_succ, List.getElem_cons_zero]
    try simp only [Act.put]
    try simp only [List.setIfInBounds_toArray]
    try simp only [List.set_cons_succ]
    try simp only [List.set_cons_zero]
    refine wpAnyH_take (i := 8) (v := ?_) rfl (by kernel_rfl) (by kernel_rfl) (by kernel_rfl) (fun _ _ _ h => h) (Or.inl ⟨by rfl, ?_⟩) (by assumption) ?_
    rotate_left
    · intro w hSw
      try dsimp only at hSw
      go_simp
      try with_reducible rfl
    try simp only [Act.put]
    try simp only [List.setIfInBounds_toArray]
    try simp only [List.set_cons_succ]
    try simp only [List.set_cons_zero]
    simp only [List.getElem_toArray, List.getElem_cons_succ, List.getElem_cons_zero]
    try simp only [Act.put]
    try simp only [List.setIfInBounds_toArray]
    try simp only [List.set_cons_succ]
    try simp only [List.set_cons_zero]
    refine wpAnyH_done (by kernel_rfl) ?_ _
    refine noPanic_intro ?_
    go_wp2
    go_ret
    exact ⟨rfl, HXW.out.trans hxd⟩
end Go.Proofs.Ytgcplndmhlideaa
