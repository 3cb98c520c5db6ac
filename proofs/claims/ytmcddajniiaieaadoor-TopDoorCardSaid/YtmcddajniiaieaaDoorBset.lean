/- The contracts of the book: set, Add, Less, Of, All, New. -/
import Derived.Test.YtmcddajniiaieaaDoorBk
import Derived.Test.YtmcddajniiaieaaDoorLs
namespace Go.Proofs.YtmcddajniiaieaaDoor
open Go.RowKit

theorem zeroI (w : World) : (zeroValue 2).run Tryd.prog w = .ok (.int .i64 0) w := by kernel_rfl
theorem nm_key (t : Bool) : keyOf Tryd.prog 9 (.string (nmB t)) = some (nmL t) := by
  cases t
  · exact (WideMaps.keyOf_string_mk (s := nmB false) Tryd.underlying9 (by decide)).trans rfl
  · exact (WideMaps.keyOf_string_mk (s := nmB true) Tryd.underlying9 (by decide)).trans rfl
theorem strKeyed : Maps.Keyed Tryd.prog 9 := Maps.string_keyed Tryd.underlying9
theorem bmapNil (w : World) : (binOp .eql 89 (.map none) (.map none)).run Tryd.prog w = .ok (.bool true) w := by kernel_rfl
theorem bmapSome (m : Nat) (w : World) : (binOp .eql 89 (.map (some m)) (.map none)).run Tryd.prog w = .ok (.bool false) w := by kernel_rfl
theorem BkAt.look {w : World} {B bb c : Nat} {S : Int} {b : Bk} (h : BkAt w B bb c S b) (t : Bool) : (Instr.lookup 89 (.map b.m) (.string (nmB t)) false).run Tryd.prog w = .ok (.int .i64 (b.p t)) w := by
  rcases h.map with ⟨hm, hp⟩ | ⟨m, f, hm, hB, hl, hf⟩
  · rw [hm, hp t]
    exact Maps.look_nil false strKeyed Tryd.underlying89 (zeroI w) (nm_key t)
  · rw [hm, hl.look strKeyed Tryd.underlying89 (zeroI w) (nm_key t), hf t]
    unfold optI
    by_cases h0 : b.p t = 0
    · rw [if_pos h0, h0]; rfl
    · rw [if_neg h0]; rfl
def bkTs : List TypeId := [91]
/-- The map of a book behind a step: the same, or a new one where there was none. -/
def BkM (w : World) (b b' : Bk) : Prop := b'.m = b.m ∨ (b.m = none ∧ ∃ m, b'.m = some m ∧ w.heap.size ≤ m)
def putP (p : Bool → Int) (t : Bool) (n : Int) : Bool → Int := fun u => if u = t then n else p u
def SetPostB (w : World) (B bb c : Nat) (S : Int) (b : Bk) (t : Bool) (n : Int) (e : Ending) (w' : World) : Prop := ∃ b', e = .returned (.tuple #[]) ∧ BkAt w' B bb (c + 1) S b' ∧ b'.p = putP b.p t n ∧ BkM w b b' ∧ Kp B bkTs b.m.toList w w'
theorem sum_put (p : Bool → Int) (t : Bool) (n : Int) : putP p t n true + putP p t n false = p true + p false + (n - p t) := by
  cases t <;> simp [putP] <;> omega
theorem BkAt.setB {w w' : World} {B bb c m : Nat} {S : Int} {b : Bk} {t : Bool} {n : Int} {f : Lit → Option Value} (h : BkAt w B bb c S b) (hb : w'.heap[bb]? = some (.cells (Bk.cells S ⟨some m, putP b.p t n⟩) 91 (0, 0))) (hn : 0 ≤ n ∧ n ≤ S) (hmB : B ≤ m)
    (hm : MapV Tryd.prog 9 w' m (c + 1) f) (hf : ∀ u, f (nmL u) = optI (putP b.p t n u)) : BkAt w' B bb (c + 1) S ⟨some m, putP b.p t n⟩ :=
  ⟨hb, h.bb, fun u => by
    show 0 ≤ putP b.p t n u ∧ putP b.p t n u ≤ S
    unfold putP
    split
    · exact hn
    · exact h.ok u, .inr ⟨m, f, rfl, hmB, hm, hf⟩⟩

theorem blk_map {w w' : World} {b m : Nat} {cs : Array Value} {t : TypeId} {es : Array MapEntry} {cl : Nat} (h : w.heap[b]? = some (.cells cs t (0, 0))) (hm : w.heap[m]? = some (.map es cl)) (hg : w.grownBy w' (some m)) : w'.heap[b]? = some (.cells cs t (0, 0)) :=
  (hg.block b (Array.getElem?_eq_some_iff.1 h).1 (fun e => by
    have e : b = m := by simpa using e
    rw [e, hm] at h
    cases h)).trans h
theorem cell_map {w w' : World} {p : Addr} {v : Value} {P : Program} {k : TypeId} {m n : Nat} {f : Lit → Option Value} (h : w.cell? p = some v) (hm : MapV P k w m n f) (hg : w.grownBy w' (some m)) : w'.cell? p = some v := by
  obtain ⟨es, cl, hb⟩ := hm.blk
  refine (World.cell?_of_block (hg.block p.block (block_of_cell h) (fun e => ?_))).trans h
  have e : p.block = m := by simpa using e
  unfold World.cell? at h
  rw [e, hb] at h
  cases h
theorem kp_fresh {B m : Nat} {T : List TypeId} {w w' : World} (hk : Kp B T [m] w w') (hm : w.heap.size ≤ m) : Kp B T [] w w' :=
  ⟨hk.os, hk.tape, hk.output, hk.size, fun g hg hn => hk.block g hg (hn.imp id fun hn hm' => hn (by
    rcases hm' with h1 | ⟨es, cl, h1, h2⟩
    · exact .inl h1
    · have e : g = m := by simpa using h2
      omega))⟩
set_option maxHeartbeats 2000000 in
set_option maxRecDepth 100000 in
theorem bset_calls (B bb c : Nat) (S : Int) (b : Bk) (t : Bool) (n : Int) (w : World) (h : BkAt w B bb c S b) (hn : 0 ≤ n ∧ n ≤ S) (hS : S ≤ 1099511627776) (hc : c < 100000) (hB : B ≤ w.heap.size) :
    Calls Tryd.prog 47 #[.pointer (some ⟨bb, 0, none⟩), .string (nmB t), .int .i64 n] w (SetPostB w B bb c S b t n) := by
  have H := Lib.hid h
  have HBB := Lib.hid h.bb
  have o1 := h.ok true
  have o2 := h.ok false
  have o3 := h.ok t
  have hmm := @run_makeMap Tryd.prog
  have hm0 := bmapNil
  have hm1 := bmapSome
  obtain ⟨al, hal⟩ : ∃ n, b.p true + b.p false = n := ⟨_, rfl⟩
  obtain ⟨pt, hptt⟩ : ∃ n, b.p t = n := ⟨_, rfl⟩
  have cells_put : ∀ m, Bk.cells S ⟨m, putP b.p t n⟩ = #[.int .i64 (2 * S), .int .i64 S, .int .i64 (al + (n - pt)), .map m] := fun m => by
    unfold Bk.cells
    rw [sum_put, hal, hptt]
  have hblk : w.heap[bb]? = some (.cells #[.int .i64 (2 * S), .int .i64 S, .int .i64 al, .map b.m] 91 (0, 0)) := by have := h.blk; unfold Bk.cells at this; rwa [hal] at this
  have hlt : bb < w.heap.size := (Array.getElem?_eq_some_iff.1 hblk).1
  rw [hptt] at o3
  have hal2 : 0 ≤ al ∧ al ≤ 2 * S := by omega
  obtain ⟨n1, n2⟩ := hn
  rcases h.map with ⟨hm, hp⟩ | ⟨m, f, hm, hmB, hmap, hf⟩
  · rw [hm] at hblk
    have l3 : w.cell? ⟨bb, 3, none⟩ = some (.map none) := blk_cell hblk 3 rfl
    have g3 : w.frozen? ⟨bb, 3, none⟩ = false := blk_frozen hblk 3
    have HM := Lib.hid hm
    have HBK := Lib.hid hblk
    have HPT0 := Lib.hid (show pt = 0 by rw [← hptt]; exact hp t)
    have HP := Lib.hid hp
    clear h hm hp hblk o1 o2 hal
    go_enter Tryd.func47, Tryd.ntmps47
    go_upto_region 2 with (fail)
    have hb2 : ((w.setCell ⟨bb, 3, none⟩ (.map (some w.heap.size))).alloc (.map #[] 0)).heap[bb]? = some (.cells #[.int .i64 (2 * S), .int .i64 S, .int .i64 al, .map (some w.heap.size)] 91 (0, 0)) := ((Ext.refl _).alloc _).block ((set_blk (j := 3) (show w.heap[bb]? = _ from HBK.out) (.map (some w.heap.size))).trans rfl)
    have hmap2 : MapV Tryd.prog 9 ((w.setCell ⟨bb, 3, none⟩ (.map (some w.heap.size))).alloc (.map #[] 0)) w.heap.size c (fun _ => none) := by
      have := (MapV.made Tryd.prog 9 (w.setCell ⟨bb, 3, none⟩ (.map (some w.heap.size)))).mono (Nat.zero_le c)
      simpa [World.setCell] using this
    have hkp2 : Kp B bkTs b.m.toList w ((w.setCell ⟨bb, 3, none⟩ (.map (some w.heap.size))).alloc (.map #[] 0)) := ((Kp.refl _ _ _ _).set (show w.heap[bb]? = _ from HBK.out) (by decide) HBB.out _ _).ext ((Ext.refl _).alloc _)
    generalize ((w.setCell ⟨bb, 3, none⟩ (.map (some w.heap.size))).alloc (.map #[] 0)) = W2 at *
    obtain ⟨m, hmw⟩ : ∃ m, w.heap.size = m := ⟨_, rfl⟩
    rw [hmw] at hb2 hmap2
    rw [hmw]
    have HMB : Hid (B ≤ m) := Lib.hid (by omega)
    have HBM : Hid (BkM w b ⟨some m, putP b.p t n⟩) := Lib.hid (.inr ⟨HM.out, m, rfl, by omega⟩)
    have HMW := Lib.hid hmw
    obtain ⟨f, hf⟩ : ∃ f : Lit → Option Value, (fun _ => none) = f := ⟨_, rfl⟩
    rw [hf] at hmap2
    have hpt : (f (nmL t)).getD (.int .i64 0) = .int .i64 pt := by rw [← hf, HPT0.out]; rfl
    have HF : Hid (∀ u, f (nmL u) = optI (b.p u)) := Lib.hid fun u => by rw [← hf, HP.out u]; rfl
    clear hf hmw l3 g3
    have l3 : W2.cell? ⟨bb, 3, none⟩ = some (.map (some m)) := blk_cell hb2 3 rfl
    have l2 : W2.cell? ⟨bb, 2, none⟩ = some (.int .i64 al) := blk_cell hb2 2 rfl
    have g2 : W2.frozen? ⟨bb, 2, none⟩ = false := blk_frozen hb2 2
    have hrun1 : (Instr.lookup 89 (.map (some m)) (.string (nmB t)) false).run Tryd.prog W2 = .ok (.int .i64 pt) W2 := by rw [hmap2.look strKeyed Tryd.underlying89 (zeroI _) (nm_key t)]; rw [hpt]
    have hrun2 : (Instr.lookup 89 (.map (some m)) (.string (nmB t)) false).run Tryd.prog W2.drew = .ok (.int .i64 pt) W2.drew := by rw [(hmap2.ext (Ext.refl _).drew).look strKeyed Tryd.underlying89 (zeroI _) (nm_key t)]; rw [hpt]
    have hw1 : IntKind.i64.wrap (n - pt) = n - pt := IntWalk.i64_in _ (by omega)
    have hw2 : IntKind.i64.wrap (al + (n - pt)) = al + (n - pt) := IntWalk.i64_in _ (by omega)
    have HB2 := Lib.hid hb2
    have HM2 := Lib.hid hmap2
    have HKP2 := Lib.hid hkp2
    clear hb2 hmap2 hkp2 hpt
    go_region
    obtain ⟨W5, hW5⟩ : ∃ W, (W2.setCell ⟨bb, 2, none⟩ (.int .i64 (al + (n - pt)))).drew = W := ⟨_, rfl⟩
    rw [hW5]
    have hb5 : W5.heap[bb]? = some (.cells #[.int .i64 (2 * S), .int .i64 S, .int .i64 (al + (n - pt)), .map (some m)] 91 (0, 0)) := by rw [← hW5]; exact (set_blk (j := 2) (show W2.heap[bb]? = _ from HB2.out) _).trans rfl
    have hm5 : MapV Tryd.prog 9 W5 m c f := by rw [← hW5]; exact (HM2.out.set (show W2.heap[bb]? = _ from HB2.out) _ _).ext (Ext.refl _).drew
    have hkp5 : Kp B bkTs b.m.toList w W5 := by rw [← hW5]; exact (HKP2.out.set (show W2.heap[bb]? = _ from HB2.out) (by decide) HBB.out _ _).ext (Ext.refl _).drew
    have l3' : W5.cell? ⟨bb, 3, none⟩ = some (.map (some m)) := blk_cell hb5 3 rfl
    have HB5 := Lib.hid hb5
    have HM5 := Lib.hid hm5
    have HKP5 := Lib.hid hkp5
    clear hW5 hb5 hkp5 l3 l2 g2 hrun1 hrun2 hw1 hw2
    by_cases hn0 : n = 0
    · have hnb : (n == 0) = true := by simp [hn0]
      have HN0 := Lib.hid hn0
      clear hn0
      go_wp2_with (first | (at_mapUpdate; refine wpList_store rfl _ _ _ 89 rfl _ _ strKeyed Tryd.underlying89 m c f rfl hm5 (by simp [maxLen]; omega) (.string (nmB t)) (.int .i64 n) _ rfl rfl (nm_key t) ?_; intro w6 hm6 hg6; have l4 : w6.cell? ⟨bb, 3, none⟩ = some (.map (some m)) := cell_map l3' HM5.out hg6) | (at_delete; refine wpList_strike rfl _ _ 89 9 rfl _ strKeyed Tryd.underlying89 m (c + 1) _ rfl hm6 _ _ rfl (nm_key t) ?_; intro w7 hm7 hg7))
      go_end0
      obtain ⟨es, cl, hbm⟩ := HM5.out.blk
      obtain ⟨es2, cl2, hbm2⟩ := hm6.blk
      refine ⟨⟨some m, putP b.p t n⟩, rfl, H.out.setB (by rw [cells_put]; exact blk_map (blk_map HB5.out hbm hg6) hbm2 hg7) (by omega) HMB.out hm7 (fun u => ?_), rfl, HBM.out, ?_⟩
      · unfold putP
        by_cases hu : u = t
        · subst hu
          rw [upd_same, if_pos rfl, HN0.out]; rfl
        · rw [upd_other _ _ (nmL_ne hu), upd_other _ _ (nmL_ne hu), if_neg hu]; exact HF.out u
      · exact (by
        have hk := ((HKP5.out.mono (Nat.le_refl _) (fun t h => h) (M' := m :: b.m.toList) (fun g h => List.mem_cons_of_mem _ h)).map hbm (by simp) HMB.out hg6).map hbm2 (by simp) HMB.out hg7
        rw [HM.out] at hk ⊢
        exact kp_fresh hk (by have := HMW.out; omega))
    · have hnb : (n == 0) = false := beq_eq_false_iff_ne.2 hn0
      have HN0 := Lib.hid hn0
      clear hn0
      go_wp2_with (at_mapUpdate; refine wpList_store rfl _ _ _ 89 rfl _ _ strKeyed Tryd.underlying89 m c f rfl hm5 (by simp [maxLen]; omega) (.string (nmB t)) (.int .i64 n) _ rfl rfl (nm_key t) ?_; intro w6 hm6 hg6)
      go_end0
      obtain ⟨es, cl, hbm⟩ := HM5.out.blk
      refine ⟨⟨some m, putP b.p t n⟩, rfl, H.out.setB (by rw [cells_put]; exact blk_map HB5.out hbm hg6) (by omega) HMB.out hm6 (fun u => ?_), rfl, HBM.out, ?_⟩
      · unfold putP
        by_cases hu : u = t
        · subst hu
          rw [upd_same, if_pos rfl]; unfold optI; rw [if_neg HN0.out]
        · rw [upd_other _ _ (nmL_ne hu), if_neg hu]; exact HF.out u
      · exact (by
        have hk := (HKP5.out.mono (Nat.le_refl _) (fun t h => h) (M' := m :: b.m.toList) (fun g h => List.mem_cons_of_mem _ h)).map hbm (by simp) HMB.out hg6
        rw [HM.out] at hk ⊢
        exact kp_fresh hk (by have := HMW.out; omega))
  · rw [hm] at hblk
    have l3 : w.cell? ⟨bb, 3, none⟩ = some (.map (some m)) := blk_cell hblk 3 rfl
    have HM := Lib.hid hm
    have HMB := Lib.hid hmB
    have HBM : Hid (BkM w b ⟨some m, putP b.p t n⟩) := Lib.hid (.inl hm.symm)
    have HF := Lib.hid hf
    have hb2 := hblk
    have hmap2 := hmap
    have hpt : (f (nmL t)).getD (.int .i64 0) = .int .i64 pt := by
      rw [hf t, hptt]
      unfold optI
      split
      · rename_i e; rw [e]; rfl
      · rfl
    have hkp2 : Kp B bkTs b.m.toList w w := Kp.refl _ _ _ _
    clear h hm hmB hblk o1 o2 hal hf hmap
    go_enter Tryd.func47, Tryd.ntmps47
    go_upto_region 2 with (fail)
    clear l3
    have l3 : w.cell? ⟨bb, 3, none⟩ = some (.map (some m)) := blk_cell hb2 3 rfl
    have l2 : w.cell? ⟨bb, 2, none⟩ = some (.int .i64 al) := blk_cell hb2 2 rfl
    have g2 : w.frozen? ⟨bb, 2, none⟩ = false := blk_frozen hb2 2
    have hrun1 : (Instr.lookup 89 (.map (some m)) (.string (nmB t)) false).run Tryd.prog w = .ok (.int .i64 pt) w := by rw [hmap2.look strKeyed Tryd.underlying89 (zeroI _) (nm_key t)]; rw [hpt]
    have hrun2 : (Instr.lookup 89 (.map (some m)) (.string (nmB t)) false).run Tryd.prog w.drew = .ok (.int .i64 pt) w.drew := by rw [(hmap2.ext (Ext.refl _).drew).look strKeyed Tryd.underlying89 (zeroI _) (nm_key t)]; rw [hpt]
    have hw1 : IntKind.i64.wrap (n - pt) = n - pt := IntWalk.i64_in _ (by omega)
    have hw2 : IntKind.i64.wrap (al + (n - pt)) = al + (n - pt) := IntWalk.i64_in _ (by omega)
    have HB2 := Lib.hid hb2
    have HM2 := Lib.hid hmap2
    have HKP2 := Lib.hid hkp2
    clear hb2 hmap2 hkp2 hpt
    go_region
    obtain ⟨W5, hW5⟩ : ∃ W, (w.setCell ⟨bb, 2, none⟩ (.int .i64 (al + (n - pt)))).drew = W := ⟨_, rfl⟩
    rw [hW5]
    have hb5 : W5.heap[bb]? = some (.cells #[.int .i64 (2 * S), .int .i64 S, .int .i64 (al + (n - pt)), .map (some m)] 91 (0, 0)) := by rw [← hW5]; exact (set_blk (j := 2) (show w.heap[bb]? = _ from HB2.out) _).trans rfl
    have hm5 : MapV Tryd.prog 9 W5 m c f := by rw [← hW5]; exact (HM2.out.set (show w.heap[bb]? = _ from HB2.out) _ _).ext (Ext.refl _).drew
    have hkp5 : Kp B bkTs b.m.toList w W5 := by rw [← hW5]; exact (HKP2.out.set (show w.heap[bb]? = _ from HB2.out) (by decide) HBB.out _ _).ext (Ext.refl _).drew
    have l3' : W5.cell? ⟨bb, 3, none⟩ = some (.map (some m)) := blk_cell hb5 3 rfl
    have HB5 := Lib.hid hb5
    have HM5 := Lib.hid hm5
    have HKP5 := Lib.hid hkp5
    clear hW5 hb5 hkp5 l3 l2 g2 hrun1 hrun2 hw1 hw2
    by_cases hn0 : n = 0
    · have hnb : (n == 0) = true := by simp [hn0]
      have HN0 := Lib.hid hn0
      clear hn0
      go_wp2_with (first | (at_mapUpdate; refine wpList_store rfl _ _ _ 89 rfl _ _ strKeyed Tryd.underlying89 m c f rfl hm5 (by simp [maxLen]; omega) (.string (nmB t)) (.int .i64 n) _ rfl rfl (nm_key t) ?_; intro w6 hm6 hg6; have l4 : w6.cell? ⟨bb, 3, none⟩ = some (.map (some m)) := cell_map l3' HM5.out hg6) | (at_delete; refine wpList_strike rfl _ _ 89 9 rfl _ strKeyed Tryd.underlying89 m (c + 1) _ rfl hm6 _ _ rfl (nm_key t) ?_; intro w7 hm7 hg7))
      go_end0
      obtain ⟨es, cl, hbm⟩ := HM5.out.blk
      obtain ⟨es2, cl2, hbm2⟩ := hm6.blk
      refine ⟨⟨some m, putP b.p t n⟩, rfl, H.out.setB (by rw [cells_put]; exact blk_map (blk_map HB5.out hbm hg6) hbm2 hg7) (by omega) HMB.out hm7 (fun u => ?_), rfl, HBM.out, ?_⟩
      · unfold putP
        by_cases hu : u = t
        · subst hu
          rw [upd_same, if_pos rfl, HN0.out]; rfl
        · rw [upd_other _ _ (nmL_ne hu), upd_other _ _ (nmL_ne hu), if_neg hu]; exact HF.out u
      · exact (by
        have hk := ((HKP5.out.mono (Nat.le_refl _) (fun t h => h) (M' := m :: b.m.toList) (fun g h => List.mem_cons_of_mem _ h)).map hbm (by simp) HMB.out hg6).map hbm2 (by simp) HMB.out hg7
        rw [HM.out] at hk ⊢
        exact hk.mono (Nat.le_refl _) (fun t h => h) (fun g h => by simpa using h))
    · have hnb : (n == 0) = false := beq_eq_false_iff_ne.2 hn0
      have HN0 := Lib.hid hn0
      clear hn0
      go_wp2_with (at_mapUpdate; refine wpList_store rfl _ _ _ 89 rfl _ _ strKeyed Tryd.underlying89 m c f rfl hm5 (by simp [maxLen]; omega) (.string (nmB t)) (.int .i64 n) _ rfl rfl (nm_key t) ?_; intro w6 hm6 hg6)
      go_end0
      obtain ⟨es, cl, hbm⟩ := HM5.out.blk
      refine ⟨⟨some m, putP b.p t n⟩, rfl, H.out.setB (by rw [cells_put]; exact blk_map HB5.out hbm hg6) (by omega) HMB.out hm6 (fun u => ?_), rfl, HBM.out, ?_⟩
      · unfold putP
        by_cases hu : u = t
        · subst hu
          rw [upd_same, if_pos rfl]; unfold optI; rw [if_neg HN0.out]
        · rw [upd_other _ _ (nmL_ne hu), if_neg hu]; exact HF.out u
      · exact (by
        have hk := (HKP5.out.mono (Nat.le_refl _) (fun t h => h) (M' := m :: b.m.toList) (fun g h => List.mem_cons_of_mem _ h)).map hbm (by simp) HMB.out hg6
        rw [HM.out] at hk ⊢
        exact hk.mono (Nat.le_refl _) (fun t h => h) (fun g h => by simpa using h))
end Go.Proofs.YtmcddajniiaieaaDoor
