/- The contracts of admit.New and of Drop. -/
import Derived.Test.YtmcddajniiaieaaDoorDrb
namespace Go.Proofs.YtmcddajniiaieaaDoor
open Go.RowKit

theorem noPanic_intro {Q : Exit → Act → World → Prop} {a : Act} {w : World} (h : Q .normal a w) : NoPanic Q .normal a w := h
/-- A step that turns cells of these types, of blocks from B on, and maps. -/
def Kpa (B : Nat) (T : List TypeId) (w w' : World) : Prop := ∃ M, Kp B T M w w'
section
variable {B : Nat} {T : List TypeId} {a b c w w' : World}
theorem Kpa.refl (B : Nat) (T : List TypeId) (w : World) : Kpa B T w w := ⟨[], Kp.refl _ _ _ _⟩
theorem Kpa.trans (h : Kpa B T a b) (k : Kpa B T b c) : Kpa B T a c := by
  obtain ⟨M, h⟩ := h
  obtain ⟨N, k⟩ := k
  exact ⟨M ++ N, (h.mono (Nat.le_refl _) (fun _ h => h) (fun _ h => List.mem_append_left _ h)).trans (k.mono (Nat.le_refl _) (fun _ h => h) (fun _ h => List.mem_append_right _ h))⟩
theorem Kpa.of_ext (h : Ext w w') : Kpa B T w w' := ⟨[], Kp.of_ext h⟩
theorem Kpa.of {M : List Nat} {T' : List TypeId} (h : Kp B T' M w w') (ht : ∀ t ∈ T', t ∈ T) : Kpa B T w w' := ⟨M, h.mono (Nat.le_refl _) ht (fun _ h => h)⟩
theorem Kpa.size (h : Kpa B T w w') : w.heap.size ≤ w'.heap.size := by obtain ⟨M, h⟩ := h; exact h.size
theorem Kpa.cells (h : Kpa B T a b) {k : Nat} {cs : Array Value} {t : TypeId} {fr : Nat × Nat} (ho : a.heap[k]? = some (.cells cs t fr)) (ht : t ∉ T) : b.heap[k]? = some (.cells cs t fr) := by obtain ⟨M, h⟩ := h; exact h.cells ho ht
end
def DNewPost (w : World) (B : Nat) (S : Int) (e : Ending) (w' : World) : Prop := ∃ db d, e = .returned (.tuple #[.pointer (some ⟨db, 0, none⟩), .int .i64 0]) ∧ DrAt w' B db 0 S d ∧ d.D = [] ∧ d.m = 0 ∧ Ext w w'

set_option maxHeartbeats 1000000 in
set_option maxRecDepth 100000 in
theorem dnew_calls (B : Nat) (S : Int) (w : World) (hS : 1 ≤ S ∧ S ≤ 1000) (hB : B ≤ w.heap.size) : Calls Tryd.prog 5 #[.int .i64 (2 * S), .int .i64 S] w (DNewPost w B S) := by
  have HB := Lib.hid (bnew_calls S B w (by omega) hS.2 hB)
  have HSS := Lib.hid hS
  have HBB := Lib.hid hB
  have hmm := @run_makeMap Tryd.prog
  obtain ⟨q, hq⟩ : ∃ q, (2 * S) / 5 = q := ⟨_, rfl⟩
  have hq2 : (2 * S).tdiv 5 = q := by rw [Int.tdiv_eq_ediv_of_nonneg (by omega)]; exact hq
  have hqb : 0 ≤ 2 * S - q ∧ 2 * S - q ≤ 2000 := by omega
  obtain ⟨R, hR⟩ : ∃ R, 2 * S = R := ⟨_, rfl⟩
  rw [hR] at HB hq hq2 hqb
  rw [hR]
  have HR := Lib.hid hR
  have hRb : 0 ≤ R ∧ R ≤ 2000 := by omega
  obtain ⟨l, hl⟩ : ∃ l, R - q = l := ⟨_, rfl⟩
  rw [hl] at hqb
  have HL := Lib.hid (fun W (hx : B ≤ W.heap.size) => lnew_calls l B W hqb.1 (by omega) hx)
  clear hR hS hB
  go_enter Tryd.func5, Tryd.ntmps5
  go_wp2_with fail
  refine HB.out.mono ?_
  rintro e w1 ⟨bb, rfl, hbk, hx1⟩
  have HX1 := Lib.hid hx1
  have HBK := Lib.hid hbk
  clear hbk hx1 HB
  go_wp2_with fail
  refine (HL.out _ (Nat.le_trans HBB.out HX1.out.size)).mono ?_
  rintro e w2 ⟨lb, rfl, hls, hx2⟩
  have HX2 := Lib.hid (HX1.out.trans hx2)
  have HBK2 := Lib.hid (HBK.out.ext hx2)
  have HLS := Lib.hid hls
  clear hls hx2 HL HX1 HBK
  go_wp2_with fail
  refine (sknew_calls B w2 (Nat.le_trans HBB.out HX2.out.size)).mono ?_
  rintro e w3 ⟨sb, rfl, hsk, hx3⟩
  have HX3 := Lib.hid (HX2.out.trans hx3)
  have HBK3 := Lib.hid (HBK2.out.ext hx3)
  have HLS3 := Lib.hid (HLS.out.ext hx3)
  have HSK := Lib.hid hsk
  clear hsk hx3 HX2 HBK2 HLS
  go_wp2
  have hxa : Ext w3 (w3.alloc (.map #[] 0)) := (Ext.refl _).alloc _
  have hm0 := MapV.made Tryd.prog 2 w3
  have hsz : (w3.alloc (.map #[] 0)).heap.size = w3.heap.size + 1 := World.size_alloc _ _
  refine bodyPost_ret (v := .tuple #[.pointer (some ⟨w3.heap.size + 1, 0, none⟩), .int .i64 0]) (by simp [results, Tryd.results5, go_sem]) rfl ?_
  have hnew := heap_alloc_new (w3.alloc (.map #[] 0)) (.cells #[.int .i64 R, .int .i64 S, .pointer (some ⟨bb, 0, none⟩), .pointer (some ⟨lb, 0, none⟩), .pointer (some ⟨sb, 0, none⟩), .map (some w3.heap.size)] 63)
  rw [hsz] at hnew
  have hxb : Ext (w3.alloc (.map #[] 0)) ((w3.alloc (.map #[] 0)).alloc (.cells #[.int .i64 R, .int .i64 S, .pointer (some ⟨bb, 0, none⟩), .pointer (some ⟨lb, 0, none⟩), .pointer (some ⟨sb, 0, none⟩), .map (some w3.heap.size)] 63)) := (Ext.refl _).alloc _
  have hx4 := hxa.trans hxb
  have hb3 := HX3.out.size
  refine ⟨w3.heap.size + 1, ⟨lb, bb, sb, w3.heap.size, ⟨l, none, [], []⟩, ⟨none, fun _ => 0⟩, 0, []⟩, rfl, ?_, rfl, rfl, HX3.out.trans hx4⟩
  refine ⟨by rw [HR.out]; exact hnew, by have := HBB.out; omega, HBK3.out.ext hx4, HLS3.out.ext hx4, HSK.out.ext hx4, ?_, ?_, List.nodup_nil, ?_, ?_, ?_, ?_, ?_, HSS.out, by omega⟩
  · show B ≤ w3.heap.size
    have := HBB.out; omega
  · exact ⟨_, hm0.ext hxb, (fun x hx => by cases hx), (fun kl v hv => by cases hv)⟩
  · exact fun k => ⟨(fun ⟨x, hx, _⟩ => by cases hx), (fun ⟨x, hx, _⟩ => by cases hx)⟩
  · exact fun x hx => by cases hx
  · exact fun e => by cases e
  · exact fun e => by cases e
  · exact fun a ha => by cases ha

def DropPostD (w : World) (B db c : Nat) (S : Int) (d : Dr) (k : Int) (e : Ending) (w' : World) : Prop := ∃ b d', e = .returned (.bool b) ∧ DrAt w' B db (c + 1) S d' ∧ (∀ x, x ∈ d'.D ↔ x ∈ d.D ∧ x.k ≠ k) ∧ (d'.m = d.m ∧ d'.sb = d.sb) ∧ Kpa B drTs w w'

set_option maxHeartbeats 2000000 in
set_option maxRecDepth 100000 in
theorem ddrop_calls (B db c : Nat) (S : Int) (d : Dr) (k : Int) (w : World) (h : DrAt w B db c S d) (hk : I64 k) (hc : c < 800) (hB : B ≤ w.heap.size) :
    Calls Tryd.prog 24 #[.pointer (some ⟨db, 0, none⟩), .int .i64 k] w (DropPostD w B db c S d k) := by
  have HH := Lib.hid (has_calls B db c S d k w h hk)
  have H := Lib.hid h
  have HI := Lib.hid hk
  rcases h.look hk with ⟨x, hx, hxk, hh, -, -⟩ | ⟨hh, -⟩
  · rw [hh] at HH
    obtain ⟨hxi, hxn, hxu⟩ := h.small x hx
    have HX := Lib.hid (And.intro hx hxk)
    have hlk : ∀ W, Ext w W → (Instr.lookup 61 (.map (some d.tm)) (.int .i64 k) false).run Tryd.prog W = .ok (.agg #[.int .i64 x.k, .int .i64 x.n, .string (nmB x.t), .int .u64 x.u]) W := fun W hW => by
      rcases (H.out.ext hW).look HI.out with ⟨y, hy, e, -, -, h2⟩ | ⟨hno, -⟩
      · obtain rfl : y = x := eq_of_key H.out.kd hy HX.out.1 (e.trans HX.out.2.symm)
        exact h2
      · rw [hh] at hno; cases hno
    have HLK := Lib.hid hlk
    have HSZ := Lib.hid hB
    clear h hk hx hxk hh hlk hxi hxu hB
    go_enter Tryd.func24, Tryd.ntmps24
    go_wp2_with fail
    refine HH.out.mono ?_
    rintro e w1 ⟨rfl, hx1⟩
    have l5 : w1.cell? ⟨db, 5, none⟩ = some (.map (some d.tm)) := blk_cell (hx1.block H.out.blk) 5 rfl
    have hrun := HLK.out w1 hx1
    have hxa : Ext w1 (w1.alloc (.cells #[.int .i64 x.k, .int .i64 x.n, .string (nmB x.t), .int .u64 x.u] 39)) := (Ext.refl _).alloc _
    have hta := heap_alloc_new w1 (.cells #[.int .i64 x.k, .int .i64 x.n, .string (nmB x.t), .int .u64 x.u] 39)
    have HX1 := Lib.hid (hx1.trans hxa)
    obtain ⟨tm, htm⟩ : ∃ m, d.tm = m := ⟨_, rfl⟩
    rw [htm] at l5 hrun
    have HTM := Lib.hid htm
    go_upto_region 4 with (fail)
    generalize (w1.alloc (.cells #[.int .i64 x.k, .int .i64 x.n, .string (nmB x.t), .int .u64 x.u] 39)) = W2 at *
    generalize w1.heap.size = tb at *
    have q1 : W2.cell? ⟨tb, 1, none⟩ = some (.int .i64 x.n) := blk_cell hta 1 rfl
    have q2 : W2.cell? ⟨tb, 2, none⟩ = some (.string (nmB x.t)) := blk_cell hta 2 rfl
    have l2 : W2.cell? ⟨db, 2, none⟩ = some (.pointer (some ⟨d.bb, 0, none⟩)) := blk_cell (HX1.out.block H.out.blk) 2 rfl
    have HL : Hid (∀ W, Ext W2 W → Calls Tryd.prog 44 #[.pointer (some ⟨d.bb, 0, none⟩), .string (nmB x.t), .int .i64 x.n] W (BkPost W B d.bb c S d.bk)) := Lib.hid fun W hW => bless_calls B d.bb c S d.bk x.t x.n W (H.out.bk.ext (HX1.out.trans hW)) (by omega) (by have := H.out.S1; omega) (by omega) (Nat.le_trans HSZ.out (HX1.out.trans hW).size)
    have HTA := Lib.hid hta
    clear l5 hrun hxa hta hx1 htm HLK HH
    refine wp_region_noPanic ?_
    refine wp_region_held_drew (S := fun w' => w'.cell? ⟨db, 2, none⟩ = some (.pointer (some ⟨d.bb, 0, none⟩)) ∧ w'.cell? ⟨tb, 1, none⟩ = some (.int .i64 x.n) ∧ w'.cell? ⟨tb, 2, none⟩ = some (.string (nmB x.t))) (by kernel_rfl) ?_ (fun hHeld => ?_)
    · exact ⟨l2, q1, q2⟩
    refine wpAnyH_take (i := 0) (v := ?_) rfl (by kernel_rfl) (by kernel_rfl) (by kernel_rfl) (fun _ _ _ h => h) (Or.inl ⟨by rfl, ?_⟩) (by assumption) ?_
    rotate_left
    · intro w hSw
      try dsimp only at hSw
      go_simp
      try with_reducible rfl
    try simp only [Act.put]
    try simp only [List.setIfInBounds_toArray]
    try simp only [List.set_cons_succ]
    try simp only [List.set_cons_zero]
    refine wpAnyH_take (i := 1) (v := ?_) rfl (by kernel_rfl) (by kernel_rfl) (by kernel_rfl) (fun _ _ _ h => h) (Or.inl ⟨by rfl, ?_⟩) (by assumption) ?_
    rotate_left
    · intro w hSw
      try dsimp only at hSw
      go_simp
      try with_reducible rfl
    try simp only [Act.put]
    try simp only [List.setIfInBounds_toArray]
    try simp only [List.set_cons_succ]
    try simp only [List.set_cons_zero]
    refine wpAnyH_take (i := 2) (v := ?_) rfl (by kernel_rfl) (by kernel_rfl) (by kernel_rfl) (fun _ _ _ h => h) (Or.inl ⟨by rfl, ?_⟩) (by assumption) ?_
    rotate_left
    · intro w hSw
      try dsimp only at hSw
      go_simp
      try with_reducible rfl
    try simp only [Act.put]
    try simp only [List.setIfInBounds_toArray]
    try simp only [List.set_cons_succ]
    try simp only [List.set_cons_zero]
    refine wpAnyH_take (i := 3) (v := ?_) rfl (by kernel_rfl) (by kernel_rfl) (by kernel_rfl) (fun _ _ _ h => h) (Or.inl ⟨by rfl, ?_⟩) (by assumption) ?_
    rotate_left
    · intro w hSw
      try dsimp only at hSw
      go_simp
      try with_reducible rfl
    try simp only [Act.put]
    try simp only [List.setIfInBounds_toArray]
    try simp only [List.set_cons_succ]
    try simp only [List.set_cons_zero]
    refine wpAnyH_take (i := 4) (v := ?_) rfl (by kernel_rfl) (by kernel_rfl) (by kernel_rfl) (fun _ _ _ h => h) (Or.inl ⟨by rfl, ?_⟩) (by assumption) ?_
    rotate_left
    · intro w hSw
      try dsimp only at hSw
      go_simp
      try with_reducible rfl
    try simp only [Act.put]
    try simp only [List.setIfInBounds_toArray]
    try simp only [List.set_cons_succ]
    try simp only [List.set_cons_zero]
    refine wpAnyH_take (i := 5) (v := ?_) rfl (by kernel_rfl) (by kernel_rfl) (by kernel_rfl) (fun _ _ _ h => h) (Or.inl ⟨by rfl, ?_⟩) (by assumption) ?_
    rotate_left
    · intro w hSw
      try dsimp only at hSw
      go_simp
      try with_reducible rfl
    try simp only [Act.put]
    try simp only [List.setIfInBounds_toArray]
    try simp only [List.set_cons_succ]
    try simp only [List.set_cons_zero]
    refine wpAnyH_take (i := 6) (v := ?_) rfl (by kernel_rfl) (by kernel_rfl) (by kernel_rfl) (fun _ _ _ h => h) (Or.inl ⟨by rfl, ?_⟩) (by assumption) ?_
    rotate_left
    · intro w hSw
      try dsimp only at hSw
      go_simp
      try with_reducible rfl
    try simp only [Act.put]
    try simp only [List.setIfInBounds_toArray]
    try simp only [List.set_cons_succ]
    try simp only [List.set_cons_zero]
    refine wpAnyH_take (i := 7) (v := ?_) rfl (by kernel_rfl) (by kernel_rfl) (by kernel_rfl) (fun _ _ _ h => h) (Or.inl ⟨by rfl, ?_⟩) (by assumption) ?_
    rotate_left
    · intro w hSw
      try dsimp only at hSw
      go_simp
      try with_reducible rfl
    try simp only [Act.put]
    try simp only [List.setIfInBounds_toArray]
    try simp only [List.set_cons_succ]
    try simp only [List.set_cons_zero]
    refine wpAnyH_ready (rs := [8]) (by kernel_rfl) (by simp) ?_
    refine AllReadyH.cons rfl (fun K hK => ?_) AllReadyH.nil
    go_simp
    refine (HL.out _ (Ext.refl W2).drew).mono ?_
    rintro e w3 ⟨r, bk', rfl, hbk, hbm, hk3⟩
    have hk3' : Kp B bkTs d.bk.m.toList W2 w3 := ((Kp.refl _ _ _ _).ext (Ext.refl W2).drew).trans hk3
    go_simp
    refine hK.out _ _ ?_ (fun hHeld2 => ?_)
    · exact ⟨blk_cell (hk3'.cells (HX1.out.block H.out.blk) (by decide)) 2 rfl, blk_cell (hk3'.cells HTA.out (by decide)) 1 rfl, blk_cell (hk3'.cells HTA.out (by decide)) 2 rfl⟩
    clear hHeld
    have hHeld := hHeld2
    clear hHeld2 hK K
    try simp only [Act.put]
    try simp only [List.setIfInBounds_toArray]
    try simp only [List.set_cons_succ]
    try simp only [List.set_cons_zero]
    refine wpAnyH_done (by kernel_rfl) ?_ _
    refine noPanic_intro ?_
    have hdr3 := hk3'.cells (HX1.out.block H.out.blk) (by decide)
    have l3 : w3.cell? ⟨db, 3, none⟩ = some (.pointer (some ⟨d.lb, 0, none⟩)) := blk_cell hdr3 3 rfl
    have hls3 : LsAt w3 B d.lb c d.ls := (H.out.ls.ext HX1.out).kp_ hk3' (by decide) (by decide) (fun m hm hmm => by
      have := H.out.ap3 m hm
      exact this (by simpa using hmm))
    have HLD := Lib.hid (ldrop_calls B d.lb c d.ls k w3 hls3 HI.out)
    have HBK3 := Lib.hid (And.intro hbk hbm)
    have HK3 := Lib.hid hk3'
    have HDR3 := Lib.hid hdr3
    clear hbk hbm hk3 hk3' hls3 hdr3 q1 q2 l2 HL hHeld
    go_wp2_with fail
    refine HLD.out.mono ?_
    rintro e w4 ⟨b4, ls', rfl, h1, h2, h3, h4, h5⟩
    have hdr4 := h5.cells HDR3.out (by decide)
    have l5 : w4.cell? ⟨db, 5, none⟩ = some (.map (some d.tm)) := blk_cell hdr4 5 rfl
    obtain ⟨f, hf1, hf2, hf3⟩ := H.out.map
    have hmap4 : MapV Tryd.prog 2 w4 d.tm c f := ((hf1.ext HX1.out).kp HK3.out (fun hmm => H.out.ap2 (by simpa using hmm))).kp h5 (fun hmm => H.out.ap1 (by simpa using hmm))
    rw [HTM.out] at l5 hmap4
    have HF := Lib.hid (And.intro hf2 hf3)
    have HLS := Lib.hid (And.intro h1 (And.intro h2 h4))
    have HK4 := Lib.hid h5
    have HDR4 := Lib.hid hdr4
    clear h1 h2 h3 h4 h5 hdr4 hf1 hf2 hf3 l3 HLD
    have HM4 := Lib.hid hmap4
    go_wp2_with (at_delete; refine wpList_strike rfl _ _ 61 2 rfl _ (Maps.int_keyed Tryd.underlying2) Tryd.underlying61 tm c f rfl hmap4 _ _ rfl (key_mk HI.out) ?_; intro w5 hmap5 hg5)
    go_ret
    obtain ⟨es, cl, hbm4⟩ := HM4.out.blk
    have htmB : B ≤ tm := by have := H.out.tm; rw [HTM.out] at this; exact this
    have hk5 : Kp B [] [tm] w4 w5 := (Kp.refl _ _ _ _).map hbm4 (by simp) htmB hg5
    have hbm3 := HBK3.out.2
    have hsz : d.tm < w.heap.size := by obtain ⟨f, hf1, _⟩ := H.out.map; exact hf1.lt
    have hW2 := (show w.heap.size ≤ W2.heap.size from HX1.out.size)
    have hbkne : bk'.m ≠ some tm := by
      rcases hbm3 with e | ⟨_, m, e, hm⟩
      · rw [e, ← HTM.out]; exact H.out.ap2
      · rw [e]
        intro e2
        have e2 : m = tm := by simpa using e2
        have hd := HTM.out
        have : W2.drew.heap.size = W2.heap.size := rfl
        omega
    have hbkls : ∀ a, d.ls.m = some a → bk'.m ≠ some a := fun a ha => by
      rcases hbm3 with e | ⟨_, m, e, hm⟩
      · rw [e]; exact H.out.ap3 a ha
      · rw [e]
        intro e2
        have e2 : m = a := by simpa using e2
        have hla : a < w.heap.size := by
          rcases H.out.ls.map with ⟨h0, _⟩ | ⟨a', h0, _, fl, hl, _⟩
          · rw [h0] at ha; cases ha
          · rw [h0] at ha
            cases ha
            exact hl.lt
        have : W2.drew.heap.size = W2.heap.size := rfl
        omega
    obtain ⟨hls1, hls2, hls4⟩ := HLS.out
    have hmem : ∀ y, y ∈ d.D.filter (fun y => decide (y.k ≠ k)) ↔ y ∈ d.D ∧ y.k ≠ k := fun y => by simp [List.mem_filter]
    refine ⟨true, ⟨d.lb, d.bb, d.sb, d.tm, ls', bk', d.m, d.D.filter (fun y => decide (y.k ≠ k))⟩, rfl, ?_, hmem, ⟨rfl, rfl⟩, ?_⟩
    · refine ⟨hk5.cells HDR4.out (by decide), H.out.db, ?_, ?_, ?_, H.out.tm, ?_, ?_, ?_, ?_, ?_, ?_, ?_, H.out.S1, by omega⟩
      · exact (HBK3.out.1.kp_ HK4.out (by decide) (fun m hm hmm => hbkls m (by simpa using hmm) hm)).kp_ hk5 (by decide) (fun m hm hmm => hbkne (by rw [hm]; simpa using hmm))
      · exact (hls1.kp_ hk5 (by decide) (by decide) (fun m hm hmm => H.out.ap1 (by rw [← hls2, hm, HTM.out]; simpa using hmm))).mono (Nat.le_succ _)
      · exact (((H.out.sk.ext HX1.out).kp_ HK3.out (by decide) (by decide) (by decide)).kp_ HK4.out (by decide) (by decide) (by decide)).kp_ hk5 (by decide) (by decide) (by decide)
      · refine ⟨_, by rw [show (Dr.mk d.lb d.bb d.sb d.tm ls' bk' d.m (d.D.filter fun y => decide (y.k ≠ k))).tm = tm from HTM.out]; exact hmap5.mono (Nat.le_succ _), fun y hy => ?_, fun kl v hv => ?_⟩
        · obtain ⟨hy1, hy2⟩ := (hmem y).1 hy
          rw [upd_other _ _ (fun e => hy2 (by unfold kI at e; cases e; rfl))]
          exact HF.out.1 y hy1
        · by_cases e : kl = kI k
          · rw [e, upd_same] at hv; cases hv
          · rw [upd_other _ _ e] at hv
            obtain ⟨y, hy, e2⟩ := HF.out.2 kl v hv
            exact ⟨y, (hmem y).2 ⟨hy, fun e3 => e (by rw [e2, e3])⟩, e2⟩
      · exact H.out.kd.sublist (List.Sublist.map _ List.filter_sublist)
      · intro k'
        constructor
        · rintro ⟨y, hy, e⟩
          obtain ⟨hy1, hy2⟩ := (hmem y).1 hy
          obtain ⟨z, hz, e2⟩ := (H.out.same k').1 ⟨y, hy1, e⟩
          exact ⟨z, (hls4 z).2 ⟨hz, by rw [e2, ← e]; exact hy2⟩, e2⟩
        · rintro ⟨z, hz, e⟩
          obtain ⟨hz1, hz2⟩ := (hls4 z).1 hz
          obtain ⟨y, hy, e2⟩ := (H.out.same k').2 ⟨z, hz1, e⟩
          exact ⟨y, (hmem y).2 ⟨hy, by rw [e2, ← e]; exact hz2⟩, e2⟩
      · exact fun y hy => H.out.small y ((hmem y).1 hy).1
      · show ls'.m ≠ some d.tm
        rw [hls2]; exact H.out.ap1
      · show bk'.m ≠ some d.tm
        rw [HTM.out]; exact hbkne
      · intro a ha
        exact hbkls a (by rw [← hls2]; exact ha)
    · exact (((Kpa.of_ext HX1.out).trans (Kpa.of HK3.out (by decide))).trans (Kpa.of HK4.out (by decide))).trans (Kpa.of hk5 (by decide))
  · rw [hh] at HH
    clear h hk
    go_enter Tryd.func24, Tryd.ntmps24
    go_wp2_with fail
    refine HH.out.mono ?_
    rintro e w1 ⟨rfl, hx1⟩
    go_wp2
    go_ret
    refine ⟨false, d, rfl, (H.out.ext hx1).mono (Nat.le_succ _) (by omega), fun x => ⟨fun hx => ⟨hx, fun e => ?_⟩, fun hx => hx.1⟩, ⟨rfl, rfl⟩, Kpa.of_ext hx1⟩
    rw [(d.has_iff k).2 ⟨x, hx, e⟩] at hh
    cases hh
end Go.Proofs.YtmcddajniiaieaaDoor
