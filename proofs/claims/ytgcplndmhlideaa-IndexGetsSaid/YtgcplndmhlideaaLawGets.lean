/- The walk of the law IndexGets. -/
import Derived.Test.YtgcplndmhlideaaNosp
import Derived.Test.YtgcplndmhlideaaLawPlays
namespace Go.Proofs.Ytgcplndmhlideaa
open Go.RowKit

theorem own_less {w : World} {N N' : Nat} {e : TypeId} {size n : Nat} {v : Value} {xs : List Value} (h : w.ownsRow N e size v n xs) (hn : N' ≤ N) : w.ownsRow N' e size v n xs := by
  refine ⟨h.1, ?_⟩
  rcases h.2 with h2 | ⟨g, cap, cur, hv, hg, r⟩
  · exact .inl h2
  · exact .inr ⟨g, cap, cur, hv, by omega, r⟩
theorem neqNm (a b : Int) (w : World) : (binOp .neq 39 (.agg #[.int .i64 a, .int .i64 b]) (.agg #[.int .i64 a, .int .i64 b])).run Try.prog w = .ok (.bool false) w := by
  have h1 : Try.prog.underlying 39 = some (.struct (Try.prog.fieldsOf 39)) := by kernel_rfl
  have h2 : Try.prog.stoodInHeld 39 = false := by kernel_rfl
  rw [run_neq_struct, run_equalIn_agg _ _ _ _ _ h1 h2]
  simp [go_sem]
theorem guardNm : Try.prog.eqGuardType Try.prog.depth 39 = false := by kernel_rfl
theorem flat_spans (S : List (Pr Nm)) : flatN S = spans (S.map fun r => (⟨r.v.v, r.v.n⟩ : Sp)) := by
  unfold flatN spans
  rw [List.flatMap_map]
  rfl
def SnPost (w : World) (l : List Sp) (e : Ending) (w' : World) : Prop := ∃ v, e = .returned v ∧ w'.ownsRow w.heap.size 39 2 v l.length (spans l) ∧ Ext w w'
theorem uOk8 : uOk 8 = true := by decide

set_option maxHeartbeats 4000000 in
set_option maxRecDepth 100000 in
theorem lawGets_calls (A : Option Addr) (c : Nat) (l : List Ac) (v n q : Int) (w : World) (h : ActsIn w A l) (hn : I64 n) (hq : I64 q) : Calls Try.prog 4 #[.slice A l.length c, .agg #[.int .i64 v, .int .i64 n], .int .i64 q] w fun e w' => e = .returned (.bool true) ∧ Ext w w' := by
  obtain ⟨ha, hi, hm⟩ := h
  obtain ⟨i0, hi0, hz0, hz1, hz2⟩ := info_parts infoRn
  have hx0 : Ext w (w.alloc (.cells #[.int .i64 v, .int .i64 n] 34)) := (Ext.refl w).alloc _
  have hb0 := heap_alloc_new w (.cells #[.int .i64 v, .int .i64 n] 34)
  go_enter Try.func4, Try.ntmps4
  go_upto_region 1 with (fail)
  generalize w.alloc (.cells #[.int .i64 v, .int .i64 n] 34) = W at *
  generalize w.heap.size = nb at *
  go_wp2_with fail
  refine (alive_calls W).mono ?_
  rintro e w1 ⟨rfl, hx1⟩
  replace hx0 := hx0.trans hx1
  replace hb0 := hx1.block hb0
  clear hx1
  by_cases hlt : 60 < l.length
  · have hlt2 : (60 : Int) < (l.length : Int) := by omega
    clear ha hi
    go_wp2
    go_ret
    exact ⟨rfl, hx0⟩
  have hle : ¬ (60 : Int) < (l.length : Int) := by omega
  have HP := Lib.hid (play_calls A c l 8 w1 (ha.ext hx0) hi (by omega))
  have HL := Lib.hid hlt
  have HN64 := Lib.hid hn
  have HQ64 := Lib.hid hq
  clear ha hi hlt hn hq
  go_wp2_with fail
  refine HP.out.mono ?_
  rintro e w2 (⟨hu, xb, N, vv, rfl, hxb, hxn, hNs, hix, hrow, hx2⟩ | ⟨hu, _⟩)
  rotate_left
  · rw [uOk8] at hu; cases hu
  obtain ⟨mA, mk, rfl, -⟩ := own_shape (show w2.ownsRow N 42 4 vv (playX 8 l).L.length (slsV (playX 8 l).L) from hrow)
  have hfw := play_few uOk8 l (by have := HL.out; omega)
  generalize playX 8 l = X at *
  have hll : X.L.length ≤ 60 := by have := hfw.len; have := HL.out; omega
  have hxa : Ext w2 (w2.alloc (.cells #[.int .i64 8, .int .i64 X.c, .slice mA X.L.length mk] 27)) := (Ext.refl w2).alloc _
  have HMB := Lib.hid (heap_alloc_new w2 (.cells #[.int .i64 8, .int .i64 X.c, .slice mA X.L.length mk] 27))
  have HXW := Lib.hid ((hx0.trans hx2).trans hxa)
  have HNB := Lib.hid (hxa.block (hx2.block hb0))
  have HIX := Lib.hid (hix.ext hxa)
  have HROW := Lib.hid (hrow.ext hxa)
  have HFW := Lib.hid hfw
  clear hix hrow hx0 hx2 hxa hxb hxn hNs hfw hu HP hb0
  go_upto_region 8 with (fail)
  generalize (w2.alloc (.cells #[.int .i64 8, .int .i64 X.c, .slice mA X.L.length mk] 27)) = w9 at *
  generalize w2.heap.size = mb at *
  obtain ⟨M, hM⟩ : ∃ M, nmsS X.L 0 = M := ⟨_, rfl⟩
  have HRS : Hid (∀ W', Ext w9 W' → Calls Try.prog 11 #[.agg #[.int .i64 8, .int .i64 X.c, .slice mA X.L.length mk], .int .i64 0] W' (NmsPost W' M)) := Lib.hid fun W' hx => by
    have := rsince_calls 8 X.c mA mk N X.L 0 W' (HROW.out.ext hx) (by omega)
    rwa [hM] at this
  have hMl : M.length ≤ 60 := by rw [← hM]; exact Nat.le_trans (nmsS_len _ _) hll
  have HM := Lib.hid hM
  clear hM
  obtain ⟨mc, hmc⟩ : ∃ mc, X.c = mc := ⟨_, rfl⟩
  obtain ⟨mn, hmn⟩ : ∃ mn, X.L.length = mn := ⟨_, rfl⟩
  have HRG : Hid (∀ W', Ext w9 W' → ∀ f t : Int, Calls Try.prog 14 #[.agg #[.int .i64 8, .int .i64 mc, .slice mA mn mk], .agg #[.int .i64 f, .int .i64 t]] W' fun e w' => e = .returned (gotS (getS X.L f t)) ∧ Ext W' w') := Lib.hid fun W' hx f t => by
    have := refget_calls 8 X.c mA mk N X.L f t W' (HROW.out.ext hx) (by omega)
    rwa [hmc, hmn] at this
  obtain ⟨M2, hM2⟩ : ∃ M2, nmsS X.L q = M2 := ⟨_, rfl⟩
  have HSX : Hid (∀ W', Ext w9 W' → Calls Try.prog 15 #[.pointer (some ⟨xb, 0, none⟩), .int .i64 q] W' (SnPost W' M2)) := Lib.hid fun W' hx => (xsince_calls xb 8 X q W' (HIX.out.ext hx) HFW.out.fit HQ64.out).mono fun e w' h => by
    obtain ⟨v, h1, h2, h3⟩ := h
    have hl := congrArg List.length (since_nms HFW.out.fit q)
    rw [List.length_map, hM2] at hl
    rw [flat_spans, since_nms HFW.out.fit q, hM2, hl] at h2
    exact ⟨v, h1, h2, h3⟩
  have HSR : Hid (∀ W', Ext w9 W' → Calls Try.prog 11 #[.agg #[.int .i64 8, .int .i64 mc, .slice mA mn mk], .int .i64 q] W' (NmsPost W' M2)) := Lib.hid fun W' hx => by
    have := rsince_calls 8 X.c mA mk N X.L q W' (HROW.out.ext hx) (by omega)
    rwa [hM2, hmc, hmn] at this
  have hM2l : M2.length ≤ 60 := by rw [← hM2]; exact Nat.le_trans (nmsS_len _ _) hll
  clear hM2
  rw [hmc, hmn] at HRS HMB
  rw [hmc, hmn]
  have keep : Hid (∀ W' : World, Ext w9 W' → W'.cell? ⟨nb, 0, none⟩ = some (.int .i64 v) ∧ W'.cell? ⟨nb, 1, none⟩ = some (.int .i64 n) ∧ W'.cell? ⟨mb, 0, none⟩ = some (.int .i64 8) ∧ W'.cell? ⟨mb, 1, none⟩ = some (.int .i64 mc) ∧ W'.cell? ⟨mb, 2, none⟩ = some (.slice mA mn mk)) := Lib.hid fun W' h => ⟨cell_blk (h.block HNB.out) 0 rfl, cell_blk (h.block HNB.out) 1 rfl, cell_blk (h.block HMB.out) 0 rfl, cell_blk (h.block HMB.out) 1 rfl, cell_blk (h.block HMB.out) 2 rfl⟩
  have HE := Lib.hid (show Ext w9 w9.drew from (Ext.refl w9).drew)
  refine wp_region_noPanic ?_
  refine wp_region_held_drew (S := fun w' => w'.cell? ⟨nb, 0, none⟩ = some (.int .i64 v) ∧ w'.cell? ⟨nb, 1, none⟩ = some (.int .i64 n) ∧ w'.cell? ⟨mb, 0, none⟩ = some (.int .i64 8) ∧ w'.cell? ⟨mb, 1, none⟩ = some (.int .i64 mc) ∧ w'.cell? ⟨mb, 2, none⟩ = some (.slice mA mn mk)) (by kernel_rfl) ?_ (fun hHeld => ?_)
  · exact keep.out _ HE.out
  refine wpAnyH_take (i := 0) (v := ?_) rfl (by kernel_rfl) (by kernel_rfl) (by kernel_rfl) (fun _ _ _ h => h) (Or.inl ⟨by rfl, ?_⟩) (by assumption) ?_
  rotate_left
  · intro w hSw
    try dsimp only at hSw
    go_simp
    try with_reducible rfl
  try simp only [Act.put]
  try simp only [List.setIfInBounds_toArray]
  try simp only [List.set_cons_succ]
  try simp only [List.set_cons_zero]
  refine wpAnyH_take (i := 2) (v := ?_) rfl (by kernel_rfl) (by kernel_rfl) (by kernel_rfl) (fun _ _ _ h => h) (Or.inl ⟨by rfl, ?_⟩) (by assumption) ?_
  rotate_left
  · intro w hSw
    try dsimp only at hSw
    go_simp
    try with_reducible rfl
  try simp only [Act.put]
  try simp only [List.setIfInBounds_toArray]
  try simp only [List.set_cons_succ]
  try simp only [List.set_cons_zero]
  refine wpAnyH_take (i := 6) (v := ?_) rfl (by kernel_rfl) (by kernel_rfl) (by kernel_rfl) (fun _ _ _ h => h) (Or.inl ⟨by rfl, ?_⟩) (by assumption) ?_
  rotate_left
  · intro w hSw
    try dsimp only at hSw
    go_simp
    try with_reducible rfl
  try simp only [Act.put]
  try simp only [List.setIfInBounds_toArray]
  try simp only [List.set_cons_succ]
  try simp only [List.set_cons_zero]
  refine wpAnyH_ready (rs := [1, 3]) (by kernel_rfl) (by simp) ?_
  refine AllReadyH.cons rfl (fun K hK => ?_) (AllReadyH.cons rfl (fun K hK => ?_) AllReadyH.nil)
  · go_simp
    refine (HRS.out w9.drew HE.out).mono ?_
    rintro e wc ⟨v1, rfl, O1, hxc⟩
    replace O1 := own_less O1 HE.out.size
    replace HE := Lib.hid (HE.out.trans hxc)
    clear hxc
    go_simp
    refine hK.out _ _ ?_ (fun hHeld2 => ?_)
    · exact keep.out _ HE.out
    clear hHeld
    have hHeld := hHeld2
    clear hHeld2 hK K
    try simp only [Act.put]
    try simp only [List.setIfInBounds_toArray]
    try simp only [List.set_cons_succ]
    try simp only [List.set_cons_zero]
    refine wpAnyH_ready (rs := [3]) (by kernel_rfl) (by simp) ?_
    refine AllReadyH.cons rfl (fun K hK => ?_) AllReadyH.nil
    have hx : Ext wc (wc.alloc (.cells #[.int .i64 v, .int .i64 n] 34)) := (Ext.refl _).alloc _
    have B3 := heap_alloc_new wc (.cells #[.int .i64 v, .int .i64 n] 34)
    replace O1 := ownsRow_ext O1 hx
    replace HE := Lib.hid (HE.out.trans hx)
    clear hx
    go_simp
    generalize hwa : (wc.alloc (.cells #[.int .i64 v, .int .i64 n] 34)) = wa at *
    obtain ⟨n3, hn3⟩ : ∃ n3, wc.heap.size = n3 := ⟨_, rfl⟩
    rw [hn3] at B3
    try rw [hn3]
    clear hwa
    refine hK.out _ _ ?_ (fun hHeld2 => ?_)
    · exact keep.out _ HE.out
    clear hHeld
    have hHeld := hHeld2
    clear hHeld2 hK K
    try simp only [Act.put]
    try simp only [List.setIfInBounds_toArray]
    try simp only [List.set_cons_succ]
    try simp only [List.set_cons_zero]
    refine wpAnyH_ready (rs := [4]) (by kernel_rfl) (by simp) ?_
    refine AllReadyH.cons rfl (fun K hK => ?_) AllReadyH.nil
    refine wp_append_any _ _ _ 35 (by rfl) w9.heap.size 34 i0 (.agg #[.int .i64 0, .int .i64 0]) 2 16 Try.underlying35 hi0 hz0 hz1 hz2 rfl (by decide) v1 M.length (spans M) (by rfl) O1 wa.heap.size (some ⟨n3, 0, none⟩) 1 1 [.int .i64 v, .int .i64 n] (by rfl) (reads_one B3 rfl) (by simp [Value.oneCell']) (by unfold maxLen; omega) (by omega) HE.out.size ?_
    intro v4 w5 O4 hg4 hv4
    obtain ⟨A4, k4, rfl, _⟩ := own_shape O4
    have hE4 : Ext w9 w5 := grown_ext HE.out hg4 (fun g e => (O1.lt g e).1)
    replace HE := Lib.hid hE4
    have HO4 := Lib.hid O4
    clear hg4 hv4 hE4 O4 O1 B3
    refine hK.out _ _ ?_ (fun hHeld2 => ?_)
    · exact keep.out _ HE.out
    clear hHeld
    have hHeld := hHeld2
    clear hHeld2 hK K
    try simp only [Act.put]
    try simp only [List.setIfInBounds_toArray]
    try simp only [List.set_cons_succ]
    try simp only [List.set_cons_zero]
    refine wpAnyH_take (i := 5) (v := ?_) rfl (by kernel_rfl) (by kernel_rfl) (by kernel_rfl) (fun _ _ _ h => h) (Or.inl ⟨by rfl, ?_⟩) (by assumption) ?_
    rotate_left
    · intro w hSw
      try dsimp only at hSw
      go_simp
      try with_reducible rfl
    try simp only [Act.put]
    try simp only [List.setIfInBounds_toArray]
    try simp only [List.set_cons_succ]
    try simp only [List.set_cons_zero]
    try simp only [List.getElem_toArray, List.getElem_cons_succ, List.getElem_cons_zero]
    try simp only [Act.put]
    try simp only [List.setIfInBounds_toArray]
    try simp only [List.set_cons_succ]
    try simp only [List.set_cons_zero]
    try simp (config := {maxSteps := 2000000}) only [List.set_cons_succ, List.set_cons_zero]
    refine wpAnyH_done (by kernel_rfl) ?_ _
    refine noPanic_intro ?_
    have HLS := Lib.hid (show SAt w5 A4 (M ++ [⟨v, n⟩]) from sat_of_own (n := M.length + 1) (c := k4) (e := 34) (base := w9.heap.size) (by rw [spans_append]; exact HO4.out))
    have HNO : Hid (∀ s ∈ M ++ [(⟨v, n⟩ : Sp)], I64 s.t) := Lib.hid fun s hs => by
      rcases List.mem_append.1 hs with h | h
      · rw [← HM.out] at h
        obtain ⟨r, hr, rfl⟩ := List.mem_map.1 h
        have := HFW.out.fit.ok.ok r (List.mem_filter.1 hr).1
        obtain ⟨_, _, h3, h4, _⟩ := this
        show I64 r.n
        unfold I64; omega
      · rw [List.mem_singleton.1 h]; exact HN64.out
    clear HO4 hHeld
    go_wp2
    go_loopw [39] (fun i wr => ∃ k : Nat, k ≤ M.length + 1 ∧ i = .int .i64 k ∧ Ext w5 wr) (fun i _ => M.length + 1 - (intOf i).toNat)
    case atStart => exact ⟨0, Nat.zero_le _, rfl, Ext.refl _⟩
    case round =>
      obtain ⟨k, hk, rfl, hx⟩ := hrel
      by_cases hlt : k < M.length + 1
      · have hk2 : k < (M ++ [(⟨v, n⟩ : Sp)]).length := by simp; omega
        obtain ⟨b, o, rfl, p0, p1⟩ := (HLS.out.ext hx) k hk2
        have hmem : (M ++ [(⟨v, n⟩ : Sp)])[k] ∈ M ++ [(⟨v, n⟩ : Sp)] := List.getElem_mem _
        have hI6 := HNO.out _ hmem
        obtain ⟨s, hs⟩ : ∃ s, (M ++ [(⟨v, n⟩ : Sp)])[k] = s := ⟨_, rfl⟩
        replace p0 : wr.cell? ⟨b, o + k * 2, none⟩ = some (.int .i64 (M ++ [(⟨v, n⟩ : Sp)])[k].f) := p0
        replace p1 : wr.cell? ⟨b, o + k * 2 + 1, none⟩ = some (.int .i64 (M ++ [(⟨v, n⟩ : Sp)])[k].t) := p1
        rw [hs] at hI6 p0 p1
        have HI6 := Lib.hid hI6
        have hx1 : Ext wr (wr.alloc (.cells #[.int .i64 s.f, .int .i64 s.t] 34)) := (Ext.refl wr).alloc _
        have hbx := heap_alloc_new wr (.cells #[.int .i64 s.f, .int .i64 s.t] 34)
        have HXR := Lib.hid (HE.out.trans (hx.trans hx1))
        have HX5 := Lib.hid (hx.trans hx1)
        clear hmem hs hI6 hx hk2
        go_upto_region 11 with (fail)
        clear p0 p1 hx1
        generalize (wr.alloc (.cells #[.int .i64 s.f, .int .i64 s.t] 34)) = wa at *
        generalize wr.heap.size = sb at *
        have s0 : wa.cell? ⟨sb, 0, none⟩ = some (.int .i64 s.f) := cell_blk hbx 0 rfl
        have s1 : wa.cell? ⟨sb, 1, none⟩ = some (.int .i64 s.t) := cell_blk hbx 1 rfl
        go_wp2_with fail
        refine (name_calls s.f s.t wa).mono ?_
        rintro e wb ⟨rfl, hxb⟩
        go_wp2_with fail
        refine (xget_calls xb 8 X s.f s.t wb (HIX.out.ext (HXR.out.trans hxb)) HFW.out.fit HI6.out).mono ?_
        rintro e wc ⟨rfl, hxc⟩
        have HXC := Lib.hid (hxb.trans hxc)
        obtain ⟨-, -, m0, m1, m2⟩ := keep.out wc (HXR.out.trans HXC.out)
        replace s0 := HXC.out.cell s0
        replace s1 := HXC.out.cell s1
        have HG := Lib.hid (HRG.out wc (HXR.out.trans HXC.out) s.f s.t)
        clear hxb hxc hbx
        obtain ⟨R, hR⟩ : ∃ R, getS X.L s.f s.t = R := ⟨_, rfl⟩
        rw [hR] at HG
        rw [hR]
        clear hR
        cases R with
        | none =>
          have hgv : gotV none = .tuple #[.int .i64 0, .int .i64 0, .bool false] := rfl
          have hgs : gotS none = .tuple #[.agg #[.int .i64 0, .int .i64 0, .int .i64 0, .int .i64 0], .bool false] := rfl
          rw [hgs] at HG
          rw [hgv]
          clear hgv hgs
          go_wp2_with fail
          refine HG.out.mono ?_
          rintro e wd ⟨rfl, hxd⟩
          have HXD := Lib.hid ((HX5.out.trans HXC.out).trans hxd)
          clear hxd HG
          go_wp2
          go_roundw
          case rel => exact ⟨k + 1, by omega, by go_num, HXD.out.alloc _⟩
          case measure => simp [intOf] <;> omega
        | some r =>
          have hgv : gotV (some r) = .tuple #[.int .i64 r.b, .int .i64 r.c, .bool true] := rfl
          have hgs : gotS (some r) = .tuple #[.agg #[.int .i64 r.v, .int .i64 r.n, .int .i64 r.b, .int .i64 r.c], .bool true] := rfl
          rw [hgs] at HG
          rw [hgv]
          clear hgv hgs
          go_wp2_with fail
          refine HG.out.mono ?_
          rintro e wd ⟨rfl, hxd⟩
          have HXD := Lib.hid ((HX5.out.trans HXC.out).trans hxd)
          clear hxd HG
          go_wp2
          go_roundw
          case rel => exact ⟨k + 1, by omega, by go_num, HXD.out.alloc _⟩
          case measure => simp [intOf] <;> omega
      · obtain rfl : k = M.length + 1 := by omega
        have HE2 := Lib.hid (show Ext w9 wr.drew from (HE.out.trans hx).drew)
        clear hx HLS HNO
        go_upto_region 16 with (fail)
        refine wp_region_noPanic ?_
        refine wp_region_held_drew (S := fun w' => w'.cell? ⟨nb, 0, none⟩ = some (.int .i64 v) ∧ w'.cell? ⟨nb, 1, none⟩ = some (.int .i64 n) ∧ w'.cell? ⟨mb, 0, none⟩ = some (.int .i64 8) ∧ w'.cell? ⟨mb, 1, none⟩ = some (.int .i64 mc) ∧ w'.cell? ⟨mb, 2, none⟩ = some (.slice mA mn mk)) (by kernel_rfl) ?_ (fun hHeld => ?_)
        · exact keep.out _ HE2.out
        refine wpAnyH_take (i := 0) (v := ?_) rfl (by kernel_rfl) (by kernel_rfl) (by kernel_rfl) (fun _ _ _ h => h) (Or.inl ⟨by rfl, ?_⟩) (by assumption) ?_
        rotate_left
        · intro w hSw
          try dsimp only at hSw
          go_simp
          try with_reducible rfl
        try simp only [Act.put]
        try simp only [List.setIfInBounds_toArray]
        try simp only [List.set_cons_succ]
        try simp only [List.set_cons_zero]
        refine wpAnyH_take (i := 1) (v := ?_) rfl (by kernel_rfl) (by kernel_rfl) (by kernel_rfl) (fun _ _ _ h => h) (Or.inl ⟨by rfl, ?_⟩) (by assumption) ?_
        rotate_left
        · intro w hSw
          try dsimp only at hSw
          go_simp
          try with_reducible rfl
        try simp only [Act.put]
        try simp only [List.setIfInBounds_toArray]
        try simp only [List.set_cons_succ]
        try simp only [List.set_cons_zero]
        refine wpAnyH_take (i := 3) (v := ?_) rfl (by kernel_rfl) (by kernel_rfl) (by kernel_rfl) (fun _ _ _ h => h) (Or.inl ⟨by rfl, ?_⟩) (by assumption) ?_
        rotate_left
        · intro w hSw
          try dsimp only at hSw
          go_simp
          try with_reducible rfl
        try simp only [Act.put]
        try simp only [List.setIfInBounds_toArray]
        try simp only [List.set_cons_succ]
        try simp only [List.set_cons_zero]
        refine wpAnyH_take (i := 4) (v := ?_) rfl (by kernel_rfl) (by kernel_rfl) (by kernel_rfl) (fun _ _ _ h => h) (Or.inl ⟨by rfl, ?_⟩) (by assumption) ?_
        rotate_left
        · intro w hSw
          try dsimp only at hSw
          go_simp
          try with_reducible rfl
        try simp only [Act.put]
        try simp only [List.setIfInBounds_toArray]
        try simp only [List.set_cons_succ]
        try simp only [List.set_cons_zero]
        refine wpAnyH_ready (rs := [2]) (by kernel_rfl) (by simp) ?_
        refine AllReadyH.cons rfl (fun K hK => ?_) AllReadyH.nil
        go_simp
        refine (HSX.out wr.drew HE2.out).mono ?_
        rintro e wc ⟨v1, rfl, O1, hxc⟩
        obtain ⟨A1, k1, rfl, -⟩ := own_shape O1
        have HA1 := Lib.hid (show SAt wc A1 M2 from sat_of_own O1)
        replace HE2 := Lib.hid (HE2.out.trans hxc)
        clear hxc O1
        go_simp
        refine hK.out _ _ ?_ (fun hHeld2 => ?_)
        · exact keep.out _ HE2.out
        clear hHeld
        have hHeld := hHeld2
        clear hHeld2 hK K
        try simp only [Act.put]
        try simp only [List.setIfInBounds_toArray]
        try simp only [List.set_cons_succ]
        try simp only [List.set_cons_zero]
        refine wpAnyH_ready (rs := [5]) (by kernel_rfl) (by simp) ?_
        refine AllReadyH.cons rfl (fun K hK => ?_) AllReadyH.nil
        go_simp
        refine (HSR.out wc HE2.out).mono ?_
        rintro e wd ⟨v2, rfl, O2, hxd⟩
        obtain ⟨A2, k2, rfl, -⟩ := own_shape O2
        have HA2 := Lib.hid (show SAt wd A2 M2 from sat_of_own O2)
        replace HA1 := Lib.hid (HA1.out.ext hxd)
        replace HE2 := Lib.hid (HE2.out.trans hxd)
        clear hxd O2
        go_simp
        refine hK.out _ _ ?_ (fun hHeld2 => ?_)
        · exact keep.out _ HE2.out
        clear hHeld
        have hHeld := hHeld2
        clear hHeld2 hK K
        try simp only [Act.put]
        try simp only [List.setIfInBounds_toArray]
        try simp only [List.set_cons_succ]
        try simp only [List.set_cons_zero]
        refine wpAnyH_take (i := 6) (v := ?_) rfl (by kernel_rfl) (by kernel_rfl) (by kernel_rfl) (fun _ _ _ h => h) (Or.inl ⟨by rfl, ?_⟩) (by assumption) ?_
        rotate_left
        · intro w hSw
          try dsimp only at hSw
          go_simp
          try with_reducible rfl
        try simp only [Act.put]
        try simp only [List.setIfInBounds_toArray]
        try simp only [List.set_cons_succ]
        try simp only [List.set_cons_zero]
        try simp only [List.getElem_toArray, List.getElem_cons_succ, List.getElem_cons_zero]
        try simp only [Act.put]
        try simp only [List.setIfInBounds_toArray]
        try simp only [List.set_cons_succ]
        try simp only [List.set_cons_zero]
        refine wpAnyH_take (i := 7) (v := ?_) rfl (by kernel_rfl) (by kernel_rfl) (by kernel_rfl) (fun _ _ _ h => h) (Or.inl ⟨by rfl, ?_⟩) (by assumption) ?_
        rotate_left
        · intro w hSw
          try dsimp only at hSw
          go_simp
          try with_reducible rfl
        try simp only [Act.put]
        try simp only [List.setIfInBounds_toArray]
        try simp only [List.set_cons_succ]
        try simp only [List.set_cons_zero]
        try simp only [List.getElem_toArray, List.getElem_cons_succ, List.getElem_cons_zero]
        try simp only [Act.put]
        try simp only [List.setIfInBounds_toArray]
        try simp only [List.set_cons_succ]
        try simp only [List.set_cons_zero]
        try simp (config := {maxSteps := 2000000}) only [List.set_cons_succ, List.set_cons_zero]
        refine wpAnyH_done (by kernel_rfl) ?_ _
        refine noPanic_intro ?_
        clear hHeld
        go_wp2
        go_loopw [86] (fun i wr => ∃ k : Nat, k ≤ M2.length ∧ i = .int .i64 k ∧ Ext wd wr) (fun i _ => M2.length - (intOf i).toNat)
        case atStart => exact ⟨0, Nat.zero_le _, rfl, Ext.refl _⟩
        case round =>
          obtain ⟨k, hk, rfl, hx⟩ := hrel
          by_cases hlt : k < M2.length
          · obtain ⟨b1, o1, rfl, p0, p1⟩ := (HA1.out.ext hx) k hlt
            obtain ⟨b2, o2, rfl, q0, q1⟩ := (HA2.out.ext hx) k hlt
            obtain ⟨s, hs⟩ : ∃ s, M2[k] = s := ⟨_, rfl⟩
            replace p0 : wr.cell? ⟨b1, o1 + k * 2, none⟩ = some (.int .i64 M2[k].f) := p0
            replace p1 : wr.cell? ⟨b1, o1 + k * 2 + 1, none⟩ = some (.int .i64 M2[k].t) := p1
            replace q0 : wr.cell? ⟨b2, o2 + k * 2, none⟩ = some (.int .i64 M2[k].f) := q0
            replace q1 : wr.cell? ⟨b2, o2 + k * 2 + 1, none⟩ = some (.int .i64 M2[k].t) := q1
            rw [hs] at p0 p1 q0 q1
            clear hs
            have hq := neqNm s.f s.t
            have hg50 := guardNm
            go_upto_region 22 with (fail)
            refine wp_region_ext_lit (by kernel_rfl) (by kernel_rfl) ?_
            intro X' _ g hg hg'
            have P0 : ∀ n, (g n).cell? ⟨b1, o1 + k * 2, none⟩ = some (.int .i64 s.f) := fun n => (hg n).cell p0
            have P1 : ∀ n, (g n).cell? ⟨b1, o1 + k * 2 + 1, none⟩ = some (.int .i64 s.t) := fun n => (hg n).cell p1
            have Q0 : ∀ n, (g n).cell? ⟨b2, o2 + k * 2, none⟩ = some (.int .i64 s.f) := fun n => (hg n).cell q0
            have Q1 : ∀ n, (g n).cell? ⟨b2, o2 + k * 2 + 1, none⟩ = some (.int .i64 s.t) := fun n => (hg n).cell q1
            repeat (go_big_quiet_step ((go_at_call 13; exact (name_calls s.f s.t _).mono fun e w2 ⟨he, hx⟩ => ⟨he, hg' _ ((hg _).trans hx)⟩)))
            refine wpQuiet_nil ?_
            rintro w' ⟨n, rfl⟩
            have hxg := hx.trans (hg n)
            clear P0 P1 Q0 Q1 hq hg hg'
            go_wp2
            go_roundw
            case rel => exact ⟨k + 1, by omega, by go_num, hxg⟩
            case measure => simp [intOf] <;> omega
          · obtain rfl : k = M2.length := by omega
            go_wp2
            go_ret
            exact ⟨rfl, (HXW.out.trans HE2.out).trans hx⟩
  · have B3 : (w9.alloc (.cells #[.int .i64 v, .int .i64 n] 34)).drew.heap[w9.heap.size]? = some (.cells #[.int .i64 v, .int .i64 n] 34 (0, 0)) := (show Ext (w9.alloc (.cells #[.int .i64 v, .int .i64 n] 34)) (w9.alloc (.cells #[.int .i64 v, .int .i64 n] 34)).drew from (Ext.refl _).drew).block (heap_alloc_new w9 _)
    replace HE := Lib.hid (show Ext w9 (w9.alloc (.cells #[.int .i64 v, .int .i64 n] 34)).drew from ((Ext.refl w9).alloc _).drew)
    go_simp
    generalize hwa : (w9.alloc (.cells #[.int .i64 v, .int .i64 n] 34)).drew = wa at *
    obtain ⟨n3, hn3⟩ : ∃ n3, w9.heap.size = n3 := ⟨_, rfl⟩
    rw [hn3] at B3
    try rw [hn3]
    clear hwa
    refine hK.out _ _ ?_ (fun hHeld2 => ?_)
    · exact keep.out _ HE.out
    clear hHeld
    have hHeld := hHeld2
    clear hHeld2 hK K
    try simp only [Act.put]
    try simp only [List.setIfInBounds_toArray]
    try simp only [List.set_cons_succ]
    try simp only [List.set_cons_zero]
    refine wpAnyH_ready (rs := [1]) (by kernel_rfl) (by simp) ?_
    refine AllReadyH.cons rfl (fun K hK => ?_) AllReadyH.nil
    go_simp
    refine (HRS.out wa HE.out).mono ?_
    rintro e wc ⟨v1, rfl, O1, hxc⟩
    replace O1 := own_less O1 HE.out.size
    replace B3 := hxc.block B3
    replace HE := Lib.hid (HE.out.trans hxc)
    clear hxc
    go_simp
    refine hK.out _ _ ?_ (fun hHeld2 => ?_)
    · exact keep.out _ HE.out
    clear hHeld
    have hHeld := hHeld2
    clear hHeld2 hK K
    try simp only [Act.put]
    try simp only [List.setIfInBounds_toArray]
    try simp only [List.set_cons_succ]
    try simp only [List.set_cons_zero]
    refine wpAnyH_ready (rs := [4]) (by kernel_rfl) (by simp) ?_
    refine AllReadyH.cons rfl (fun K hK => ?_) AllReadyH.nil
    refine wp_append_any _ _ _ 35 (by rfl) w9.heap.size 34 i0 (.agg #[.int .i64 0, .int .i64 0]) 2 16 Try.underlying35 hi0 hz0 hz1 hz2 rfl (by decide) v1 M.length (spans M) (by rfl) O1 wc.heap.size (some ⟨n3, 0, none⟩) 1 1 [.int .i64 v, .int .i64 n] (by rfl) (reads_one B3 rfl) (by simp [Value.oneCell']) (by unfold maxLen; omega) (by omega) HE.out.size ?_
    intro v4 w5 O4 hg4 hv4
    obtain ⟨A4, k4, rfl, _⟩ := own_shape O4
    have hE4 : Ext w9 w5 := grown_ext HE.out hg4 (fun g e => (O1.lt g e).1)
    replace HE := Lib.hid hE4
    have HO4 := Lib.hid O4
    clear hg4 hv4 hE4 O4 O1 B3
    refine hK.out _ _ ?_ (fun hHeld2 => ?_)
    · exact keep.out _ HE.out
    clear hHeld
    have hHeld := hHeld2
    clear hHeld2 hK K
    try simp only [Act.put]
    try simp only [List.setIfInBounds_toArray]
    try simp only [List.set_cons_succ]
    try simp only [List.set_cons_zero]
    refine wpAnyH_take (i := 5) (v := ?_) rfl (by kernel_rfl) (by kernel_rfl) (by kernel_rfl) (fun _ _ _ h => h) (Or.inl ⟨by rfl, ?_⟩) (by assumption) ?_
    rotate_left
    · intro w hSw
      try dsimp only at hSw
      go_simp
      try with_reducible rfl
    try simp only [Act.put]
    try simp only [List.setIfInBounds_toArray]
    try simp only [List.set_cons_succ]
    try simp only [List.set_cons_zero]
    try simp only [List.getElem_toArray, List.getElem_cons_succ, List.getElem_cons_zero]
    try simp only [Act.put]
    try simp only [List.setIfInBounds_toArray]
    try simp only [List.set_cons_succ]
    try simp only [List.set_cons_zero]
    try simp (config := {maxSteps := 2000000}) only [List.set_cons_succ, List.set_cons_zero]
    refine wpAnyH_done (by kernel_rfl) ?_ _
    refine noPanic_intro ?_
    have HLS := Lib.hid (show SAt w5 A4 (M ++ [⟨v, n⟩]) from sat_of_own (n := M.length + 1) (c := k4) (e := 34) (base := w9.heap.size) (by rw [spans_append]; exact HO4.out))
    have HNO : Hid (∀ s ∈ M ++ [(⟨v, n⟩ : Sp)], I64 s.t) := Lib.hid fun s hs => by
      rcases List.mem_append.1 hs with h | h
      · rw [← HM.out] at h
        obtain ⟨r, hr, rfl⟩ := List.mem_map.1 h
        have := HFW.out.fit.ok.ok r (List.mem_filter.1 hr).1
        obtain ⟨_, _, h3, h4, _⟩ := this
        show I64 r.n
        unfold I64; omega
      · rw [List.mem_singleton.1 h]; exact HN64.out
    clear HO4 hHeld
    go_wp2
    go_loopw [39] (fun i wr => ∃ k : Nat, k ≤ M.length + 1 ∧ i = .int .i64 k ∧ Ext w5 wr) (fun i _ => M.length + 1 - (intOf i).toNat)
    case atStart => exact ⟨0, Nat.zero_le _, rfl, Ext.refl _⟩
    case round =>
      obtain ⟨k, hk, rfl, hx⟩ := hrel
      by_cases hlt : k < M.length + 1
      · have hk2 : k < (M ++ [(⟨v, n⟩ : Sp)]).length := by simp; omega
        obtain ⟨b, o, rfl, p0, p1⟩ := (HLS.out.ext hx) k hk2
        have hmem : (M ++ [(⟨v, n⟩ : Sp)])[k] ∈ M ++ [(⟨v, n⟩ : Sp)] := List.getElem_mem _
        have hI6 := HNO.out _ hmem
        obtain ⟨s, hs⟩ : ∃ s, (M ++ [(⟨v, n⟩ : Sp)])[k] = s := ⟨_, rfl⟩
        replace p0 : wr.cell? ⟨b, o + k * 2, none⟩ = some (.int .i64 (M ++ [(⟨v, n⟩ : Sp)])[k].f) := p0
        replace p1 : wr.cell? ⟨b, o + k * 2 + 1, none⟩ = some (.int .i64 (M ++ [(⟨v, n⟩ : Sp)])[k].t) := p1
        rw [hs] at hI6 p0 p1
        have HI6 := Lib.hid hI6
        have hx1 : Ext wr (wr.alloc (.cells #[.int .i64 s.f, .int .i64 s.t] 34)) := (Ext.refl wr).alloc _
        have hbx := heap_alloc_new wr (.cells #[.int .i64 s.f, .int .i64 s.t] 34)
        have HXR := Lib.hid (HE.out.trans (hx.trans hx1))
        have HX5 := Lib.hid (hx.trans hx1)
        clear hmem hs hI6 hx hk2
        go_upto_region 11 with (fail)
        clear p0 p1 hx1
        generalize (wr.alloc (.cells #[.int .i64 s.f, .int .i64 s.t] 34)) = wa at *
        generalize wr.heap.size = sb at *
        have s0 : wa.cell? ⟨sb, 0, none⟩ = some (.int .i64 s.f) := cell_blk hbx 0 rfl
        have s1 : wa.cell? ⟨sb, 1, none⟩ = some (.int .i64 s.t) := cell_blk hbx 1 rfl
        go_wp2_with fail
        refine (name_calls s.f s.t wa).mono ?_
        rintro e wb ⟨rfl, hxb⟩
        go_wp2_with fail
        refine (xget_calls xb 8 X s.f s.t wb (HIX.out.ext (HXR.out.trans hxb)) HFW.out.fit HI6.out).mono ?_
        rintro e wc ⟨rfl, hxc⟩
        have HXC := Lib.hid (hxb.trans hxc)
        obtain ⟨-, -, m0, m1, m2⟩ := keep.out wc (HXR.out.trans HXC.out)
        replace s0 := HXC.out.cell s0
        replace s1 := HXC.out.cell s1
        have HG := Lib.hid (HRG.out wc (HXR.out.trans HXC.out) s.f s.t)
        clear hxb hxc hbx
        obtain ⟨R, hR⟩ : ∃ R, getS X.L s.f s.t = R := ⟨_, rfl⟩
        rw [hR] at HG
        rw [hR]
        clear hR
        cases R with
        | none =>
          have hgv : gotV none = .tuple #[.int .i64 0, .int .i64 0, .bool false] := rfl
          have hgs : gotS none = .tuple #[.agg #[.int .i64 0, .int .i64 0, .int .i64 0, .int .i64 0], .bool false] := rfl
          rw [hgs] at HG
          rw [hgv]
          clear hgv hgs
          go_wp2_with fail
          refine HG.out.mono ?_
          rintro e wd ⟨rfl, hxd⟩
          have HXD := Lib.hid ((HX5.out.trans HXC.out).trans hxd)
          clear hxd HG
          go_wp2
          go_roundw
          case rel => exact ⟨k + 1, by omega, by go_num, HXD.out.alloc _⟩
          case measure => simp [intOf] <;> omega
        | some r =>
          have hgv : gotV (some r) = .tuple #[.int .i64 r.b, .int .i64 r.c, .bool true] := rfl
          have hgs : gotS (some r) = .tuple #[.agg #[.int .i64 r.v, .int .i64 r.n, .int .i64 r.b, .int .i64 r.c], .bool true] := rfl
          rw [hgs] at HG
          rw [hgv]
          clear hgv hgs
          go_wp2_with fail
          refine HG.out.mono ?_
          rintro e wd ⟨rfl, hxd⟩
          have HXD := Lib.hid ((HX5.out.trans HXC.out).trans hxd)
          clear hxd HG
          go_wp2
          go_roundw
          case rel => exact ⟨k + 1, by omega, by go_num, HXD.out.alloc _⟩
          case measure => simp [intOf] <;> omega
      · obtain rfl : k = M.length + 1 := by omega
        have HE2 := Lib.hid (show Ext w9 wr.drew from (HE.out.trans hx).drew)
        clear hx HLS HNO
        go_upto_region 16 with (fail)
        refine wp_region_noPanic ?_
        refine wp_region_held_drew (S := fun w' => w'.cell? ⟨nb, 0, none⟩ = some (.int .i64 v) ∧ w'.cell? ⟨nb, 1, none⟩ = some (.int .i64 n) ∧ w'.cell? ⟨mb, 0, none⟩ = some (.int .i64 8) ∧ w'.cell? ⟨mb, 1, none⟩ = some (.int .i64 mc) ∧ w'.cell? ⟨mb, 2, none⟩ = some (.slice mA mn mk)) (by kernel_rfl) ?_ (fun hHeld => ?_)
        · exact keep.out _ HE2.out
        refine wpAnyH_take (i := 0) (v := ?_) rfl (by kernel_rfl) (by kernel_rfl) (by kernel_rfl) (fun _ _ _ h => h) (Or.inl ⟨by rfl, ?_⟩) (by assumption) ?_
        rotate_left
        · intro w hSw
          try dsimp only at hSw
          go_simp
          try with_reducible rfl
        try simp only [Act.put]
        try simp only [List.setIfInBounds_toArray]
        try simp only [List.set_cons_succ]
        try simp only [List.set_cons_zero]
        refine wpAnyH_take (i := 1) (v := ?_) rfl (by kernel_rfl) (by kernel_rfl) (by kernel_rfl) (fun _ _ _ h => h) (Or.inl ⟨by rfl, ?_⟩) (by assumption) ?_
        rotate_left
        · intro w hSw
          try dsimp only at hSw
          go_simp
          try with_reducible rfl
        try simp only [Act.put]
        try simp only [List.setIfInBounds_toArray]
        try simp only [List.set_cons_succ]
        try simp only [List.set_cons_zero]
        refine wpAnyH_take (i := 3) (v := ?_) rfl (by kernel_rfl) (by kernel_rfl) (by kernel_rfl) (fun _ _ _ h => h) (Or.inl ⟨by rfl, ?_⟩) (by assumption) ?_
        rotate_left
        · intro w hSw
          try dsimp only at hSw
          go_simp
          try with_reducible rfl
        try simp only [Act.put]
        try simp only [List.setIfInBounds_toArray]
        try simp only [List.set_cons_succ]
        try simp only [List.set_cons_zero]
        refine wpAnyH_take (i := 4) (v := ?_) rfl (by kernel_rfl) (by kernel_rfl) (by kernel_rfl) (fun _ _ _ h => h) (Or.inl ⟨by rfl, ?_⟩) (by assumption) ?_
        rotate_left
        · intro w hSw
          try dsimp only at hSw
          go_simp
          try with_reducible rfl
        try simp only [Act.put]
        try simp only [List.setIfInBounds_toArray]
        try simp only [List.set_cons_succ]
        try simp only [List.set_cons_zero]
        refine wpAnyH_ready (rs := [2]) (by kernel_rfl) (by simp) ?_
        refine AllReadyH.cons rfl (fun K hK => ?_) AllReadyH.nil
        go_simp
        refine (HSX.out wr.drew HE2.out).mono ?_
        rintro e wc ⟨v1, rfl, O1, hxc⟩
        obtain ⟨A1, k1, rfl, -⟩ := own_shape O1
        have HA1 := Lib.hid (show SAt wc A1 M2 from sat_of_own O1)
        replace HE2 := Lib.hid (HE2.out.trans hxc)
        clear hxc O1
        go_simp
        refine hK.out _ _ ?_ (fun hHeld2 => ?_)
        · exact keep.out _ HE2.out
        clear hHeld
        have hHeld := hHeld2
        clear hHeld2 hK K
        try simp only [Act.put]
        try simp only [List.setIfInBounds_toArray]
        try simp only [List.set_cons_succ]
        try simp only [List.set_cons_zero]
        refine wpAnyH_ready (rs := [5]) (by kernel_rfl) (by simp) ?_
        refine AllReadyH.cons rfl (fun K hK => ?_) AllReadyH.nil
        go_simp
        refine (HSR.out wc HE2.out).mono ?_
        rintro e wd ⟨v2, rfl, O2, hxd⟩
        obtain ⟨A2, k2, rfl, -⟩ := own_shape O2
        have HA2 := Lib.hid (show SAt wd A2 M2 from sat_of_own O2)
        replace HA1 := Lib.hid (HA1.out.ext hxd)
        replace HE2 := Lib.hid (HE2.out.trans hxd)
        clear hxd O2
        go_simp
        refine hK.out _ _ ?_ (fun hHeld2 => ?_)
        · exact keep.out _ HE2.out
        clear hHeld
        have hHeld := hHeld2
        clear hHeld2 hK K
        try simp only [Act.put]
        try simp only [List.setIfInBounds_toArray]
        try simp only [List.set_cons_succ]
        try simp only [List.set_cons_zero]
        refine wpAnyH_take (i := 6) (v := ?_) rfl (by kernel_rfl) (by kernel_rfl) (by kernel_rfl) (fun _ _ _ h => h) (Or.inl ⟨by rfl, ?_⟩) (by assumption) ?_
        rotate_left
        · intro w hSw
          try dsimp only at hSw
          go_simp
          try with_reducible rfl
        try simp only [Act.put]
        try simp only [List.setIfInBounds_toArray]
        try simp only [List.set_cons_succ]
        try simp only [List.set_cons_zero]
        try simp only [List.getElem_toArray, List.getElem_cons_succ, List.getElem_cons_zero]
        try simp only [Act.put]
        try simp only [List.setIfInBounds_toArray]
        try simp only [List.set_cons_succ]
        try simp only [List.set_cons_zero]
        refine wpAnyH_take (i := 7) (v := ?_) rfl (by kernel_rfl) (by kernel_rfl) (by kernel_rfl) (fun _ _ _ h => h) (Or.inl ⟨by rfl, ?_⟩) (by assumption) ?_
        rotate_left
        · intro w hSw
          try dsimp only at hSw
          go_simp
          try with_reducible rfl
        try simp only [Act.put]
        try simp only [List.setIfInBounds_toArray]
        try simp only [List.set_cons_succ]
        try simp only [List.set_cons_zero]
        try simp only [List.getElem_toArray, List.getElem_cons_succ, List.getElem_cons_zero]
        try simp only [Act.put]
        try simp only [List.setIfInBounds_toArray]
        try simp only [List.set_cons_succ]
        try simp only [List.set_cons_zero]
        try simp (config := {maxSteps := 2000000}) only [List.set_cons_succ, List.set_cons_zero]
        refine wpAnyH_done (by kernel_rfl) ?_ _
        refine noPanic_intro ?_
        clear hHeld
        go_wp2
        go_loopw [86] (fun i wr => ∃ k : Nat, k ≤ M2.length ∧ i = .int .i64 k ∧ Ext wd wr) (fun i _ => M2.length - (intOf i).toNat)
        case atStart => exact ⟨0, Nat.zero_le _, rfl, Ext.refl _⟩
        case round =>
          obtain ⟨k, hk, rfl, hx⟩ := hrel
          by_cases hlt : k < M2.length
          · obtain ⟨b1, o1, rfl, p0, p1⟩ := (HA1.out.ext hx) k hlt
            obtain ⟨b2, o2, rfl, q0, q1⟩ := (HA2.out.ext hx) k hlt
            obtain ⟨s, hs⟩ : ∃ s, M2[k] = s := ⟨_, rfl⟩
            replace p0 : wr.cell? ⟨b1, o1 + k * 2, none⟩ = some (.int .i64 M2[k].f) := p0
            replace p1 : wr.cell? ⟨b1, o1 + k * 2 + 1, none⟩ = some (.int .i64 M2[k].t) := p1
            replace q0 : wr.cell? ⟨b2, o2 + k * 2, none⟩ = some (.int .i64 M2[k].f) := q0
            replace q1 : wr.cell? ⟨b2, o2 + k * 2 + 1, none⟩ = some (.int .i64 M2[k].t) := q1
            rw [hs] at p0 p1 q0 q1
            clear hs
            have hq := neqNm s.f s.t
            have hg50 := guardNm
            go_upto_region 22 with (fail)
            refine wp_region_ext_lit (by kernel_rfl) (by kernel_rfl) ?_
            intro X' _ g hg hg'
            have P0 : ∀ n, (g n).cell? ⟨b1, o1 + k * 2, none⟩ = some (.int .i64 s.f) := fun n => (hg n).cell p0
            have P1 : ∀ n, (g n).cell? ⟨b1, o1 + k * 2 + 1, none⟩ = some (.int .i64 s.t) := fun n => (hg n).cell p1
            have Q0 : ∀ n, (g n).cell? ⟨b2, o2 + k * 2, none⟩ = some (.int .i64 s.f) := fun n => (hg n).cell q0
            have Q1 : ∀ n, (g n).cell? ⟨b2, o2 + k * 2 + 1, none⟩ = some (.int .i64 s.t) := fun n => (hg n).cell q1
            repeat (go_big_quiet_step ((go_at_call 13; exact (name_calls s.f s.t _).mono fun e w2 ⟨he, hx⟩ => ⟨he, hg' _ ((hg _).trans hx)⟩)))
            refine wpQuiet_nil ?_
            rintro w' ⟨n, rfl⟩
            have hxg := hx.trans (hg n)
            clear P0 P1 Q0 Q1 hq hg hg'
            go_wp2
            go_roundw
            case rel => exact ⟨k + 1, by omega, by go_num, hxg⟩
            case measure => simp [intOf] <;> omega
          · obtain rfl : k = M2.length := by omega
            go_wp2
            go_ret
            exact ⟨rfl, (HXW.out.trans HE2.out).trans hx⟩
theorem lawGets_all (A : Option Addr) (c : Nat) (l : List Ac) (v n q : Int) (w : World) (h : ActsIn w A l) (_hv : I64 v) (hn : I64 n) (hq : (Lit.int .i64 q).wf = true) : Calls Try.prog 4 #[.slice A l.length c, .agg #[.int .i64 v, .int .i64 n], .int .i64 q] w fun e w' => e = .returned (.bool true) ∧ Ext w w' :=
  lawGets_calls A c l v n q w h hn (i64_wf hq)
end Go.Proofs.Ytgcplndmhlideaa
