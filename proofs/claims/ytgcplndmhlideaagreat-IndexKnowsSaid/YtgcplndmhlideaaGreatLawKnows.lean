/- The walk of the law IndexKnows. -/
import Derived.Test.YtgcplndmhlideaaGreatVersA
import Derived.Test.YtgcplndmhlideaaGreatOpen
namespace Go.Proofs.YtgcplndmhlideaaGreat
open Go.RowKit

theorem uOk8 : uOk 8 = true := by decide
theorem OfAt.of_ix {xb : Nat} {u : Int} {x : Ix} {w : World} (v : Int) (h : IxAt w xb u x) (hf : Fit u x) : OfAt w (some ⟨xb, 0, none⟩) v (itemsOf x.L v) := fun W hW => ofx0_calls xb u x v w W h hf hW
theorem items_small {u : Int} {x : Ix} (hf : Fit u x) (v : Int) : (itemsOf x.L v).length ≤ 1000 := by have := items_len x.L v; have := hf.len; omega
theorem nos_small {u : Int} {x : Ix} (hf : Fit u x) (v : Int) : (nosS x.L v).length ≤ 1000 := by
  rw [← nos_items hf v, List.length_map]
  exact items_small hf v
/-- A list of numbers that a call hands back. -/
def NumPost (w : World) (l : List Int) (e : Ending) (w' : World) : Prop := ∃ A c, e = .returned (.slice A l.length c) ∧ IAt w' A l ∧ Ext w w'

set_option maxHeartbeats 4000000 in
set_option maxRecDepth 100000 in
theorem lawKnows_calls (A : Option Addr) (c : Nat) (l : List Ac) (v : Int) (w : World) (h : ActsIn w A l) : Calls Tryz.prog 3 #[.slice A l.length c, .int .i64 v] w fun e w' => e = .returned (.bool true) ∧ Ext w w' := by
  obtain ⟨ha, hi, hm⟩ := h
  go_enter Tryz.func3, Tryz.ntmps3
  go_wp2_with fail
  refine (alive_calls w).mono ?_
  rintro e w1 ⟨rfl, hx1⟩
  by_cases hlt : 60 < l.length
  · have hlt2 : (60 : Int) < (l.length : Int) := by omega
    clear ha hi
    go_wp2
    go_ret
    exact ⟨rfl, hx1⟩
  have hle : ¬ (60 : Int) < (l.length : Int) := by omega
  have HP := Lib.hid (play_calls A c l 8 w1 (ha.ext hx1) hi (by omega))
  have HL := Lib.hid hlt
  clear ha hi hlt
  go_wp2_with fail
  refine HP.out.mono ?_
  rintro e w2 (⟨hu, xb, N, vv, rfl, hxb, hxn, hNs, hix, hrow, hx2⟩ | ⟨hu, _⟩)
  rotate_left
  · rw [uOk8] at hu; cases hu
  obtain ⟨mA, mk, rfl, -⟩ := own_shape (show w2.ownsRow N 84 4 vv (playX 8 l).L.length (slsV (playX 8 l).L) from hrow)
  have hfw := play_few uOk8 l (by have := HL.out; omega)
  generalize playX 8 l = X at *
  have hll : X.L.length ≤ 60 := by have := hfw.len; have := HL.out; omega
  have hxa : Ext w2 (w2.alloc (.cells #[.int .i64 8, .int .i64 X.c, .slice mA X.L.length mk] 27)) := (Ext.refl w2).alloc _
  have HMB := Lib.hid (heap_alloc_new w2 (.cells #[.int .i64 8, .int .i64 X.c, .slice mA X.L.length mk] 27))
  have HXW := Lib.hid ((hx1.trans hx2).trans hxa)
  have HIX := Lib.hid (hix.ext hxa)
  have HROW := Lib.hid (hrow.ext hxa)
  have HFW := Lib.hid hfw.fit
  clear hix hrow hx1 hx2 hxa hxb hxn hNs hfw hu HP
  go_upto_region 6 with (fail)
  generalize (w2.alloc (.cells #[.int .i64 8, .int .i64 X.c, .slice mA X.L.length mk] 27)) = w9 at *
  generalize w2.heap.size = mb at *
  have HVL : Hid ((versS X.L).length ≤ 1000000) := Lib.hid (by have := versS_len X.L X.L.length (Nat.le_refl _); rw [List.take_length] at this; omega)
  have HNL : Hid (∀ z, (nosS X.L z).length ≤ 1000000) := Lib.hid fun z => Nat.le_trans (nos_small HFW.out z) (by decide)
  have HSL : Hid (∀ z, (ofS (spansS X.L 8 z)).length ≤ 1000000) := Lib.hid fun z => by have := of_length (spansS X.L 8 z); have := spansS_len X.L 8 z; omega
  have HNU : Hid (∀ (W : World) (la lb : List Int) (A B : Option Addr) (c d : Nat), IAt W A la → IAt W B lb → la.length ≤ 1000000 → lb.length ≤ 1000000 → la = lb → Calls Tryz.prog 6 #[.slice A la.length c, .slice B lb.length d] W fun e w' => e = .returned (.bool true) ∧ Ext W w') := Lib.hid fun W la lb A B c d h1 h2 h3 h4 h5 => by
    have := numbers_calls A B c d la lb W h1 h2 h3 h4
    simpa [h5] using this
  obtain ⟨mc, hmc⟩ : ∃ mc, X.c = mc := ⟨_, rfl⟩
  obtain ⟨mn, hmn⟩ : ∃ mn, X.L.length = mn := ⟨_, rfl⟩
  have HV1 : Hid (∀ W', Ext w9 W' → Calls Tryz.prog 7 #[.pointer (some ⟨xb, 0, none⟩)] W' (NPost W' (versS X.L))) := Lib.hid fun W' hx => xvers_calls xb 8 X W' (HIX.out.ext hx) HFW.out
  have HV2 : Hid (∀ W', Ext w9 W' → Calls Tryz.prog 8 #[.agg #[.int .i64 8, .int .i64 mc, .slice mA mn mk]] W' (OwnPost W'.heap.size W' (versS X.L))) := Lib.hid fun W' hx => by
    have := rvers_calls 8 X.c mA mk N X.L W' (HROW.out.ext hx) (by omega)
    rwa [hmc, hmn] at this
  have H9 : Hid (∀ W', Ext w9 W' → ∀ z : Int, Calls Tryz.prog 9 #[.pointer (some ⟨xb, 0, none⟩), .int .i64 z] W' (NumPost W' (nosS X.L z))) := Lib.hid fun W' hx z => (lawof_calls _ z _ W' (OfAt.of_ix z (HIX.out.ext hx) HFW.out) (items_small HFW.out z)).mono fun e w' h => by
    obtain ⟨v, h1, h2, h3⟩ := h
    obtain ⟨A, c, rfl, -⟩ := own_shape h2
    have hl := congrArg List.length (nos_items HFW.out z)
    rw [List.length_map] at hl
    rw [nos_vals HFW.out z] at h2
    rw [hl] at h1
    exact ⟨A, c, h1, iat_of_own h2, h3⟩
  have H10 : Hid (∀ W', Ext w9 W' → ∀ z : Int, Calls Tryz.prog 10 #[.agg #[.int .i64 8, .int .i64 mc, .slice mA mn mk], .int .i64 z] W' (NPost W' (nosS X.L z))) := Lib.hid fun W' hx z => by
    have := rof_calls 8 X.c mA mk N X.L z W' (HROW.out.ext hx) (by omega)
    rwa [hmc, hmn] at this
  have H12 : Hid (∀ W', Ext w9 W' → ∀ z : Int, Calls Tryz.prog 12 #[.pointer (some ⟨xb, 0, none⟩), .int .i64 z] W' (SetPost W' (ofS (spansS X.L 8 z)))) := Lib.hid fun W' hx z => by
    rw [← has_eq HFW.out z]
    exact has_any _ 8 z _ W' (OfAt.of_ix z (HIX.out.ext hx) HFW.out) (.inr ⟨xb, rfl, by obtain ⟨p, q, lv, hb, _⟩ := HIX.out.ext hx; exact cell_blk hb 0 rfl⟩) (items_small HFW.out z)
  have H14 : Hid (∀ W', Ext w9 W' → ∀ z : Int, Calls Tryz.prog 14 #[.agg #[.int .i64 8, .int .i64 mc, .slice mA mn mk], .int .i64 z] W' (HasPost W' (ofS (spansS X.L 8 z)))) := Lib.hid fun W' hx z => by
    have := rhas_calls 8 X.c mA mk N X.L z W' (HROW.out.ext hx) (by omega) HFW.out.ok.ok (by decide) (by decide)
    rwa [hmc, hmn] at this
  rw [hmc, hmn] at HMB
  rw [hmc, hmn]
  obtain ⟨VS, hVS⟩ : ∃ VS, versS X.L = VS := ⟨_, rfl⟩
  have hvl : VS.length ≤ 60 := by have := versS_len X.L X.L.length (Nat.le_refl _); rw [List.take_length, hVS] at this; omega
  rw [hVS] at HV1 HV2 HVL
  clear hVS HIX HROW hmc hmn hll
  have keep : Hid (∀ W' : World, Ext w9 W' → W'.cell? ⟨mb, 0, none⟩ = some (.int .i64 8) ∧ W'.cell? ⟨mb, 1, none⟩ = some (.int .i64 mc) ∧ W'.cell? ⟨mb, 2, none⟩ = some (.slice mA mn mk)) := Lib.hid fun W' h => ⟨cell_blk (h.block HMB.out) 0 rfl, cell_blk (h.block HMB.out) 1 rfl, cell_blk (h.block HMB.out) 2 rfl⟩
  have HE := Lib.hid (show Ext w9 w9.drew from (Ext.refl w9).drew)
  refine wp_region_noPanic ?_
  refine wp_region_held_drew (S := fun w' => w'.cell? ⟨mb, 0, none⟩ = some (.int .i64 8) ∧ w'.cell? ⟨mb, 1, none⟩ = some (.int .i64 mc) ∧ w'.cell? ⟨mb, 2, none⟩ = some (.slice mA mn mk)) (by kernel_rfl) ?_ (fun hHeld => ?_)
  · exact keep.out _ HE.out
  refine wpAnyH_take (i := 0) (v := ?_) rfl (by kernel_rfl) (by kernel_rfl) (by kernel_rfl) (fun _ _ _ h => h) (Or.inl ⟨by rfl, ?_⟩) (by assumption) ?_
  rotate_left
  · intro w hSw
    try dsimp only at hSw
    go_simp
    try with_reducible rfl
  try simp only [Act.put]
  try simp only [List.setIfInBounds_toArray]
  try simp only [List.set_cons_succ]
  try simp only [List.set_cons_zero]
  refine wpAnyH_take (i := 1) (v := ?_) rfl (by kernel_rfl) (by kernel_rfl) (by kernel_rfl) (fun _ _ _ h => h) (Or.inl ⟨by rfl, ?_⟩) (by assumption) ?_
  rotate_left
  · intro w hSw
    try dsimp only at hSw
    go_simp
    try with_reducible rfl
  try simp only [Act.put]
  try simp only [List.setIfInBounds_toArray]
  try simp only [List.set_cons_succ]
  try simp only [List.set_cons_zero]
  refine wpAnyH_take (i := 2) (v := ?_) rfl (by kernel_rfl) (by kernel_rfl) (by kernel_rfl) (fun _ _ _ h => h) (Or.inl ⟨by rfl, ?_⟩) (by assumption) ?_
  rotate_left
  · intro w hSw
    try dsimp only at hSw
    go_simp
    try with_reducible rfl
  try simp only [Act.put]
  try simp only [List.setIfInBounds_toArray]
  try simp only [List.set_cons_succ]
  try simp only [List.set_cons_zero]
  refine wpAnyH_take (i := 3) (v := ?_) rfl (by kernel_rfl) (by kernel_rfl) (by kernel_rfl) (fun _ _ _ h => h) (Or.inl ⟨by rfl, ?_⟩) (by assumption) ?_
  rotate_left
  · intro w hSw
    try dsimp only at hSw
    go_simp
    try with_reducible rfl
  try simp only [Act.put]
  try simp only [List.setIfInBounds_toArray]
  try simp only [List.set_cons_succ]
  try simp only [List.set_cons_zero]
  refine wpAnyH_take (i := 5) (v := ?_) rfl (by kernel_rfl) (by kernel_rfl) (by kernel_rfl) (fun _ _ _ h => h) (Or.inl ⟨by rfl, ?_⟩) (by assumption) ?_
  rotate_left
  · intro w hSw
    try dsimp only at hSw
    go_simp
    try with_reducible rfl
  try simp only [Act.put]
  try simp only [List.setIfInBounds_toArray]
  try simp only [List.set_cons_succ]
  try simp only [List.set_cons_zero]
  refine wpAnyH_ready (rs := [4]) (by kernel_rfl) (by simp) ?_
  refine AllReadyH.cons rfl (fun K hK => ?_) AllReadyH.nil
  go_simp
  refine (HV1.out _ HE.out).mono ?_
  rintro e wa ⟨A1, k1, rfl, I1, -, hxa⟩
  replace HE := Lib.hid (HE.out.trans hxa)
  replace I1 := Lib.hid I1
  clear hxa
  go_simp
  refine hK.out _ _ ?_ (fun hHeld2 => ?_)
  · exact keep.out _ HE.out
  clear hHeld
  have hHeld := hHeld2
  clear hHeld2 hK K
  try simp only [Act.put]
  try simp only [List.setIfInBounds_toArray]
  try simp only [List.set_cons_succ]
  try simp only [List.set_cons_zero]
  try simp only [List.getElem_toArray, List.getElem_cons_succ, List.getElem_cons_zero]
  try simp only [Act.put]
  try simp only [List.setIfInBounds_toArray]
  try simp only [List.set_cons_succ]
  try simp only [List.set_cons_zero]
  refine wpAnyH_ready (rs := [6]) (by kernel_rfl) (by simp) ?_
  refine AllReadyH.cons rfl (fun K hK => ?_) AllReadyH.nil
  go_simp
  refine (HV2.out _ HE.out).mono ?_
  rintro e wb ⟨v2, rfl, O2, hxb⟩
  replace HE := Lib.hid (HE.out.trans hxb)
  obtain ⟨A2, k2, rfl, -⟩ := own_shape O2
  have I2 := Lib.hid (iat_of_own O2)
  replace I1 := Lib.hid (I1.out.ext hxb)
  clear O2
  clear hxb
  go_simp
  refine hK.out _ _ ?_ (fun hHeld2 => ?_)
  · exact keep.out _ HE.out
  clear hHeld
  have hHeld := hHeld2
  clear hHeld2 hK K
  try simp only [Act.put]
  try simp only [List.setIfInBounds_toArray]
  try simp only [List.set_cons_succ]
  try simp only [List.set_cons_zero]
  try simp only [List.getElem_toArray, List.getElem_cons_succ, List.getElem_cons_zero]
  try simp only [Act.put]
  try simp only [List.setIfInBounds_toArray]
  try simp only [List.set_cons_succ]
  try simp only [List.set_cons_zero]
  refine wpAnyH_ready (rs := [7]) (by kernel_rfl) (by simp) ?_
  refine AllReadyH.cons rfl (fun K hK => ?_) AllReadyH.nil
  go_simp
  refine (HNU.out wb VS VS A1 A2 k1 k2 I1.out I2.out HVL.out HVL.out rfl).mono ?_
  rintro e wc ⟨rfl, hxc⟩
  replace HE := Lib.hid (HE.out.trans hxc)
  clear I1 I2
  clear hxc
  go_simp
  refine hK.out _ _ ?_ (fun hHeld2 => ?_)
  · exact keep.out _ HE.out
  clear hHeld
  have hHeld := hHeld2
  clear hHeld2 hK K
  try simp only [Act.put]
  try simp only [List.setIfInBounds_toArray]
  try simp only [List.set_cons_succ]
  try simp only [List.set_cons_zero]
  refine wpAnyH_take (i := 8) (v := ?_) rfl (by kernel_rfl) (by kernel_rfl) (by kernel_rfl) (fun _ _ _ h => h) (Or.inl ⟨by rfl, ?_⟩) (by assumption) ?_
  rotate_left
  · intro w hSw
    try dsimp only at hSw
    go_simp
    try with_reducible rfl
  try simp only [Act.put]
  try simp only [List.setIfInBounds_toArray]
  try simp only [List.set_cons_succ]
  try simp only [List.set_cons_zero]
  try simp only [List.getElem_toArray, List.getElem_cons_succ, List.getElem_cons_zero]
  try simp only [Act.put]
  try simp only [List.setIfInBounds_toArray]
  try simp only [List.set_cons_succ]
  try simp only [List.set_cons_zero]
  refine wpAnyH_take (i := 9) (v := ?_) rfl (by kernel_rfl) (by kernel_rfl) (by kernel_rfl) (fun _ _ _ h => h) (Or.inl ⟨by rfl, ?_⟩) (by assumption) ?_
  rotate_left
  · intro w hSw
    try dsimp only at hSw
    go_simp
    try with_reducible rfl
  try simp only [Act.put]
  try simp only [List.setIfInBounds_toArray]
  try simp only [List.set_cons_succ]
  try simp only [List.set_cons_zero]
  try simp only [List.getElem_toArray, List.getElem_cons_succ, List.getElem_cons_zero]
  try simp only [Act.put]
  try simp only [List.setIfInBounds_toArray]
  try simp only [List.set_cons_succ]
  try simp only [List.set_cons_zero]
  try simp (config := {maxSteps := 2000000}) only [List.set_cons_succ, List.set_cons_zero]
  refine wpAnyH_done (by kernel_rfl) ?_ _
  refine noPanic_intro ?_
  clear hHeld
  have m0 : wc.cell? ⟨mb, 0, none⟩ = some (.int .i64 8) := (keep.out _ HE.out).1
  have m1 : wc.cell? ⟨mb, 1, none⟩ = some (.int .i64 mc) := (keep.out _ HE.out).2.1
  have m2 : wc.cell? ⟨mb, 2, none⟩ = some (.slice mA mn mk) := (keep.out _ HE.out).2.2
  go_wp2_with fail
  refine (HV2.out wc HE.out).mono ?_
  rintro e w5 ⟨v2, rfl, O2, hx5⟩
  obtain ⟨A8, k8, rfl, -⟩ := own_shape O2
  have HE5 := Lib.hid (HE.out.trans hx5)
  have hsz := hx5.size
  clear m0 m1 m2
  go_wp2_with (at_builtin; refine wpList_append_new _ rfl _ _ 31 rfl wc.heap.size 2 _ 1 8 Tryz.underlying31 infoI rfl (by omega) _ VS.length (ints VS) rfl O2 1 1 w5.heap.size (by simp) _ (by rfl) (by rfl) (by simp [Value.oneCell']) (by simp [maxLen]; omega) (by omega) hsz ?_; intro v1 w6 hown6 hm6; obtain ⟨A6, k6, rfl, -⟩ := own_shape hown6; have hx6 := ext_moved hx5 O2 hm6; have HI6 := Lib.hid (show IAt w6 A6 (VS ++ [v]) from iat_of_own (n := VS.length + 1) (c := k6) (by rw [ints_append]; exact hown6)); have HE6 := Lib.hid (HE.out.trans hx6))
  clear hown6 hm6 hx6 hx5 O2 hsz HE5 HV1 HV2 HVL HE
  go_loopw [37] (fun i wr => ∃ k : Nat, k ≤ VS.length + 1 ∧ i = .int .i64 k ∧ Ext w6 wr) (fun i _ => VS.length + 1 - (intOf i).toNat)
  case atStart => exact ⟨0, Nat.zero_le _, rfl, Ext.refl _⟩
  case round =>
    obtain ⟨k, hk, rfl, hx⟩ := hrel
    by_cases hlt : k < VS.length + 1
    · have hk2 : k < (VS ++ [v]).length := by simp; omega
      obtain ⟨b, o, rfl, p0⟩ := (HI6.out.ext hx) k hk2
      obtain ⟨z, hz⟩ : ∃ z, (VS ++ [v])[k] = z := ⟨_, rfl⟩
      rw [hz] at p0
      clear hz hk2
      have HE := Lib.hid (show Ext w6 wr.drew from hx.trans (Ext.refl wr).drew)
      clear hx
      go_upto_region 11 with (fail)
      refine wp_region_noPanic ?_
      refine wp_region_held_drew (S := fun w' => w'.cell? ⟨mb, 0, none⟩ = some (.int .i64 8) ∧ w'.cell? ⟨mb, 1, none⟩ = some (.int .i64 mc) ∧ w'.cell? ⟨mb, 2, none⟩ = some (.slice mA mn mk)) (by kernel_rfl) ?_ (fun hHeld => ?_)
      · exact keep.out _ (HE6.out.trans HE.out)
      refine wpAnyH_take (i := 0) (v := ?_) rfl (by kernel_rfl) (by kernel_rfl) (by kernel_rfl) (fun _ _ _ h => h) (Or.inl ⟨by rfl, ?_⟩) (by assumption) ?_
      rotate_left
      · intro w hSw
        try dsimp only at hSw
        go_simp
        try with_reducible rfl
      try simp only [Act.put]
      try simp only [List.setIfInBounds_toArray]
      try simp only [List.set_cons_succ]
      try simp only [List.set_cons_zero]
      refine wpAnyH_take (i := 1) (v := ?_) rfl (by kernel_rfl) (by kernel_rfl) (by kernel_rfl) (fun _ _ _ h => h) (Or.inl ⟨by rfl, ?_⟩) (by assumption) ?_
      rotate_left
      · intro w hSw
        try dsimp only at hSw
        go_simp
        try with_reducible rfl
      try simp only [Act.put]
      try simp only [List.setIfInBounds_toArray]
      try simp only [List.set_cons_succ]
      try simp only [List.set_cons_zero]
      refine wpAnyH_take (i := 3) (v := ?_) rfl (by kernel_rfl) (by kernel_rfl) (by kernel_rfl) (fun _ _ _ h => h) (Or.inl ⟨by rfl, ?_⟩) (by assumption) ?_
      rotate_left
      · intro w hSw
        try dsimp only at hSw
        go_simp
        try with_reducible rfl
      try simp only [Act.put]
      try simp only [List.setIfInBounds_toArray]
      try simp only [List.set_cons_succ]
      try simp only [List.set_cons_zero]
      refine wpAnyH_take (i := 4) (v := ?_) rfl (by kernel_rfl) (by kernel_rfl) (by kernel_rfl) (fun _ _ _ h => h) (Or.inl ⟨by rfl, ?_⟩) (by assumption) ?_
      rotate_left
      · intro w hSw
        try dsimp only at hSw
        go_simp
        try with_reducible rfl
      try simp only [Act.put]
      try simp only [List.setIfInBounds_toArray]
      try simp only [List.set_cons_succ]
      try simp only [List.set_cons_zero]
      refine wpAnyH_ready (rs := [2]) (by kernel_rfl) (by simp) ?_
      refine AllReadyH.cons rfl (fun K hK => ?_) AllReadyH.nil
      go_simp
      refine (H9.out _ (HE6.out.trans HE.out) z).mono ?_
      rintro e wa ⟨A1, k1, rfl, I1, hxa⟩
      replace HE := Lib.hid (HE.out.trans hxa)
      replace I1 := Lib.hid I1
      clear hxa
      go_simp
      refine hK.out _ _ ?_ (fun hHeld2 => ?_)
      · exact keep.out _ (HE6.out.trans HE.out)
      clear hHeld
      have hHeld := hHeld2
      clear hHeld2 hK K
      try simp only [Act.put]
      try simp only [List.setIfInBounds_toArray]
      try simp only [List.set_cons_succ]
      try simp only [List.set_cons_zero]
      try simp only [List.getElem_toArray, List.getElem_cons_succ, List.getElem_cons_zero]
      try simp only [Act.put]
      try simp only [List.setIfInBounds_toArray]
      try simp only [List.set_cons_succ]
      try simp only [List.set_cons_zero]
      refine wpAnyH_ready (rs := [5]) (by kernel_rfl) (by simp) ?_
      refine AllReadyH.cons rfl (fun K hK => ?_) AllReadyH.nil
      go_simp
      refine (H10.out _ (HE6.out.trans HE.out) z).mono ?_
      rintro e wb ⟨A2, k2, rfl, I2, -, hxb⟩
      replace HE := Lib.hid (HE.out.trans hxb)
      replace I2 := Lib.hid I2
      replace I1 := Lib.hid (I1.out.ext hxb)
      clear hxb
      go_simp
      refine hK.out _ _ ?_ (fun hHeld2 => ?_)
      · exact keep.out _ (HE6.out.trans HE.out)
      clear hHeld
      have hHeld := hHeld2
      clear hHeld2 hK K
      try simp only [Act.put]
      try simp only [List.setIfInBounds_toArray]
      try simp only [List.set_cons_succ]
      try simp only [List.set_cons_zero]
      try simp only [List.getElem_toArray, List.getElem_cons_succ, List.getElem_cons_zero]
      try simp only [Act.put]
      try simp only [List.setIfInBounds_toArray]
      try simp only [List.set_cons_succ]
      try simp only [List.set_cons_zero]
      refine wpAnyH_ready (rs := [6]) (by kernel_rfl) (by simp) ?_
      refine AllReadyH.cons rfl (fun K hK => ?_) AllReadyH.nil
      go_simp
      refine (HNU.out wb (nosS X.L z) (nosS X.L z) A1 A2 k1 k2 I1.out I2.out (HNL.out z) (HNL.out z) rfl).mono ?_
      rintro e wc ⟨rfl, hxc⟩
      replace HE := Lib.hid (HE.out.trans hxc)
      clear I1 I2
      clear hxc
      go_simp
      refine hK.out _ _ ?_ (fun hHeld2 => ?_)
      · exact keep.out _ (HE6.out.trans HE.out)
      clear hHeld
      have hHeld := hHeld2
      clear hHeld2 hK K
      try simp only [Act.put]
      try simp only [List.setIfInBounds_toArray]
      try simp only [List.set_cons_succ]
      try simp only [List.set_cons_zero]
      refine wpAnyH_take (i := 7) (v := ?_) rfl (by kernel_rfl) (by kernel_rfl) (by kernel_rfl) (fun _ _ _ h => h) (Or.inl ⟨by rfl, ?_⟩) (by assumption) ?_
      rotate_left
      · intro w hSw
        try dsimp only at hSw
        go_simp
        try with_reducible rfl
      try simp only [Act.put]
      try simp only [List.setIfInBounds_toArray]
      try simp only [List.set_cons_succ]
      try simp only [List.set_cons_zero]
      try simp only [List.getElem_toArray, List.getElem_cons_succ, List.getElem_cons_zero]
      try simp only [Act.put]
      try simp only [List.setIfInBounds_toArray]
      try simp only [List.set_cons_succ]
      try simp only [List.set_cons_zero]
      refine wpAnyH_take (i := 8) (v := ?_) rfl (by kernel_rfl) (by kernel_rfl) (by kernel_rfl) (fun _ _ _ h => h) (Or.inl ⟨by rfl, ?_⟩) (by assumption) ?_
      rotate_left
      · intro w hSw
        try dsimp only at hSw
        go_simp
        try with_reducible rfl
      try simp only [Act.put]
      try simp only [List.setIfInBounds_toArray]
      try simp only [List.set_cons_succ]
      try simp only [List.set_cons_zero]
      try simp only [List.getElem_toArray, List.getElem_cons_succ, List.getElem_cons_zero]
      try simp only [Act.put]
      try simp only [List.setIfInBounds_toArray]
      try simp only [List.set_cons_succ]
      try simp only [List.set_cons_zero]
      refine wpAnyH_take (i := 9) (v := ?_) rfl (by kernel_rfl) (by kernel_rfl) (by kernel_rfl) (fun _ _ _ h => h) (Or.inl ⟨by rfl, ?_⟩) (by assumption) ?_
      rotate_left
      · intro w hSw
        try dsimp only at hSw
        go_simp
        try with_reducible rfl
      try simp only [Act.put]
      try simp only [List.setIfInBounds_toArray]
      try simp only [List.set_cons_succ]
      try simp only [List.set_cons_zero]
      refine wpAnyH_take (i := 10) (v := ?_) rfl (by kernel_rfl) (by kernel_rfl) (by kernel_rfl) (fun _ _ _ h => h) (Or.inl ⟨by rfl, ?_⟩) (by assumption) ?_
      rotate_left
      · intro w hSw
        try dsimp only at hSw
        go_simp
        try with_reducible rfl
      try simp only [Act.put]
      try simp only [List.setIfInBounds_toArray]
      try simp only [List.set_cons_succ]
      try simp only [List.set_cons_zero]
      refine wpAnyH_take (i := 13) (v := ?_) rfl (by kernel_rfl) (by kernel_rfl) (by kernel_rfl) (fun _ _ _ h => h) (Or.inl ⟨by rfl, ?_⟩) (by assumption) ?_
      rotate_left
      · intro w hSw
        try dsimp only at hSw
        go_simp
        try with_reducible rfl
      try simp only [Act.put]
      try simp only [List.setIfInBounds_toArray]
      try simp only [List.set_cons_succ]
      try simp only [List.set_cons_zero]
      refine wpAnyH_take (i := 14) (v := ?_) rfl (by kernel_rfl) (by kernel_rfl) (by kernel_rfl) (fun _ _ _ h => h) (Or.inl ⟨by rfl, ?_⟩) (by assumption) ?_
      rotate_left
      · intro w hSw
        try dsimp only at hSw
        go_simp
        try with_reducible rfl
      try simp only [Act.put]
      try simp only [List.setIfInBounds_toArray]
      try simp only [List.set_cons_succ]
      try simp only [List.set_cons_zero]
      refine wpAnyH_ready (rs := [11]) (by kernel_rfl) (by simp) ?_
      refine AllReadyH.cons rfl (fun K hK => ?_) AllReadyH.nil
      go_simp
      refine (H12.out _ (HE6.out.trans HE.out) z).mono ?_
      rintro e wd ⟨A3, k3, rfl, I3, -, hxd⟩
      replace HE := Lib.hid (HE.out.trans hxd)
      clear hxd
      go_simp
      refine hK.out _ _ ?_ (fun hHeld2 => ?_)
      · exact keep.out _ (HE6.out.trans HE.out)
      clear hHeld
      have hHeld := hHeld2
      clear hHeld2 hK K
      try simp only [Act.put]
      try simp only [List.setIfInBounds_toArray]
      try simp only [List.set_cons_succ]
      try simp only [List.set_cons_zero]
      try simp only [List.getElem_toArray, List.getElem_cons_succ, List.getElem_cons_zero]
      try simp only [Act.put]
      try simp only [List.setIfInBounds_toArray]
      try simp only [List.set_cons_succ]
      try simp only [List.set_cons_zero]
      refine wpAnyH_ready (rs := [12]) (by kernel_rfl) (by simp) ?_
      refine AllReadyH.cons rfl (fun K hK => ?_) AllReadyH.nil
      go_simp
      refine (spans_calls A3 k3 (ofS (spansS X.L 8 z)) wd I3.out (HSL.out z)).mono ?_
      rintro e we ⟨v4, rfl, O4, hxe⟩
      replace HE := Lib.hid (HE.out.trans hxe)
      obtain ⟨A4, k4, rfl, -⟩ := own_shape O4
      have I4 := Lib.hid (sat_of_own O4)
      clear O4 I3
      clear hxe
      go_simp
      refine hK.out _ _ ?_ (fun hHeld2 => ?_)
      · exact keep.out _ (HE6.out.trans HE.out)
      clear hHeld
      have hHeld := hHeld2
      clear hHeld2 hK K
      try simp only [Act.put]
      try simp only [List.setIfInBounds_toArray]
      try simp only [List.set_cons_succ]
      try simp only [List.set_cons_zero]
      try simp only [List.getElem_toArray, List.getElem_cons_succ, List.getElem_cons_zero]
      try simp only [Act.put]
      try simp only [List.setIfInBounds_toArray]
      try simp only [List.set_cons_succ]
      try simp only [List.set_cons_zero]
      refine wpAnyH_ready (rs := [15]) (by kernel_rfl) (by simp) ?_
      refine AllReadyH.cons rfl (fun K hK => ?_) AllReadyH.nil
      go_simp
      refine (H14.out _ (HE6.out.trans HE.out) z).mono ?_
      rintro e wf ⟨A5, k5, rfl, I5, hxf⟩
      replace HE := Lib.hid (HE.out.trans hxf)
      replace I4 := Lib.hid (I4.out.ext hxf)
      clear hxf
      go_simp
      refine hK.out _ _ ?_ (fun hHeld2 => ?_)
      · exact keep.out _ (HE6.out.trans HE.out)
      clear hHeld
      have hHeld := hHeld2
      clear hHeld2 hK K
      try simp only [Act.put]
      try simp only [List.setIfInBounds_toArray]
      try simp only [List.set_cons_succ]
      try simp only [List.set_cons_zero]
      try simp only [List.getElem_toArray, List.getElem_cons_succ, List.getElem_cons_zero]
      try simp only [Act.put]
      try simp only [List.setIfInBounds_toArray]
      try simp only [List.set_cons_succ]
      try simp only [List.set_cons_zero]
      refine wpAnyH_ready (rs := [16]) (by kernel_rfl) (by simp) ?_
      refine AllReadyH.cons rfl (fun K hK => ?_) AllReadyH.nil
      go_simp
      refine (list_calls A4 A5 k4 k5 (ofS (spansS X.L 8 z)) (ofS (spansS X.L 8 z)) wf I4.out I5.out (HSL.out z) (HSL.out z)).mono ?_
      rintro e wg ⟨rfl, hxg⟩
      replace HE := Lib.hid (HE.out.trans hxg)
      clear I4 I5
      clear hxg
      simp only [decide_true]
      go_simp
      refine hK.out _ _ ?_ (fun hHeld2 => ?_)
      · exact keep.out _ (HE6.out.trans HE.out)
      clear hHeld
      have hHeld := hHeld2
      clear hHeld2 hK K
      try simp only [Act.put]
      try simp only [List.setIfInBounds_toArray]
      try simp only [List.set_cons_succ]
      try simp only [List.set_cons_zero]
      refine wpAnyH_take (i := 17) (v := ?_) rfl (by kernel_rfl) (by kernel_rfl) (by kernel_rfl) (fun _ _ _ h => h) (Or.inl ⟨by rfl, ?_⟩) (by assumption) ?_
      rotate_left
      · intro w hSw
        try dsimp only at hSw
        go_simp
        try with_reducible rfl
      try simp only [Act.put]
      try simp only [List.setIfInBounds_toArray]
      try simp only [List.set_cons_succ]
      try simp only [List.set_cons_zero]
      try simp only [List.getElem_toArray, List.getElem_cons_succ, List.getElem_cons_zero]
      try simp only [Act.put]
      try simp only [List.setIfInBounds_toArray]
      try simp only [List.set_cons_succ]
      try simp only [List.set_cons_zero]
      refine wpAnyH_take (i := 18) (v := ?_) rfl (by kernel_rfl) (by kernel_rfl) (by kernel_rfl) (fun _ _ _ h => h) (Or.inl ⟨by rfl, ?_⟩) (by assumption) ?_
      rotate_left
      · intro w hSw
        try dsimp only at hSw
        go_simp
        try with_reducible rfl
      try simp only [Act.put]
      try simp only [List.setIfInBounds_toArray]
      try simp only [List.set_cons_succ]
      try simp only [List.set_cons_zero]
      try simp only [List.getElem_toArray, List.getElem_cons_succ, List.getElem_cons_zero]
      try simp only [Act.put]
      try simp only [List.setIfInBounds_toArray]
      try simp only [List.set_cons_succ]
      try simp only [List.set_cons_zero]
      try simp (config := {maxSteps := 2000000}) only [List.set_cons_succ, List.set_cons_zero]
      refine wpAnyH_done (by kernel_rfl) ?_ _
      refine noPanic_intro ?_
      clear hHeld
      go_wp2
      go_roundw
      case rel => exact ⟨k + 1, by omega, by go_num, HE.out⟩
      case measure => simp [intOf] <;> omega
    · obtain rfl : k = VS.length + 1 := by omega
      go_wp2
      go_ret
      exact ⟨rfl, (HXW.out.trans HE6.out).trans hx⟩
end Go.Proofs.YtgcplndmhlideaaGreat
