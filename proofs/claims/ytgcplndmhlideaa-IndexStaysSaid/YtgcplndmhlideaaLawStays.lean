/- The walk of the law IndexStays. -/
import Derived.Test.YtgcplndmhlideaaNosp
import Derived.Test.YtgcplndmhlideaaOpen
import Derived.Lib.MinMax
namespace Go.Proofs.Ytgcplndmhlideaa
open Go.RowKit

theorem uOk8 : uOk 8 = true := by decide
/-- An act as this law takes it: whatever is no put and no drop forgets. -/
def norA (a : Ac) : Ac := ⟨if a.k = 0 then 0 else if a.k = 1 then 1 else 2, a.v, a.n, a.b⟩
def morX (x : Ix) (l : List Ac) : Ix := (l.map norA).foldl (actX 8) x
theorem mor_snoc (x : Ix) (l : List Ac) (k : Nat) (hk : k < l.length) : morX x (l.take (k + 1)) = actX 8 (morX x (l.take k)) (norA l[k]) := by
  rw [List.take_succ_eq_append_getElem hk]
  unfold morX
  rw [List.map_append, List.foldl_append]; rfl
theorem mor_few {x : Ix} {m : Nat} (h : Few 8 m x) (l : List Ac) (hl : m + l.length ≤ 900) (k : Nat) (hk : k ≤ l.length) : Few 8 (m + k) (morX x (l.take k)) := by
  have := h.play ((l.take k).map norA) (by simp; omega)
  rwa [List.length_map, List.length_take, Nat.min_eq_left hk] at this
theorem it_chx {w w' : World} {xb : Nat} {p : Option Addr} {l : List (Pr It)} (h : ItAt w p l) (hap : Apt xb w) (k : Chx xb w w') : ItAt w' p l :=
  h.kq hap ⟨k.os, k.tape, k.output, k.size, fun i hi hne => k.block i hi (by simp; exact fun e => hne e)⟩
theorem items_small {u : Int} {x : Ix} (hf : Fit u x) (v : Int) : (itemsOf x.L v).length ≤ 1000 := by
  have h := congrArg List.length (nos_items hf v)
  rw [List.length_map] at h
  have := nosS_len x.L v x.L.length (Nat.le_refl _)
  rw [List.take_length] at this
  have := hf.len
  omega

set_option maxHeartbeats 4000000 in
set_option maxRecDepth 100000 in
theorem lawStays_calls (A B : Option Addr) (c d : Nat) (l m : List Ac) (v : Int) (w : World) (h : ActsIn w A l) (h2 : ActsIn w B m) : Calls Try.prog 5 #[.slice A l.length c, .slice B m.length d, .int .i64 v] w fun e w' => e = .returned (.bool true) ∧ Ext w w' := by
  obtain ⟨ha, hi, hm⟩ := h
  obtain ⟨hb, hj, hm2⟩ := h2
  go_enter Try.func5, Try.ntmps5
  go_wp2_with fail
  refine (alive_calls w).mono ?_
  rintro e w1 ⟨rfl, hx1⟩
  by_cases hlt : 40 < l.length
  · have hlt2 : (40 : Int) < (l.length : Int) := by omega
    clear ha hi hb hj
    go_wp2
    go_ret
    exact ⟨rfl, hx1⟩
  have hle : ¬ (40 : Int) < (l.length : Int) := by omega
  by_cases hlt3 : 20 < m.length
  · have hlt4 : (20 : Int) < (m.length : Int) := by omega
    clear ha hi hb hj
    go_wp2
    go_ret
    exact ⟨rfl, hx1⟩
  have hle3 : ¬ (20 : Int) < (m.length : Int) := by omega
  have HP := Lib.hid (play_calls A c l 8 w1 (ha.ext hx1) hi (by omega))
  have HL := Lib.hid (And.intro hlt hlt3)
  have HB := Lib.hid hb
  have HI64 := Lib.hid hj
  have hsw := hx1.size
  clear ha hi hb hj hlt
  go_wp2_with fail
  refine HP.out.mono ?_
  rintro e w2 (⟨hu, xb, N, vv, rfl, hxb, hxn, hNs, hix, hrow, hx2⟩ | ⟨hu, _⟩)
  rotate_left
  · rw [uOk8] at hu; cases hu
  obtain ⟨mA, mk, rfl, -⟩ := own_shape (show w2.ownsRow N 42 4 vv (playX 8 l).L.length (slsV (playX 8 l).L) from hrow)
  have hfw := play_few uOk8 l (by have := HL.out; omega)
  generalize playX 8 l = X at *
  have hxa : Ext w2 (w2.alloc (.cells #[.int .i64 8, .int .i64 X.c, .slice mA X.L.length mk] 27)) := (Ext.refl w2).alloc _
  have HMB := Lib.hid (heap_alloc_new w2 (.cells #[.int .i64 8, .int .i64 X.c, .slice mA X.L.length mk] 27))
  have HXW := Lib.hid ((hx1.trans hx2).trans hxa)
  have HIX := Lib.hid (hix.ext hxa)
  have HROW := Lib.hid (hrow.ext hxa)
  have HFX := Lib.hid hfw
  have HIL := Lib.hid (items_small hfw.fit v)
  have HXN := Lib.hid hxn
  have HWX : Hid (w.heap.size ≤ xb) := Lib.hid (by omega)
  have HNX : Hid (w2.heap.size ≠ xb) := Lib.hid (by omega)
  clear hix hrow hx1 hx2 hxa hxb hxn hNs hfw hu HP hsw
  go_upto_region 8 with (fail)
  generalize (w2.alloc (.cells #[.int .i64 8, .int .i64 X.c, .slice mA X.L.length mk] 27)) = w9 at *
  generalize w2.heap.size = mb at *
  have HOA : Hid (OfAt w9 (some ⟨xb, 0, none⟩) v (itemsOf X.L v)) := Lib.hid fun W hW => ofx0_calls xb 8 X v w9 W HIX.out HFX.out.fit hW
  go_wp2_with fail
  refine (xof_calls (some ⟨xb, 0, none⟩) v _ w9 w9 HOA.out (Ext.refl _)).mono ?_
  rintro e w3 ⟨qb, pm, rfl, hqb, hit, hx3⟩
  replace HMB := Lib.hid (hx3.block HMB.out)
  replace HXW := Lib.hid (HXW.out.trans hx3)
  replace HIX := Lib.hid (HIX.out.ext hx3)
  replace HROW := Lib.hid (HROW.out.ext hx3)
  have HIT := Lib.hid (hit.ext hx3)
  have HQB := Lib.hid hqb
  have HAP : Hid (Apt xb w3) := Lib.hid (by obtain ⟨p, q, lv, hb, _⟩ := HIX.out; exact Apt.ix hb)
  have hqx : qb ≠ xb := fun e => by
    obtain ⟨p, q, lv, hb, _⟩ := HIX.out
    rw [e, hb] at hqb
    simp at hqb
  have HNE := Lib.hid (And.intro HNX.out hqx)
  clear hqb hit hx3 hqx HNX HOA
  go_wp2
  go_loopw [38] (fun i wr => ∃ k : Nat, k ≤ m.length ∧ i = .int .i64 k ∧ IxAt wr xb 8 (morX X (m.take k)) ∧ Chx xb w3 wr) (fun i _ => m.length - (intOf i).toNat)
  case atStart => exact ⟨0, Nat.zero_le _, rfl, HIX.out, Chx.refl _ _⟩
  case round =>
    obtain ⟨k, hk, rfl, hix', hcx⟩ := hrel
    by_cases hlt : k < m.length
    · have hfew := mor_few HFX.out m (by have := HL.out; omega) k hk
      have hs1 := mor_snoc X m k hlt
      have hxr := HXW.out.chx hcx HWX.out
      generalize morX X (m.take k) = XQ at *
      obtain ⟨b, o, rfl, p0, p1, p2, p3⟩ := (HB.out.ext hxr) k hlt
      obtain ⟨a, ha⟩ : ∃ a, m[k] = a := ⟨_, rfl⟩
      replace p0 : wr.cell? ⟨b, o + k * 4, none⟩ = some (.int .i64 m[k].k) := p0
      replace p1 : wr.cell? ⟨b, o + k * 4 + 1, none⟩ = some (.int .i64 m[k].v) := p1
      replace p2 : wr.cell? ⟨b, o + k * 4 + 2, none⟩ = some (.int .i64 m[k].n) := p2
      replace p3 : wr.cell? ⟨b, o + k * 4 + 3, none⟩ = some (.int .i64 m[k].b) := p3
      rw [ha] at hs1 p0 p1 p2 p3
      have HS1 := Lib.hid hs1
      have HIR := Lib.hid hix'
      have HFW := Lib.hid hfew
      have HMEM : Hid (a ∈ m) := Lib.hid (ha ▸ List.getElem_mem hlt)
      have HSX : Hid (wr.heap.size ≠ xb) := Lib.hid (by
        obtain ⟨p, q, lv, hb, _⟩ := hix'
        have := (Array.getElem?_eq_some_iff.1 hb).1
        omega)
      have HCX := Lib.hid hcx
      clear ha hs1 hxr hix' hcx hfew HIX HMB HROW HIT HQB HAP HNE HXW HFX
      obtain ⟨ak, av, an, ab⟩ := a
      dsimp only at p0 p1 p2 p3
      go_upto_region 12 with (fail)
      have hx1 : Ext wr (wr.alloc (.cells #[.int .i64 ak, .int .i64 av, .int .i64 an, .int .i64 ab] 52)) := (Ext.refl wr).alloc _
      have hbx := heap_alloc_new wr (.cells #[.int .i64 ak, .int .i64 av, .int .i64 an, .int .i64 ab] 52)
      replace HIR := Lib.hid (HIR.out.ext hx1)
      replace HCX := Lib.hid (HCX.out.trans (Chx.of_ext hx1))
      have HNE := Lib.hid HSX.out
      obtain ⟨tb, htb⟩ : ∃ tb, wr.heap.size = tb := ⟨_, rfl⟩
      rw [htb] at hbx HNE
      rw [htb]
      clear hx1 p0 p1 p2 p3 HSX
      generalize (wr.alloc (.cells #[.int .i64 ak, .int .i64 av, .int .i64 an, .int .i64 ab] 52)) = w4 at *
      clear htb
      have t0 : w4.cell? ⟨tb, 0, none⟩ = some (.int .i64 ak) := cell_blk hbx 0 rfl
      have HBX := Lib.hid hbx
      clear hbx
      cases e0 : (ak == 0)
      · cases e1 : (ak == 1)
        · have hact : actX 8 XQ (norA ⟨ak, av, an, ab⟩) = ⟨forgS XQ.L av, XQ.c⟩ := by
            unfold actX norA
            simp at e0 e1
            simp [e0, e1]
          rw [hact] at HS1
          clear hact
          obtain ⟨X2, hX2⟩ : ∃ X2 : Ix, ⟨forgS XQ.L av, XQ.c⟩ = X2 := ⟨_, rfl⟩
          obtain ⟨R, hR⟩ : ∃ R, (sumS (XQ.L.filter fun s => decide (s.v = av))) = R := ⟨_, rfl⟩
          have HC1 : Hid (∀ W, IxAt W xb 8 XQ → Calls Try.prog 19 #[.pointer (some ⟨xb, 0, none⟩), .int .i64 av] W (XPost W xb 8 X2 (.int .i64 R))) := Lib.hid fun W h => by
            have := xforget_calls xb 8 XQ av W h HFW.out.fit
            rwa [hX2, hR] at this
          rw [hX2] at HS1
          have t1 : w4.cell? ⟨tb, 1, none⟩ = some (.int .i64 av) := cell_blk HBX.out 1 rfl
          have t2 : w4.cell? ⟨tb, 2, none⟩ = some (.int .i64 an) := cell_blk HBX.out 2 rfl
          have t3 : w4.cell? ⟨tb, 3, none⟩ = some (.int .i64 ab) := cell_blk HBX.out 3 rfl
          clear hX2 hR
          have hxc := Ext.refl w4
          go_wp2_with fail
          refine (HC1.out _ HIR.out).mono ?_
          rintro e wd ⟨rfl, hid, hcd⟩
          have HIN := Lib.hid hid
          have HCN := Lib.hid ((HCX.out.trans (Chx.of_ext hxc)).trans hcd)
          clear hid hcd hxc HC1
          go_wp2
          go_roundw
          case rel => exact ⟨k + 1, by omega, by go_num, by rw [HS1.out]; exact HIN.out, HCN.out⟩
          case measure => simp [intOf] <;> omega
        · have hact : actX 8 XQ (norA ⟨ak, av, an, ab⟩) = ⟨dropS XQ.L av an, XQ.c⟩ := by
            unfold actX norA
            simp at e0 e1
            simp [e0, e1]
          rw [hact] at HS1
          clear hact
          obtain ⟨X2, hX2⟩ : ∃ X2 : Ix, ⟨dropS XQ.L av an, XQ.c⟩ = X2 := ⟨_, rfl⟩
          obtain ⟨R, hR⟩ : ∃ R, (getS XQ.L av an).isSome = R := ⟨_, rfl⟩
          have HC1 : Hid (∀ W, IxAt W xb 8 XQ → Calls Try.prog 18 #[.pointer (some ⟨xb, 0, none⟩), .agg #[.int .i64 av, .int .i64 an]] W (XPost W xb 8 X2 (.bool R))) := Lib.hid fun W h => by
            have := xdrop_calls xb 8 XQ av an W h HFW.out.fit (HI64.out _ HMEM.out)
            rwa [hX2, hR] at this
          rw [hX2] at HS1
          have t1 : w4.cell? ⟨tb, 1, none⟩ = some (.int .i64 av) := cell_blk HBX.out 1 rfl
          have t2 : w4.cell? ⟨tb, 2, none⟩ = some (.int .i64 an) := cell_blk HBX.out 2 rfl
          have t3 : w4.cell? ⟨tb, 3, none⟩ = some (.int .i64 ab) := cell_blk HBX.out 3 rfl
          clear hX2 hR
          go_wp2_with fail
          refine (name_calls av an w4).mono ?_
          rintro e wc ⟨rfl, hxc⟩
          go_wp2_with fail
          refine (HC1.out _ (HIR.out.ext hxc)).mono ?_
          rintro e wd ⟨rfl, hid, hcd⟩
          have HIN := Lib.hid hid
          have HCN := Lib.hid ((HCX.out.trans (Chx.of_ext hxc)).trans hcd)
          clear hid hcd hxc HC1
          go_wp2
          go_roundw
          case rel => exact ⟨k + 1, by omega, by go_num, by rw [HS1.out]; exact HIN.out, HCN.out⟩
          case measure => simp [intOf] <;> omega
      · have hact : actX 8 XQ (norA ⟨ak, av, an, ab⟩) = (putX 8 XQ av an ab).1 := by
          unfold actX norA
          simp at e0
          simp [e0]
        rw [hact] at HS1
        clear hact
        obtain ⟨X2, hX2⟩ : ∃ X2 : Ix, (putX 8 XQ av an ab).1 = X2 := ⟨_, rfl⟩
        obtain ⟨R, hR⟩ : ∃ R, (putX 8 XQ av an ab).2 = R := ⟨_, rfl⟩
        have HC1 : Hid (∀ W, IxAt W xb 8 XQ → Calls Try.prog 17 #[.pointer (some ⟨xb, 0, none⟩), .agg #[.int .i64 av, .int .i64 an], .int .i64 ab] W (XPost W xb 8 X2 (.int .i64 R))) := Lib.hid fun W h => by
          have := xput_calls xb 8 XQ av an ab W h HFW.out.fit
          rwa [hX2, hR] at this
        rw [hX2] at HS1
        have t1 : w4.cell? ⟨tb, 1, none⟩ = some (.int .i64 av) := cell_blk HBX.out 1 rfl
        have t2 : w4.cell? ⟨tb, 2, none⟩ = some (.int .i64 an) := cell_blk HBX.out 2 rfl
        have t3 : w4.cell? ⟨tb, 3, none⟩ = some (.int .i64 ab) := cell_blk HBX.out 3 rfl
        clear hX2 hR
        go_upto_region 15 with (fail)
        have hd : Ext w4 w4.drew := (Ext.refl w4).drew
        have keep : Hid (∀ W' : World, W'.heap[tb]? = some (.cells #[.int .i64 ak, .int .i64 av, .int .i64 an, .int .i64 ab] 52 (0, 0)) → W'.cell? ⟨tb, 1, none⟩ = some (.int .i64 av) ∧ W'.cell? ⟨tb, 2, none⟩ = some (.int .i64 an) ∧ W'.cell? ⟨tb, 3, none⟩ = some (.int .i64 ab)) := Lib.hid fun W' h => ⟨cell_blk h 1 rfl, cell_blk h 2 rfl, cell_blk h 3 rfl⟩
        clear t0 t1 t2 t3
        refine wp_region_noPanic ?_
        refine wp_region_held_drew (S := fun w' => w'.cell? ⟨tb, 1, none⟩ = some (.int .i64 av) ∧ w'.cell? ⟨tb, 2, none⟩ = some (.int .i64 an) ∧ w'.cell? ⟨tb, 3, none⟩ = some (.int .i64 ab)) (by kernel_rfl) ?_ (fun hHeld => ?_)
        · exact keep.out _ (hd.block HBX.out)
        refine wpAnyH_take (i := 0) (v := ?_) rfl (by kernel_rfl) (by kernel_rfl) (by kernel_rfl) (fun _ _ _ h => h) (Or.inl ⟨by rfl, ?_⟩) (by assumption) ?_
        rotate_left
        · intro w hSw
          try dsimp only at hSw
          go_simp
          try with_reducible rfl
        try simp only [Act.put]
        try simp only [List.setIfInBounds_toArray]
        try simp only [List.set_cons_succ]
        try simp only [List.set_cons_zero]
        refine wpAnyH_take (i := 1) (v := ?_) rfl (by kernel_rfl) (by kernel_rfl) (by kernel_rfl) (fun _ _ _ h => h) (Or.inl ⟨by rfl, ?_⟩) (by assumption) ?_
        rotate_left
        · intro w hSw
          try dsimp only at hSw
          go_simp
          try with_reducible rfl
        try simp only [Act.put]
        try simp only [List.setIfInBounds_toArray]
        try simp only [List.set_cons_succ]
        try simp only [List.set_cons_zero]
        refine wpAnyH_take (i := 2) (v := ?_) rfl (by kernel_rfl) (by kernel_rfl) (by kernel_rfl) (fun _ _ _ h => h) (Or.inl ⟨by rfl, ?_⟩) (by assumption) ?_
        rotate_left
        · intro w hSw
          try dsimp only at hSw
          go_simp
          try with_reducible rfl
        try simp only [Act.put]
        try simp only [List.setIfInBounds_toArray]
        try simp only [List.set_cons_succ]
        try simp only [List.set_cons_zero]
        refine wpAnyH_take (i := 4) (v := ?_) rfl (by kernel_rfl) (by kernel_rfl) (by kernel_rfl) (fun _ _ _ h => h) (Or.inl ⟨by rfl, ?_⟩) (by assumption) ?_
        rotate_left
        · intro w hSw
          try dsimp only at hSw
          go_simp
          try with_reducible rfl
        try simp only [Act.put]
        try simp only [List.setIfInBounds_toArray]
        try simp only [List.set_cons_succ]
        try simp only [List.set_cons_zero]
        refine wpAnyH_take (i := 5) (v := ?_) rfl (by kernel_rfl) (by kernel_rfl) (by kernel_rfl) (fun _ _ _ h => h) (Or.inl ⟨by rfl, ?_⟩) (by assumption) ?_
        rotate_left
        · intro w hSw
          try dsimp only at hSw
          go_simp
          try with_reducible rfl
        try simp only [Act.put]
        try simp only [List.setIfInBounds_toArray]
        try simp only [List.set_cons_succ]
        try simp only [List.set_cons_zero]
        refine wpAnyH_ready (rs := [3]) (by kernel_rfl) (by simp) ?_
        refine AllReadyH.cons rfl (fun K hK => ?_) AllReadyH.nil
        go_simp
        refine (name_calls av an w4.drew).mono ?_
        rintro e wc ⟨rfl, hxc⟩
        replace hxc := hd.trans hxc
        go_simp
        refine hK.out _ _ ?_ (fun hHeld2 => ?_)
        · exact keep.out _ (hxc.block HBX.out)
        clear hHeld
        have hHeld := hHeld2
        clear hHeld2 hK K
        try simp only [Act.put]
        try simp only [List.setIfInBounds_toArray]
        try simp only [List.set_cons_succ]
        try simp only [List.set_cons_zero]
        refine wpAnyH_ready (rs := [6]) (by kernel_rfl) (by simp) ?_
        refine AllReadyH.cons rfl (fun K hK => ?_) AllReadyH.nil
        go_simp
        refine (HC1.out _ (HIR.out.ext hxc)).mono ?_
        rintro e wd ⟨rfl, hid, hcd⟩
        have hbt := hcd.blk (hxc.block HBX.out) HNE.out
        go_simp
        refine hK.out _ _ ?_ (fun hHeld2 => ?_)
        · exact keep.out _ hbt
        clear hHeld
        have hHeld := hHeld2
        clear hHeld2 hK K
        try simp only [Act.put]
        try simp only [List.setIfInBounds_toArray]
        try simp only [List.set_cons_succ]
        try simp only [List.set_cons_zero]
        refine wpAnyH_done (by kernel_rfl) ?_ _
        refine noPanic_intro ?_
        have HIN := Lib.hid hid
        have HCN := Lib.hid ((HCX.out.trans (Chx.of_ext hxc)).trans hcd)
        clear hid hcd hxc HC1
        go_wp2
        go_roundw
        case rel => exact ⟨k + 1, by omega, by go_num, by rw [HS1.out]; exact HIN.out, HCN.out⟩
        case measure => simp [intOf] <;> omega
    · obtain rfl : k = m.length := by omega
      have hmm := hcx.blk HMB.out HNE.out.1
      have hqq := hcx.blk HQB.out HNE.out.2
      have hit := it_chx HIT.out HAP.out hcx
      have hro := HROW.out.chx hcx HXN.out
      have hxr := HXW.out.chx hcx HWX.out
      have hxo : Ext wr (wr.alloc (.cells #[.slice none 0 0] 57)) := (Ext.refl wr).alloc _
      have hbo := Boxed.new wr 57 (.slice none 0 0)
      have hso : (wr.alloc (.cells #[.slice none 0 0] 57)).heap.size = wr.heap.size + 1 := World.size_alloc _ _
      have hmf : ∀ (fn : Fn) (first cap : Array Value) (w : World), (Instr.makeFunc fn first cap).run Try.prog w = .ok (.func fn first cap) w := fun _ _ _ _ => rfl
      have HMM := Lib.hid hmm
      have HRO := Lib.hid hro
      have HXR := Lib.hid hxr
      have HXO := Lib.hid hxo
      have hofc := ofc_calls 20 3 (by omega) stays1_calls (enters_of Try.func20 (by kernel_rfl) rfl) wr (wr.alloc (.cells #[.slice none 0 0] 57)) wr.heap.size wr.heap.size qb pm (itemsOf X.L v) hxo (Nat.le_refl _) (Nat.le_refl _) (by omega) hit HIL.out (hxo.block hqq) ⟨_, hbo, World.ownsRow_nil _ _ _ _⟩
      have HOC := Lib.hid hofc
      have hll : X.L.length ≤ 40 := by have := HFX.out.len; have := HL.out; omega
      clear hofc hmm hqq hit hro hxr hxo hbo hso hix' hcx
      go_upto_region 20 with (fail)
      generalize (wr.alloc (.cells #[.slice none 0 0] 57)) = wp at *
      go_wp2_with fail
      refine HOC.out.mono ?_
      rintro e w5 ⟨rfl, ⟨v5, hb5, ho5⟩, hx5⟩
      obtain ⟨A5, c5, rfl, -⟩ := own_shape ho5
      rw [List.map_take, nos_vals HFX.out.fit v] at ho5
      have hl5 : ((itemsOf X.L v).take 3).length = ((nosS X.L v).take 3).length := by rw [List.length_take, List.length_take, ← nos_items HFX.out.fit v, List.length_map]
      have hns := nosS_len X.L v X.L.length (Nat.le_refl _)
      rw [List.take_length] at hns
      have hx5' : Ext wr w5 := Below.trans HXO.out hx5
      have HRC := Lib.hid (rof_calls 8 X.c mA mk N X.L v w5 (HRO.out.ext hx5') (by omega))
      obtain ⟨NS, hNS⟩ : ∃ NS, nosS X.L v = NS := ⟨_, rfl⟩
      rw [hNS] at ho5 hl5 HRC hns
      have hns2 : NS.length ≤ 40 := by omega
      have HI5 := Lib.hid (show IAt w5 A5 (NS.take 3) from iat_of_own (c := c5) (by rw [show ints (NS.take 3) = (ints NS).take 3 by simp [ints, List.map_take]]; exact ho5))
      have HB5 := Lib.hid hb5
      have HX5 := Lib.hid hx5'
      have m0 : w5.cell? ⟨mb, 0, none⟩ = some (.int .i64 8) := cell_blk (hx5'.block HMM.out) 0 rfl
      have m1 : w5.cell? ⟨mb, 1, none⟩ = some (.int .i64 X.c) := cell_blk (hx5'.block HMM.out) 1 rfl
      have m2 : w5.cell? ⟨mb, 2, none⟩ = some (.slice mA X.L.length mk) := cell_blk (hx5'.block HMM.out) 2 rfl
      clear ho5 hb5 hx5 hx5' hNS hns
      go_wp2_with fail
      refine HRC.out.mono ?_
      rintro e w6 ⟨A6, c6, rfl, hI6, hc6, hx6⟩
      have HI6 := Lib.hid hI6
      replace HI5 := Lib.hid (HI5.out.ext hx6)
      have hq : w6.cell? ⟨wr.heap.size, 0, none⟩ = some (.slice A5 ((itemsOf X.L v).take 3).length c5) := (show Boxed _ _ _ _ from hx6.block HB5.out).cell
      rw [hl5] at hq
      obtain ⟨l5, hl5'⟩ : ∃ l5, (NS.take 3).length = l5 := ⟨_, rfl⟩
      obtain ⟨l6, hl6'⟩ : ∃ l6, NS.length = l6 := ⟨_, rfl⟩
      have hl56 : l5 = min 3 l6 := by rw [← hl5', ← hl6', List.length_take]
      rw [hl5'] at hq
      rw [hl6'] at hc6 hns2
      rw [hl6']
      have HNC : Hid (∀ W', Ext w6 W' → Calls Try.prog 22 #[.slice A5 l5 c5, .slice A6 l5 c6] W' fun e w' => e = .returned (.bool true) ∧ Ext W' w') := Lib.hid fun W' hW => by
        have := numbers_calls A5 A6 c5 c6 (NS.take 3) (NS.take 3) W' (HI5.out.ext hW) ((HI6.out.ext hW).take 3) (by simp; omega) (by simp; omega)
        rw [hl5'] at this
        simpa using this
      have HXF := Lib.hid ((HXR.out.trans HX5.out).trans hx6)
      have hmi : min (3 : Int) (l6 : Int) = (l5 : Int) := by omega
      have h56 : l5 ≤ c6 := by omega
      have h56' : (l5 : Int) ≤ (c6 : Int) := by omega
      clear hl5 hl5' hl6' hI6 hx6 m0 m1 m2 hl56
      go_upto_region 22 with (fail)
      refine wp_region_ext_lit (by kernel_rfl) (by kernel_rfl) ?_
      intro X' _ g hg hg'
      have Q0 : ∀ n, (g n).cell? ⟨wr.heap.size, 0, none⟩ = some (.slice A5 l5 c5) := fun n => (hg n).cell hq
      clear hq
      iterate 6 (go_big_quiet_step (fail))
      go_big_quiet_step ((go_at_call 22; refine (HNC.out _ (hg _)).mono ?_; exact (fun e w2 hh => ⟨hh.1, hg' _ ((hg _).trans hh.2)⟩)))
      repeat (go_big_quiet_step (fail))
      refine wpQuiet_nil ?_
      rintro w' ⟨n, rfl⟩
      have hxg := HXF.out.trans (hg n)
      clear Q0 hg hg' HNC
      go_wp2
      go_ret
      exact ⟨rfl, hxg⟩
theorem lawStays_all (A : Option Addr) (c : Nat) (l : List Ac) (B : Option Addr) (d : Nat) (m : List Ac) (v : Int) (w : World) (h : ActsIn w A l) (h2 : ActsIn w B m) : Calls Try.prog 5 #[.slice A l.length c, .slice B m.length d, .int .i64 v] w fun e w' => e = .returned (.bool true) ∧ Ext w w' :=
  lawStays_calls A B c d l m v w h h2
end Go.Proofs.Ytgcplndmhlideaa
