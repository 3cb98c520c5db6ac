/- The contract of room. -/
import Derived.Test.YtmcddajniiaieaaDoorTh
namespace Go.Proofs.YtmcddajniiaieaaDoor
open Go.RowKit

def RoomPost (w : World) (d : Dr) (t : Th) (held : List Int) (e : Ending) (w' : World) : Prop :=
  ∃ v G ok, e = .returned (.tuple #[v, .bool ok]) ∧ w'.ownsRow w.heap.size 39 4 v G.length (thsV G) ∧ (ok = true → (∀ x ∈ G, x ∈ d.D ∧ x.t = t.t ∧ x.k ∉ held) ∧ (G.map Th.k).Nodup) ∧ Ext w w'

set_option maxHeartbeats 4000000 in
set_option maxRecDepth 100000 in
theorem room_calls (B db c : Nat) (S : Int) (d : Dr) (t : Th) (A : Option Addr) (hc : Nat) (held : List Int) (w : World) (h : DrAt w B db c S d) (ht : 1 ≤ t.n ∧ t.n ≤ 1099511627776) (hA : IAt w A held) (hl : held.length ≤ 20) (hi : ∀ x ∈ held, I64 x) :
    Calls Tryd.prog 22 #[.pointer (some ⟨db, 0, none⟩), .agg #[.int .i64 t.k, .int .i64 t.n, .string (nmB t.t), .int .u64 t.u], .slice A held.length hc] w (RoomPost w d t held) := by
  have H := Lib.hid h
  have HT := Lib.hid ht
  have HI := Lib.hid hi
  obtain ⟨wa, hwa⟩ : ∃ x, w.alloc (.cells #[.int .i64 t.k, .int .i64 t.n, .string (nmB t.t), .int .u64 t.u] 39) = x := ⟨_, rfl⟩
  obtain ⟨wb, hwb⟩ : ∃ x, wa.alloc (.map #[] 0) = x := ⟨_, rfl⟩
  have hxa : Ext w wa := hwa ▸ (Ext.refl _).alloc _
  have hxb : Ext wa wb := hwb ▸ (Ext.refl _).alloc _
  have hbt : wb.heap[w.heap.size]? = some (.cells #[.int .i64 t.k, .int .i64 t.n, .string (nmB t.t), .int .u64 t.u] 39 (0, 0)) := hxb.block (hwa ▸ heap_alloc_new w _)
  have hm0 : MapV Tryd.prog 2 wb wa.heap.size 0 (stF []) := by rw [stF_nil, ← hwb]; exact MapV.made _ _ wa
  have hsa : wa.heap.size = w.heap.size + 1 := by rw [← hwa]; exact World.size_alloc _ _
  obtain ⟨tb, htb⟩ : ∃ x, w.heap.size = x := ⟨_, rfl⟩
  obtain ⟨sm, hsm⟩ : ∃ x, wa.heap.size = x := ⟨_, rfl⟩
  rw [htb] at hbt
  rw [hsm] at hm0 hsa
  have HWA := Lib.hid hwa
  have HWB := Lib.hid hwb
  have HTB := Lib.hid htb
  have HSM := Lib.hid hsm
  have HA := Lib.hid ((hA.ext hxa).ext hxb)
  have HXB := Lib.hid (hxa.trans hxb)
  have HS0 := Lib.hid (show sm = tb + 1 by omega)
  have HBT := Lib.hid hbt
  clear h ht hi hA hsa hxa hxb hbt
  have HM0 := Lib.hid hm0
  clear hm0
  have hmm := @run_makeMap Tryd.prog
  go_enter Tryd.func22, Tryd.ntmps22
  go_wp2
  clear hwa hwb hsm hmm
  go_loopw [22] (fun i wr => ∃ k : Nat, k ≤ held.length ∧ i = .int .i64 k ∧ (∃ K, (∀ y, y ∈ K ↔ y ∈ held.take k) ∧ MapV Tryd.prog 2 wr sm k (stF K)) ∧ Kp tb [] [sm] wb wr) (fun i _ => held.length - (intOf i).toNat)
  case atStart => exact ⟨0, Nat.zero_le _, rfl, ⟨[], by simp, HM0.out⟩, Kp.refl _ _ _ _⟩
  case round =>
    obtain ⟨k, hk, rfl, ⟨K, hK, hmap⟩, hkp⟩ := hrel
    by_cases hlt : k < held.length
    · obtain ⟨b, o, rfl, p0⟩ := (HA.out.kpB hkp) k hlt
      have hik := HI.out _ (List.getElem_mem hlt)
      have htk := List.take_succ_eq_append_getElem hlt
      obtain ⟨y, hy⟩ : ∃ y, held[k] = y := ⟨_, rfl⟩
      rw [hy] at p0 hik htk
      have HKP := Lib.hid hkp
      have HK := Lib.hid hK
      have HTK := Lib.hid htk
      have HIK := Lib.hid hik
      have HMAP := Lib.hid hmap
      have hws : wb.heap.size ≤ wr.heap.size := hkp.size
      clear hkp hK htk hik
      go_wp2_with (at_mapUpdate; refine wpList_store rfl _ _ _ 109 rfl _ _ (Maps.int_keyed Tryd.underlying2) Tryd.underlying109 sm k (stF K) rfl hmap (by simp [maxLen]; omega) _ _ _ rfl rfl (key_mk HIK.out) ?_; intro w3 hmap3 hg3)
      obtain ⟨es, cl, hb⟩ := HMAP.out.blk
      have hkp3 := HKP.out.map hb (by simp) (by have := HS0.out; omega) hg3
      go_roundw
      case rel => exact ⟨k + 1, by omega, by go_num, ⟨y :: K, fun z => by rw [HTK.out, List.mem_append, List.mem_cons, HK.out z, List.mem_singleton, or_comm], by rw [← stF_put]; exact hmap3⟩, hkp3⟩
      case measure => simp [intOf] <;> omega
    · obtain rfl : k = held.length := by omega
      rw [List.take_length] at hK
      have hd := H.out.fresh HXB.out hkp (by have := HTB.out; have := HS0.out; omega)
      have HTH := Lib.hid (things_calls B db c S d wr hd)
      have HD := Lib.hid hd
      have HKP := Lib.hid hkp
      have HMAP := Lib.hid (And.intro hK hmap)
      clear hd hkp hK hmap
      go_wp2_with fail
      refine HTH.out.mono ?_
      rintro e w3 ⟨v, L, rfl, hown, hLD, hLn, hx3⟩
      obtain ⟨A2, c2, rfl, -⟩ := own_shape hown
      have HL := Lib.hid (tat_of_own hown rfl)
      have HLD := Lib.hid hLD
      have HX3 := Lib.hid hx3
      have hd3 := HD.out.ext hx3
      have l2 : w3.cell? ⟨db, 2, none⟩ = some (.pointer (some ⟨d.bb, 0, none⟩)) := blk_cell hd3.blk 2 rfl
      have b2 : w3.cell? ⟨tb, 2, none⟩ = some (.string (nmB t.t)) := blk_cell ((hx3.block (HKP.out.cells HBT.out (by simp)))) 2 rfl
      have H1 : Hid (∀ W, Ext w3 W → Calls Tryd.prog 27 #[.pointer (some ⟨d.bb, 0, none⟩)] W fun e w' => e = .returned (.int .i64 (d.bk.p true + d.bk.p false)) ∧ Ext W w') := Lib.hid fun W hx => (ball_calls B d.bb c S d.bk W (hd3.bk.ext hx)).mono fun e w' ⟨he, hw⟩ => ⟨he, by rw [hw]; exact Ext.refl _⟩
      have H2 : Hid (∀ W, Ext w3 W → Calls Tryd.prog 28 #[.pointer (some ⟨d.bb, 0, none⟩), .string (nmB t.t)] W fun e w' => e = .returned (.int .i64 (d.bk.p t.t)) ∧ Ext W w') := Lib.hid fun W hx => (bof_calls B d.bb c S d.bk t.t W (hd3.bk.ext hx)).mono fun e w' ⟨he, hw⟩ => ⟨he, by rw [hw]; exact Ext.refl _⟩
      have hok1 := hd3.bk.ok true
      have hok2 := hd3.bk.ok false
      obtain ⟨al, hal⟩ : ∃ a, d.bk.p true + d.bk.p false = a := ⟨_, rfl⟩
      obtain ⟨pt, hpt⟩ : ∃ a, d.bk.p t.t = a := ⟨_, rfl⟩
      have hb1 : 0 ≤ pt ∧ pt ≤ S ∧ 0 ≤ al - pt ∧ al - pt ≤ S := by
        rw [← hal, ← hpt]
        cases t.t <;> omega
      rw [hal] at H1
      rw [hpt] at H2
      have hS1 := hd3.S1
      clear hown hLD hx3 hd3 hal hpt HTH hok1 hok2
      go_wp2
      refine wp_region_ext_lit (by kernel_rfl) (by kernel_rfl) ?_
      intro X' _ g hg hg'
      have Q0 : ∀ n, (g n).cell? ⟨db, 2, none⟩ = some (.pointer (some ⟨d.bb, 0, none⟩)) := fun n => (hg n).cell l2
      have Q1 : ∀ n, (g n).cell? ⟨tb, 2, none⟩ = some (.string (nmB t.t)) := fun n => (hg n).cell b2
      clear l2 b2
      repeat (go_big_quiet_step ((first | (go_at_call 27; refine (H1.out _ (hg _)).mono ?_; exact (fun e w2 hh => ⟨hh.1, hg' _ ((hg _).trans hh.2)⟩)) | (go_at_call 28; refine (H2.out _ (hg _)).mono ?_; exact (fun e w2 hh => ⟨hh.1, hg' _ ((hg _).trans hh.2)⟩)))))
      refine wpQuiet_nil ?_
      rintro w5 ⟨n5, rfl⟩
      have hsz5 : w3.heap.size ≤ (g n5).heap.size := (hg n5).size
      have HX5 := Lib.hid (HX3.out.trans (hg n5))
      have HL5 := Lib.hid (HL.out.ext (hg n5))
      clear Q0 Q1 hg' H1 H2
      obtain ⟨w5, hw5⟩ : ∃ x, g n5 = x := ⟨_, rfl⟩
      rw [hw5] at HX5 HL5 hsz5 ⊢
      clear hw5 hg
      have hdb : w5.heap[db]? = some (.cells #[.int .i64 (2 * S), .int .i64 S, .pointer (some ⟨d.bb, 0, none⟩), .pointer (some ⟨d.lb, 0, none⟩), .pointer (some ⟨d.sb, 0, none⟩), .map (some d.tm)] 63 (0, 0)) := HX5.out.block HD.out.blk
      have htb5 : w5.heap[tb]? = some (.cells #[.int .i64 t.k, .int .i64 t.n, .string (nmB t.t), .int .u64 t.u] 39 (0, 0)) := HX5.out.block (HKP.out.cells HBT.out (by simp))
      have HDB := Lib.hid hdb
      have HT5 := Lib.hid htb5
      obtain ⟨K0, hK0, hmap0⟩ : ∃ K, (∀ y, y ∈ K ↔ y ∈ held) ∧ MapV Tryd.prog 2 w5 sm held.length (stF K) := ⟨K, HMAP.out.1, HMAP.out.2.ext HX5.out⟩
      have HMP5 := Lib.hid (And.intro hK0 hmap0)
      have hsm5 : sm < w5.heap.size := hmap0.lt
      clear hdb htb5 hK0 hmap0
      have HXW5 := Lib.hid ((HXB.out.kp HKP.out (by rw [HTB.out]; exact Nat.le_refl _)).trans HX5.out)
      clear HX3 HL HMAP HKP HA HXB HBT HM0 HWA HWB HSM HD
      have hS2 : 2 * S ≤ 2000 := by omega
      obtain ⟨R, hR⟩ : ∃ R, 2 * S = R := ⟨_, rfl⟩
      have hKpd : 0 ≤ al ∧ al ≤ 2000 := by omega
      go_wp2
      go_loopw [12, 13, 14, 45] (fun own all s i wr => ∃ k : Nat, k ≤ L.length ∧ i = .int .i64 k ∧ ∃ G : List Th, own = .int .i64 (pt - sumT G) ∧ all = .int .i64 (al - sumT G) ∧ G.length ≤ k ∧ wr.ownsRow w5.heap.size 39 4 s G.length (thsV G) ∧ (∀ x ∈ G, x ∈ d.D ∧ x.t = t.t ∧ x.k ∉ held) ∧ (G.map Th.k).Nodup ∧ (∃ K, (∀ y, y ∈ K ↔ y ∈ held ∨ y ∈ G.map Th.k) ∧ MapV Tryd.prog 2 wr sm (held.length + k) (stF K)) ∧ Kp tb [] [sm] w5 wr) (fun _ _ _ i _ => L.length - (intOf i).toNat)
      case atStart => exact ⟨0, Nat.zero_le _, rfl, [], by simp [sumT], by simp [sumT], Nat.le_refl _, World.ownsRow_nil _ _ _ _, (fun x hx => by cases hx), List.nodup_nil, ⟨K0, (fun y => by rw [HMP5.out.1]; simp), HMP5.out.2⟩, Kp.refl _ _ _ _⟩
      case round =>
        obtain ⟨k, hk, rfl, G, rfl, rfl, hGk, hown, hG, hnd, ⟨K2, hK2, hmap2⟩, hkp⟩ := hrel
        have hsum := sumT_le G (fun x hx => (H.out.small x (hG x hx).1).2.1)
        obtain ⟨ow, how⟩ : ∃ z, pt - sumT G = z := ⟨_, rfl⟩
        obtain ⟨aa, haa⟩ : ∃ z, al - sumT G = z := ⟨_, rfl⟩
        have hbow : -1099511627776000 ≤ ow ∧ ow ≤ 1000 ∧ -1099511627776000 ≤ aa ∧ aa ≤ 2000 ∧ 0 ≤ aa - ow ∧ aa - ow ≤ S := by omega
        rw [how, haa]
        have HOW := Lib.hid (And.intro how haa)
        have HOWN := Lib.hid hown
        have HG := Lib.hid (And.intro hG hnd)
        have HMP2 := Lib.hid (And.intro hK2 hmap2)
        have HKP2 := Lib.hid hkp
        have hwr : w5.heap.size ≤ wr.heap.size := hkp.size
        have hdbr := hkp.cells HDB.out (by simp)
        have htbr := hkp.cells HT5.out (by simp)
        have HDR := Lib.hid (And.intro hdbr htbr)
        clear hG hnd hK2 hmap2 hkp hsum how haa
        obtain ⟨As, cs, rfl, -⟩ := own_shape hown
        clear hown
        have hht := HT.out
        have hwn : IntKind.i64.wrap (ow + t.n) = ow + t.n := IntWalk.i64_in _ (by omega)
        have hwa : IntKind.i64.wrap (aa + t.n) = aa + t.n := IntWalk.i64_in _ (by omega)
        by_cases hlt : k < L.length
        · obtain ⟨b, rfl, -, -, p0, p1, p2, p3⟩ := (HL5.out.kp HKP2.out (by simp)) k hlt
          have hxD := HLD.out _ (List.getElem_mem hlt)
          obtain ⟨x, hx⟩ : ∃ y, L[k] = y := ⟨_, rfl⟩
          rw [hx] at p0 p1 p2 p3 hxD
          obtain ⟨hxk, hxn, hxu⟩ := H.out.small x hxD
          have HXD := Lib.hid (And.intro hxD hxk)
          clear hxD hx hxu hxk
          obtain ⟨w1, hw1⟩ : ∃ y, wr.alloc (.cells #[.int .i64 x.k, .int .i64 x.n, .string (nmB x.t), .int .u64 x.u] 39) = y := ⟨_, rfl⟩
          have hx1 : Ext wr w1 := hw1 ▸ (Ext.refl _).alloc _
          have hbx : w1.heap[wr.heap.size]? = some (.cells #[.int .i64 x.k, .int .i64 x.n, .string (nmB x.t), .int .u64 x.u] 39 (0, 0)) := hw1 ▸ heap_alloc_new wr _
          obtain ⟨xb, hxb⟩ : ∃ y, wr.heap.size = y := ⟨_, rfl⟩
          rw [hxb] at hbx
          have HX1 := Lib.hid hx1
          have HBX := Lib.hid hbx
          have d0 : w1.cell? ⟨db, 0, none⟩ = some (.int .i64 R) := hR ▸ blk_cell (hx1.block hdbr) 0 rfl
          have d1 : w1.cell? ⟨db, 1, none⟩ = some (.int .i64 S) := blk_cell (hx1.block hdbr) 1 rfl
          have t1 : w1.cell? ⟨tb, 1, none⟩ = some (.int .i64 t.n) := blk_cell (hx1.block htbr) 1 rfl
          clear hx1 hbx hdbr htbr
          by_cases hfit : ow + t.n ≤ S
          · go_wp2
            go_quiet (fail)
            go_wp2
            obtain ⟨W, hW⟩ : ∃ y, w1.drewN nq = y := ⟨_, rfl⟩
            have HXW : Hid (Ext wr W) := Lib.hid (HX1.out.trans (hW ▸ (Ext.refl _).drewN _))
            rw [hW]
            clear hW hw1 d0 d1 t1 p0 p1 p2 p3 hxb
            have hdW := HXW.out.block HDR.out.1
            have htW := HXW.out.block HDR.out.2
            have HWW := Lib.hid (And.intro hdW htW)
            have HOWNW := Lib.hid (ownsRow_ext HOWN.out HXW.out)
            have HLW := Lib.hid ((HL5.out.kp HKP2.out (by simp)).ext HXW.out)
            have HEW := Lib.hid ((HXW5.out.kp HKP2.out (by rw [HTB.out]; exact Nat.le_refl _)).trans HXW.out)
            have hszW : w.heap.size ≤ w5.heap.size := HXW5.out.size
            have hfd : decide (ow + t.n ≤ S) = true := decide_eq_true hfit
            have hfa : aa + t.n ≤ R := by omega
            have hfda : decide (aa + t.n ≤ R) = true := decide_eq_true hfa
            clear hdW htW
            go_loopw [13, 14, 88] (fun all s i wr => ∃ k : Nat, k ≤ L.length ∧ i = .int .i64 k ∧ all = .int .i64 aa ∧ s = .slice As G.length cs ∧ Ext W wr) (fun _ _ _ _ => 0)
            case atStart => exact ⟨0, Nat.zero_le _, rfl, rfl, rfl, Ext.refl _⟩
            case round =>
              obtain ⟨j, hj, rfl, rfl, rfl, hxr⟩ := hrel
              by_cases hlj : j < L.length
              · obtain ⟨b, hbe, -, -, p0, p1, p2, p3⟩ := (HLW.out.ext hxr) j hlj
                cases hbe
                obtain ⟨x, hx⟩ : ∃ y, L[j] = y := ⟨_, rfl⟩
                rw [hx] at p0 p1 p2 p3
                obtain ⟨w8, hw8⟩ : ∃ y, wr.alloc (.cells #[.int .i64 x.k, .int .i64 x.n, .string (nmB x.t), .int .u64 x.u] 39) = y := ⟨_, rfl⟩
                have hx8 : Ext W w8 := hxr.trans (hw8 ▸ (Ext.refl _).alloc _)
                have d0 : w8.cell? ⟨db, 0, none⟩ = some (.int .i64 R) := hR ▸ blk_cell (hx8.block HWW.out.1) 0 rfl
                have d1 : w8.cell? ⟨db, 1, none⟩ = some (.int .i64 S) := blk_cell (hx8.block HWW.out.1) 1 rfl
                have t1 : w8.cell? ⟨tb, 1, none⟩ = some (.int .i64 t.n) := blk_cell (hx8.block HWW.out.2) 1 rfl
                have HX8 := Lib.hid hx8
                clear hxr hx8 hx
                go_wp2
                go_quiet (fail)
                go_wp2
                go_quiet (fail)
                go_wp2
                refine bodyPost_ret (v := .tuple #[.slice As G.length cs, .bool true]) (by simp [results, Tryd.results22, go_sem]) rfl ?_
                exact ⟨_, G, _, rfl, own_less (ownsRow_ext HOWNW.out (HX8.out.trans (((Ext.refl _).drewN _).trans ((Ext.refl _).drewN _)))) hszW, fun _ => HG.out, HEW.out.trans (HX8.out.trans (((Ext.refl _).drewN _).trans ((Ext.refl _).drewN _)))⟩
              · obtain rfl : j = L.length := by omega
                have d0 : wr.cell? ⟨db, 0, none⟩ = some (.int .i64 R) := hR ▸ blk_cell (hxr.block HWW.out.1) 0 rfl
                have d1 : wr.cell? ⟨db, 1, none⟩ = some (.int .i64 S) := blk_cell (hxr.block HWW.out.1) 1 rfl
                have t1 : wr.cell? ⟨tb, 1, none⟩ = some (.int .i64 t.n) := blk_cell (hxr.block HWW.out.2) 1 rfl
                have HX8 := Lib.hid hxr
                clear hxr
                go_wp2
                go_quiet (fail)
                go_wp2
                refine bodyPost_ret (v := .tuple #[.slice As G.length cs, .bool true]) (by simp [results, Tryd.results22, go_sem]) rfl ?_
                exact ⟨_, G, _, rfl, own_less (ownsRow_ext HOWNW.out (HX8.out.trans ((Ext.refl _).drewN _))) hszW, fun _ => HG.out, HEW.out.trans (HX8.out.trans ((Ext.refl _).drewN _))⟩
          · go_wp2
            go_quiet (fail)
            obtain ⟨w2, hw2⟩ : ∃ y, w1.drewN nq = y := ⟨_, rfl⟩
            have hx2 : Ext w1 w2 := hw2 ▸ (Ext.refl _).drewN _
            rw [hw2]
            have hb2 := hx2.block HBX.out
            have x0 : w2.cell? ⟨xb, 0, none⟩ = some (.int .i64 x.k) := blk_cell hb2 0 rfl
            have x1 : w2.cell? ⟨xb, 1, none⟩ = some (.int .i64 x.n) := blk_cell hb2 1 rfl
            have x2 : w2.cell? ⟨xb, 2, none⟩ = some (.string (nmB x.t)) := blk_cell hb2 2 rfl
            have x3 : w2.cell? ⟨xb, 3, none⟩ = some (.int .u64 x.u) := blk_cell hb2 3 rfl
            have t2 : w2.cell? ⟨tb, 2, none⟩ = some (.string (nmB t.t)) := blk_cell (hx2.block (HX1.out.block HDR.out.2)) 2 rfl
            have HX2 := Lib.hid (HX1.out.trans hx2)
            have hmp := HMP2.out.2.ext HX2.out
            have hlk := st_look hmp HXD.out.2
            clear hw2 hx2 d0 d1 t1 hw1
            have hkk : k < 1000 := by omega
            by_cases htt : x.t = t.t
            · have hnm : nmB x.t = nmB t.t := by rw [htt]
              by_cases hst : x.k ∈ K2
              · rw [decide_eq_true hst] at hlk
                go_wp2
                go_roundw
                case rel => exact ⟨k + 1, by omega, by go_num, G, by rw [HOW.out.1], by rw [HOW.out.2], by omega, ownsRow_ext HOWN.out HX2.out, HG.out.1, HG.out.2, ⟨K2, HMP2.out.1, (HMP2.out.2.ext HX2.out).mono (by omega)⟩, HKP2.out.ext HX2.out⟩
                case measure => simp [intOf] <;> omega
              · rw [decide_eq_false hst] at hlk
                have HOWN2 := Lib.hid (ownsRow_ext HOWN.out HX2.out)
                have hws2 : w5.heap.size ≤ w2.heap.size := Nat.le_trans hwr HX2.out.size
                have HB2 := Lib.hid hb2
                have HST := Lib.hid (And.intro htt hst)
                have hw3 : IntKind.i64.wrap (ow - x.n) = ow - x.n := IntWalk.i64_in _ (by omega)
                have hw4 : IntKind.i64.wrap (aa - x.n) = aa - x.n := IntWalk.i64_in _ (by omega)
                have HMPX := Lib.hid hmp
                have HKPX := Lib.hid (HKP2.out.ext HX2.out)
                clear hb2 hmp htt hst
                go_wp2_with (first | (at_builtin; refine wpList_append_new _ rfl _ _ 33 rfl w5.heap.size 39 _ 4 40 Tryd.underlying33 infoTh rfl (by omega) _ G.length (thsV G) rfl HOWN2.out 1 1 w2.heap.size (by simp) #[.int .i64 x.k, .int .i64 x.n, .string (nmB t.t), .int .u64 x.u] (by rfl) (by rfl) (by simp [Value.oneCell']) (by simp [maxLen]; omega) (by omega) hws2 ?_; intro v6 w6 hown6 hm6; have HOWN6 := Lib.hid hown6; have HKP6 := Lib.hid (kp_moved HKPX.out HOWN2.out hm6); have hb6 := moved_blk HOWN.out hm6 (Nat.le_of_eq hxb) HB2.out; have HB6 := Lib.hid hb6; have x60 : w6.cell? ⟨xb, 0, none⟩ = some (.int .i64 x.k) := blk_cell hb6 0 rfl; have hmap6 := mapV_moved HMPX.out HOWN2.out hm6; have HMAP6 := Lib.hid hmap6; clear hown6 hm6 hb6) | (at_mapUpdate; refine wpList_store rfl _ _ _ 109 rfl _ _ (Maps.int_keyed Tryd.underlying2) Tryd.underlying109 sm (held.length + k) (stF K2) rfl hmap6 (by simp [maxLen]; omega) _ _ _ rfl rfl (key_mk HXD.out.2) ?_; intro w7 hmap7 hg7; have hb7 := (hg7.block xb (Array.getElem?_eq_some_iff.1 HB6.out).1 (by have := HMAP6.out.lt; have := HMPX.out.lt; simp; omega)).trans HB6.out; have x71 : w7.cell? ⟨xb, 1, none⟩ = some (.int .i64 x.n) := blk_cell hb7 1 rfl))
                obtain ⟨es7, cl7, hbm7⟩ := HMAP6.out.blk
                have hkp7 := HKP6.out.map hbm7 (by simp) (by have := HS0.out; omega) hg7
                have hown7 := own_grown HOWN6.out HMAP6.out hg7
                go_roundw
                case rel =>
                  refine ⟨k + 1, by omega, by go_num, G ++ [x], by rw [sumT_snoc, ← Int.sub_sub, HOW.out.1], by rw [sumT_snoc, ← Int.sub_sub, HOW.out.2], by simp; omega, by rw [List.length_append, thsV_snoc, HST.out.1]; exact hown7, ?_, ?_, ⟨x.k :: K2, ?_, by rw [← stF_put]; exact hmap7⟩, hkp7⟩
                  · intro y hy
                    rcases List.mem_append.1 hy with hy | hy
                    · exact HG.out.1 y hy
                    · rw [List.mem_singleton.1 hy]
                      exact ⟨HXD.out.1, HST.out.1, fun hh => HST.out.2 ((HMP2.out.1 _).2 (.inl hh))⟩
                  · rw [List.map_append, List.nodup_append]
                    refine ⟨HG.out.2, by simp, ?_⟩
                    intro a ha b hb e
                    have hb : b = x.k := by simpa using hb
                    subst e
                    rw [hb] at ha
                    exact HST.out.2 ((HMP2.out.1 _).2 (.inr ha))
                  · intro y
                    rw [List.mem_cons, HMP2.out.1, List.map_append, List.mem_append]
                    simp only [List.map_cons, List.map_nil, List.mem_singleton]
                    constructor
                    · rintro (h | h | h)
                      · exact .inr (.inr h)
                      · exact .inl h
                      · exact .inr (.inl h)
                    · rintro (h | h | h)
                      · exact .inr (.inl h)
                      · exact .inr (.inr h)
                      · exact .inl h
                case measure => simp [intOf] <;> omega
            · have hnm : ¬ nmB x.t = nmB t.t := fun e => htt (by revert e; cases x.t <;> cases t.t <;> decide)
              have hnm2 := nm_list htt
              go_wp2
              go_roundw
              case rel => exact ⟨k + 1, by omega, by go_num, G, by rw [HOW.out.1], by rw [HOW.out.2], by omega, ownsRow_ext HOWN.out HX2.out, HG.out.1, HG.out.2, ⟨K2, HMP2.out.1, (HMP2.out.2.ext HX2.out).mono (by omega)⟩, HKP2.out.ext HX2.out⟩
              case measure => simp [intOf] <;> omega
        · obtain rfl : k = L.length := by omega
          clear hdbr htbr
          by_cases hfit : ow + t.n ≤ S
          · go_wp2
            obtain ⟨W, hW⟩ : ∃ y, wr = y := ⟨_, rfl⟩
            have HXW : Hid (Ext wr W) := Lib.hid (hW ▸ Ext.refl _)
            rw [hW]
            clear hW
            have hdW := HXW.out.block HDR.out.1
            have htW := HXW.out.block HDR.out.2
            have HWW := Lib.hid (And.intro hdW htW)
            have HOWNW := Lib.hid (ownsRow_ext HOWN.out HXW.out)
            have HLW := Lib.hid ((HL5.out.kp HKP2.out (by simp)).ext HXW.out)
            have HEW := Lib.hid ((HXW5.out.kp HKP2.out (by rw [HTB.out]; exact Nat.le_refl _)).trans HXW.out)
            have hszW : w.heap.size ≤ w5.heap.size := HXW5.out.size
            have hfd : decide (ow + t.n ≤ S) = true := decide_eq_true hfit
            have hfa : aa + t.n ≤ R := by omega
            have hfda : decide (aa + t.n ≤ R) = true := decide_eq_true hfa
            clear hdW htW
            go_loopw [13, 14, 88] (fun all s i wr => ∃ k : Nat, k ≤ L.length ∧ i = .int .i64 k ∧ all = .int .i64 aa ∧ s = .slice As G.length cs ∧ Ext W wr) (fun _ _ _ _ => 0)
            case atStart => exact ⟨0, Nat.zero_le _, rfl, rfl, rfl, Ext.refl _⟩
            case round =>
              obtain ⟨j, hj, rfl, rfl, rfl, hxr⟩ := hrel
              by_cases hlj : j < L.length
              · obtain ⟨b, hbe, -, -, p0, p1, p2, p3⟩ := (HLW.out.ext hxr) j hlj
                cases hbe
                obtain ⟨x, hx⟩ : ∃ y, L[j] = y := ⟨_, rfl⟩
                rw [hx] at p0 p1 p2 p3
                obtain ⟨w8, hw8⟩ : ∃ y, wr.alloc (.cells #[.int .i64 x.k, .int .i64 x.n, .string (nmB x.t), .int .u64 x.u] 39) = y := ⟨_, rfl⟩
                have hx8 : Ext W w8 := hxr.trans (hw8 ▸ (Ext.refl _).alloc _)
                have d0 : w8.cell? ⟨db, 0, none⟩ = some (.int .i64 R) := hR ▸ blk_cell (hx8.block HWW.out.1) 0 rfl
                have d1 : w8.cell? ⟨db, 1, none⟩ = some (.int .i64 S) := blk_cell (hx8.block HWW.out.1) 1 rfl
                have t1 : w8.cell? ⟨tb, 1, none⟩ = some (.int .i64 t.n) := blk_cell (hx8.block HWW.out.2) 1 rfl
                have HX8 := Lib.hid hx8
                clear hxr hx8 hx
                go_wp2
                go_quiet (fail)
                go_wp2
                go_quiet (fail)
                go_wp2
                refine bodyPost_ret (v := .tuple #[.slice As G.length cs, .bool true]) (by simp [results, Tryd.results22, go_sem]) rfl ?_
                exact ⟨_, G, _, rfl, own_less (ownsRow_ext HOWNW.out (HX8.out.trans (((Ext.refl _).drewN _).trans ((Ext.refl _).drewN _)))) hszW, fun _ => HG.out, HEW.out.trans (HX8.out.trans (((Ext.refl _).drewN _).trans ((Ext.refl _).drewN _)))⟩
              · obtain rfl : j = L.length := by omega
                have d0 : wr.cell? ⟨db, 0, none⟩ = some (.int .i64 R) := hR ▸ blk_cell (hxr.block HWW.out.1) 0 rfl
                have d1 : wr.cell? ⟨db, 1, none⟩ = some (.int .i64 S) := blk_cell (hxr.block HWW.out.1) 1 rfl
                have t1 : wr.cell? ⟨tb, 1, none⟩ = some (.int .i64 t.n) := blk_cell (hxr.block HWW.out.2) 1 rfl
                have HX8 := Lib.hid hxr
                clear hxr
                go_wp2
                go_quiet (fail)
                go_wp2
                refine bodyPost_ret (v := .tuple #[.slice As G.length cs, .bool true]) (by simp [results, Tryd.results22, go_sem]) rfl ?_
                exact ⟨_, G, _, rfl, own_less (ownsRow_ext HOWNW.out (HX8.out.trans ((Ext.refl _).drewN _))) hszW, fun _ => HG.out, HEW.out.trans (HX8.out.trans ((Ext.refl _).drewN _))⟩
          · have hfd : decide (ow + t.n ≤ S) = false := decide_eq_false hfit
            have hszW : w.heap.size ≤ w5.heap.size := HXW5.out.size
            have hlG := hGk
            have hLE := hLn
            go_wp2
            go_loopw [13, 14, 88] (fun all s i wr => ∃ k : Nat, k ≤ L.length ∧ i = .int .i64 k ∧ ∃ (G : List Th) (z : Int), all = .int .i64 z ∧ -1099511627776 * (1000 + (k : Int)) ≤ z ∧ z ≤ 2000 ∧ G.length ≤ 1000 + k ∧ wr.ownsRow w5.heap.size 39 4 s G.length (thsV G) ∧ (∃ K, MapV Tryd.prog 2 wr sm (held.length + L.length) (stF K)) ∧ Kp tb [] [sm] w5 wr) (fun _ _ i _ => L.length - (intOf i).toNat)
            case atStart => exact ⟨0, Nat.zero_le _, rfl, G, aa, rfl, by omega, by omega, by omega, HOWN.out, ⟨K2, HMP2.out.2⟩, HKP2.out⟩
            case round =>
              obtain ⟨j, hj, rfl, G2, z, rfl, hz1, hz2, hG2, hown2, ⟨K3, hmap3⟩, hkp3⟩ := hrel
              have hdb3 := hkp3.cells HDB.out (by simp)
              have htb3 := hkp3.cells HT5.out (by simp)
              have HOWN3 := Lib.hid hown2
              have HMP3 := Lib.hid hmap3
              have HKP3 := Lib.hid hkp3
              have HDR3 := Lib.hid (And.intro hdb3 htb3)
              have hwr3 : w5.heap.size ≤ wr.heap.size := hkp3.size
              have hwz : IntKind.i64.wrap (z + t.n) = z + t.n := IntWalk.i64_in _ (by omega)
              obtain ⟨As3, cs3, rfl, -⟩ := own_shape hown2
              clear hown2 hmap3
              by_cases hlj : j < L.length
              · obtain ⟨b, hbe, -, -, p0, p1, p2, p3⟩ := (HL5.out.kp hkp3 (by simp)) j hlj
                cases hbe
                have hxD := HLD.out _ (List.getElem_mem hlj)
                obtain ⟨x, hx⟩ : ∃ y, L[j] = y := ⟨_, rfl⟩
                rw [hx] at p0 p1 p2 p3 hxD
                obtain ⟨hxk, hxn, hxu⟩ := H.out.small x hxD
                have HXK := Lib.hid hxk
                clear hxD hx hxu hxk hkp3
                obtain ⟨w1, hw1⟩ : ∃ y, wr.alloc (.cells #[.int .i64 x.k, .int .i64 x.n, .string (nmB x.t), .int .u64 x.u] 39) = y := ⟨_, rfl⟩
                have hx1 : Ext wr w1 := hw1 ▸ (Ext.refl _).alloc _
                have hbx : w1.heap[wr.heap.size]? = some (.cells #[.int .i64 x.k, .int .i64 x.n, .string (nmB x.t), .int .u64 x.u] 39 (0, 0)) := hw1 ▸ heap_alloc_new wr _
                obtain ⟨xb, hxb⟩ : ∃ y, wr.heap.size = y := ⟨_, rfl⟩
                rw [hxb] at hbx
                have HX1 := Lib.hid hx1
                have HBX := Lib.hid hbx
                have d0 : w1.cell? ⟨db, 0, none⟩ = some (.int .i64 R) := hR ▸ blk_cell (hx1.block hdb3) 0 rfl
                have d1 : w1.cell? ⟨db, 1, none⟩ = some (.int .i64 S) := blk_cell (hx1.block hdb3) 1 rfl
                have t1 : w1.cell? ⟨tb, 1, none⟩ = some (.int .i64 t.n) := blk_cell (hx1.block htb3) 1 rfl
                clear hx1 hbx hdb3 htb3
                by_cases hz : z + t.n ≤ R
                · go_wp2
                  go_quiet (fail)
                  go_wp2
                  go_quiet (fail)
                  go_wp2
                  refine bodyPost_ret (v := .tuple #[.slice As3 G2.length cs3, .bool false]) (by simp [results, Tryd.results22, go_sem]) rfl ?_
                  exact ⟨_, G2, false, rfl, own_less (ownsRow_ext HOWN3.out (HX1.out.trans (((Ext.refl _).drewN _).trans ((Ext.refl _).drewN _)))) hszW, (fun h => by cases h), (HXW5.out.kp HKP3.out (by rw [HTB.out]; exact Nat.le_refl _)).trans (HX1.out.trans (((Ext.refl _).drewN _).trans ((Ext.refl _).drewN _)))⟩
                · go_wp2
                  go_quiet (fail)
                  obtain ⟨w2, hw2⟩ : ∃ y, w1.drewN nq = y := ⟨_, rfl⟩
                  have hx2 : Ext w1 w2 := hw2 ▸ (Ext.refl _).drewN _
                  rw [hw2]
                  have hb2 := hx2.block HBX.out
                  have x0 : w2.cell? ⟨xb, 0, none⟩ = some (.int .i64 x.k) := blk_cell hb2 0 rfl
                  have x1 : w2.cell? ⟨xb, 1, none⟩ = some (.int .i64 x.n) := blk_cell hb2 1 rfl
                  have x2 : w2.cell? ⟨xb, 2, none⟩ = some (.string (nmB x.t)) := blk_cell hb2 2 rfl
                  have x3 : w2.cell? ⟨xb, 3, none⟩ = some (.int .u64 x.u) := blk_cell hb2 3 rfl
                  have HX2 := Lib.hid (HX1.out.trans hx2)
                  have hlk := st_look (HMP3.out.ext HX2.out) HXK.out
                  have HB2 := Lib.hid hb2
                  clear hw2 hx2 d0 d1 t1 hw1 hb2
                  by_cases hst : x.k ∈ K3
                  · rw [decide_eq_true hst] at hlk
                    go_wp2
                    go_roundw
                    case rel => exact ⟨j + 1, by omega, by go_num, G2, z, rfl, by omega, by omega, by omega, ownsRow_ext HOWN3.out HX2.out, ⟨K3, HMP3.out.ext HX2.out⟩, HKP3.out.ext HX2.out⟩
                    case measure => simp [intOf] <;> omega
                  · rw [decide_eq_false hst] at hlk
                    have HOWN4 := Lib.hid (ownsRow_ext HOWN3.out HX2.out)
                    have hws4 : w5.heap.size ≤ w2.heap.size := Nat.le_trans hwr3 HX2.out.size
                    have hw4 : IntKind.i64.wrap (z - x.n) = z - x.n := IntWalk.i64_in _ (by omega)
                    have HMPX := Lib.hid (HMP3.out.ext HX2.out)
                    have HKPX := Lib.hid (HKP3.out.ext HX2.out)
                    clear hst
                    go_wp2_with (at_builtin; refine wpList_append_new _ rfl _ _ 33 rfl w5.heap.size 39 _ 4 40 Tryd.underlying33 infoTh rfl (by omega) _ G2.length (thsV G2) rfl HOWN4.out 1 1 w2.heap.size (by simp) #[.int .i64 x.k, .int .i64 x.n, .string (nmB x.t), .int .u64 x.u] (by rfl) (by rfl) (by simp [Value.oneCell']) (by simp [maxLen]; omega) (by omega) hws4 ?_; intro v6 w6 hown6 hm6; have HOWN6 := Lib.hid hown6; have HKP6 := Lib.hid (kp_moved HKPX.out HOWN4.out hm6); have hb6 := moved_blk HOWN3.out hm6 (Nat.le_of_eq hxb) HB2.out; have x61 : w6.cell? ⟨xb, 1, none⟩ = some (.int .i64 x.n) := blk_cell hb6 1 rfl; have HMAP6 := Lib.hid (mapV_moved HMPX.out HOWN4.out hm6); clear hown6 hm6 hb6)
                    go_roundw
                    case rel => exact ⟨j + 1, by omega, by go_num, G2 ++ [x], z - x.n, rfl, by omega, by omega, by simp; omega, by rw [List.length_append, thsV_snoc]; exact HOWN6.out, ⟨K3, HMAP6.out⟩, HKP6.out⟩
                    case measure => simp [intOf] <;> omega
              · obtain rfl : j = L.length := by omega
                have d0 : wr.cell? ⟨db, 0, none⟩ = some (.int .i64 R) := hR ▸ blk_cell hdb3 0 rfl
                have d1 : wr.cell? ⟨db, 1, none⟩ = some (.int .i64 S) := blk_cell hdb3 1 rfl
                have t1 : wr.cell? ⟨tb, 1, none⟩ = some (.int .i64 t.n) := blk_cell htb3 1 rfl
                clear hdb3 htb3 hkp3
                go_wp2
                go_quiet (fail)
                go_wp2
                refine bodyPost_ret (v := .tuple #[.slice As3 G2.length cs3, .bool false]) (by simp [results, Tryd.results22, go_sem]) rfl ?_
                exact ⟨_, G2, false, rfl, own_less (ownsRow_ext HOWN3.out ((Ext.refl _).drewN _)) hszW, (fun h => by cases h), (HXW5.out.kp HKP3.out (by rw [HTB.out]; exact Nat.le_refl _)).trans ((Ext.refl _).drewN _)⟩
end Go.Proofs.YtmcddajniiaieaaDoor
