/- The contract of Offer. -/
import Derived.Test.YtmcddajniiaieaaDoorOfh
namespace Go.Proofs.YtmcddajniiaieaaDoor
open Go.RowKit

def OfferPost (w : World) (B db c : Nat) (S : Int) (d : Dr) (t : Th) (held : List Int) (e : Ending) (w' : World) : Prop :=
  ∃ (b : Bool) (A : Option Addr) (cp : Nat) (G : List Int) (d' : Dr) (c' : Nat), e = .returned (.tuple #[.bool b, .slice A G.length cp]) ∧ IAt w' A G ∧ DrAt w' B db c' S d' ∧ d'.m = d.m ∧ c' + d'.D.length ≤ c + d.D.length + 2 ∧
    (b = true → ∃ x ∈ d'.D, x.k = t.k) ∧ (∀ x ∈ d.D, x ∈ d'.D ∨ (x.t = t.t ∧ x.k ∉ held ∧ x.k ∈ G)) ∧ Kpa B drTs w w' ∧ G.length ≤ 1000

set_option maxHeartbeats 4000000 in
set_option maxRecDepth 100000 in
theorem offer_calls (B db c : Nat) (S : Int) (d : Dr) (t : Th) (A : Option Addr) (hc : Nat) (held : List Int) (w : World) (h : DrAt w B db c S d) (hk : I64 t.k) (hu : 0 ≤ t.u ∧ t.u < 18446744073709551616) (ht : 1 ≤ t.n ∧ t.n ≤ 1099511627776) (hA : IAt w A held) (hl : held.length ≤ 20) (hi : ∀ x ∈ held, I64 x) (hcc : c + d.D.length + 2 ≤ 800) (hB : B ≤ w.heap.size) :
    Calls Tryd.prog 8 #[.pointer (some ⟨db, 0, none⟩), .agg #[.int .i64 t.k, .int .i64 t.n, .string (nmB t.t), .int .u64 t.u], .slice A held.length hc] w (OfferPost w B db c S d t held) := by
  have hs : (nmB t.t).size = 1 := by cases t.t <;> rfl
  have H := Lib.hid h
  have HT := Lib.hid ht
  have HKU := Lib.hid (And.intro hk hu)
  obtain ⟨wa, hwa⟩ : ∃ x, w.alloc (.cells #[.int .i64 t.k, .int .i64 t.n, .string (nmB t.t), .int .u64 t.u] 39) = x := ⟨_, rfl⟩
  have hxa : Ext w wa := hwa ▸ (Ext.refl _).alloc _
  have hbt : wa.heap[w.heap.size]? = some (.cells #[.int .i64 t.k, .int .i64 t.n, .string (nmB t.t), .int .u64 t.u] 39 (0, 0)) := hwa ▸ heap_alloc_new w _
  obtain ⟨tb, htb⟩ : ∃ x, w.heap.size = x := ⟨_, rfl⟩
  rw [htb] at hbt
  have HTB := Lib.hid htb
  have HXA := Lib.hid hxa
  have HBT := Lib.hid hbt
  have HBB := Lib.hid hB
  have ha := h.ext hxa
  have HS := Lib.hid (shut_calls B db c S d wa ha)
  have HH := Lib.hid (has_calls B db c S d t.k wa ha hk)
  have HR : Hid (∀ W, Ext wa W → Calls Tryd.prog 22 #[.pointer (some ⟨db, 0, none⟩), .agg #[.int .i64 t.k, .int .i64 t.n, .string (nmB t.t), .int .u64 t.u], .slice A held.length hc] W (RoomPost W d t held)) := Lib.hid fun W hW => room_calls B db c S d t A hc held W ((H.out.ext HXA.out).ext hW) HT.out ((hA.ext HXA.out).ext hW) hl hi
  have b0 : wa.cell? ⟨tb, 0, none⟩ = some (.int .i64 t.k) := blk_cell hbt 0 rfl
  have b1 : wa.cell? ⟨tb, 1, none⟩ = some (.int .i64 t.n) := blk_cell hbt 1 rfl
  have b2 : wa.cell? ⟨tb, 2, none⟩ = some (.string (nmB t.t)) := blk_cell hbt 2 rfl
  have hn1 : decide (t.n < 1) = false := decide_eq_false (by omega)
  have hn2 : decide (1099511627776 < t.n) = false := decide_eq_false (by omega)
  clear h hk hu ht hA hi hxa hbt ha hB
  cases hh : d.has t.k
  · rw [hh] at HH
    go_enter Tryd.func8, Tryd.ntmps8
    go_wp2_with fail
    refine HS.out.mono ?_
    rintro e w1 ⟨rfl, hw1⟩
    rw [hw1]
    clear hw1
    go_wp2_with fail
    refine HH.out.mono ?_
    rintro e w2 ⟨rfl, hx2⟩
    have hb2 := hx2.block HBT.out
    have c0 : w2.cell? ⟨tb, 0, none⟩ = some (.int .i64 t.k) := blk_cell hb2 0 rfl
    have c1 : w2.cell? ⟨tb, 1, none⟩ = some (.int .i64 t.n) := blk_cell hb2 1 rfl
    have c2 : w2.cell? ⟨tb, 2, none⟩ = some (.string (nmB t.t)) := blk_cell hb2 2 rfl
    have c3 : w2.cell? ⟨tb, 3, none⟩ = some (.int .u64 t.u) := blk_cell hb2 3 rfl
    have HR2 := Lib.hid (HR.out w2 hx2)
    have HX2 := Lib.hid (HXA.out.trans hx2)
    have HB2 := Lib.hid hb2
    clear hwa htb b0 b1 b2 hs hb2 hx2 HR HS
    go_wp2_with fail
    refine HR2.out.mono ?_
    rintro e w3 ⟨v, G, ok, rfl, hown, hok, hx3⟩
    obtain ⟨A2, cg, rfl, -⟩ := own_shape hown
    have HX3 := Lib.hid (HX2.out.trans hx3)
    have HB3 := Lib.hid (hx3.block HB2.out)
    have HOK := Lib.hid hok
    have HL := Lib.hid (tat_of_own hown rfl)
    have HGL := Lib.hid hown.1
    clear hok hown hx3 c0 c1 c2 c3
    cases ok
    · go_wp2
      refine bodyPost_ret (v := .tuple #[.bool false, .slice none 0 0]) (by simp [results, Tryd.results8, go_sem]) rfl ?_
      have HEE := HX3.out
      exact ⟨false, none, 0, [], d, c, rfl, (fun k hk => by cases hk), H.out.ext HEE, rfl, by omega, (fun h => by cases h), (fun x hx => .inl hx), Kpa.of_ext HEE, Nat.zero_le _⟩
    · have HOK2 := Lib.hid (HOK.out rfl)
      clear HOK
      have hd3 := H.out.ext HX3.out
      have hdb3 := hd3.blk
      have HD3 := Lib.hid hd3
      have HDB3 := Lib.hid hdb3
      have hGD : G.length ≤ d.D.length := by
        have := len_sub HOK2.out.2 (m := d.D.map Th.k) (fun y hy => by
          obtain ⟨z, hz, rfl⟩ := List.mem_map.1 hy
          exact List.mem_map.2 ⟨z, (HOK2.out.1 z hz).1, rfl⟩)
        simpa using this
      clear hd3 hdb3
      go_wp2
      go_loopw [50] (fun i wr => ∃ k : Nat, k ≤ G.length ∧ i = .int .i64 k ∧ Ext w3 wr) (fun i _ => G.length - (intOf i).toNat)
      case atStart => exact ⟨0, Nat.zero_le _, rfl, Ext.refl w3⟩
      case round =>
        obtain ⟨k, hk, rfl, hx⟩ := hrel
        by_cases hlt : k < G.length
        · obtain ⟨b, hbe, -, -, p0, p1, p2, p3⟩ := (HL.out.ext hx) k hlt
          cases hbe
          have hxD := HOK2.out.1 _ (List.getElem_mem hlt)
          obtain ⟨x, hxe⟩ : ∃ y, G[k] = y := ⟨_, rfl⟩
          rw [hxe] at p0 p1 p2 p3 hxD
          have HXS := Lib.hid (H.out.small x hxD.1)
          obtain ⟨w4, hw4⟩ : ∃ y, wr.alloc (.cells #[.int .i64 x.k, .int .i64 x.n, .string (nmB x.t), .int .u64 x.u] 39) = y := ⟨_, rfl⟩
          have hx1 : Ext w3 w4 := hx.trans (hw4 ▸ (Ext.refl _).alloc _)
          have hbx : w4.heap[wr.heap.size]? = some (.cells #[.int .i64 x.k, .int .i64 x.n, .string (nmB x.t), .int .u64 x.u] 39 (0, 0)) := hw4 ▸ heap_alloc_new wr _
          obtain ⟨xb, hxb⟩ : ∃ y, wr.heap.size = y := ⟨_, rfl⟩
          rw [hxb] at hbx
          have q4 : w4.cell? ⟨db, 4, none⟩ = some (.pointer (some ⟨d.sb, 0, none⟩)) := blk_cell (hx1.block HDB3.out) 4 rfl
          have qt : w4.cell? ⟨tb, 3, none⟩ = some (.int .u64 t.u) := blk_cell (hx1.block HB3.out) 3 rfl
          have qx : w4.cell? ⟨xb, 3, none⟩ = some (.int .u64 x.u) := blk_cell hbx 3 rfl
          have HQ := Lib.hid (show ∀ W, Ext w4 W → W.cell? ⟨db, 4, none⟩ = some (.pointer (some ⟨d.sb, 0, none⟩)) ∧ W.cell? ⟨tb, 3, none⟩ = some (.int .u64 t.u) ∧ W.cell? ⟨xb, 3, none⟩ = some (.int .u64 x.u) from fun W hW => ⟨hW.cell q4, hW.cell qt, hW.cell qx⟩)
          have HC1 : Hid (∀ W, Ext w4 W → Calls Tryd.prog 23 #[.pointer (some ⟨d.sb, 0, none⟩), .int .u64 t.u] W fun e w' => (∃ n, e = .returned (.int .i64 n)) ∧ Ext W w') := Lib.hid fun W hW => count_calls B d.sb d.m t.u W (HD3.out.sk.ext (hx1.trans hW)) HKU.out.2
          have HC2 : Hid (∀ W, Ext w4 W → Calls Tryd.prog 23 #[.pointer (some ⟨d.sb, 0, none⟩), .int .u64 x.u] W fun e w' => (∃ n, e = .returned (.int .i64 n)) ∧ Ext W w') := Lib.hid fun W hW => count_calls B d.sb d.m x.u W (HD3.out.sk.ext (hx1.trans hW)) HXS.out.2.2
          have HX1 := Lib.hid hx1
          clear hx hx1 hbx hxD hxe q4 qt qx
          go_wp2
          clear p0 p1 p2 p3 hw4 hxb
          refine wp_region_noPanic ?_
          refine wp_region_held_drew (S := fun w' => w'.cell? ⟨db, 4, none⟩ = some (.pointer (some ⟨d.sb, 0, none⟩)) ∧ w'.cell? ⟨tb, 3, none⟩ = some (.int .u64 t.u) ∧ w'.cell? ⟨xb, 3, none⟩ = some (.int .u64 x.u)) (by kernel_rfl) ?_ (fun hHeld => ?_)
          · exact HQ.out _ (Ext.refl w4).drew
          refine wpAnyH_take (i := 0) (v := ?_) rfl (by kernel_rfl) (by kernel_rfl) (by kernel_rfl) (fun _ _ _ h => h) (Or.inl ⟨by rfl, ?_⟩) (by assumption) ?_
          rotate_left
          · intro w hSw
            try dsimp only at hSw
            go_simp
            try with_reducible rfl
          try simp only [Act.put]
          try simp only [List.setIfInBounds_toArray]
          try simp only [List.set_cons_succ]
          try simp only [List.set_cons_zero]
          refine wpAnyH_take (i := 1) (v := ?_) rfl (by kernel_rfl) (by kernel_rfl) (by kernel_rfl) (fun _ _ _ h => h) (Or.inl ⟨by rfl, ?_⟩) (by assumption) ?_
          rotate_left
          · intro w hSw
            try dsimp only at hSw
            go_simp
            try with_reducible rfl
          try simp only [Act.put]
          try simp only [List.setIfInBounds_toArray]
          try simp only [List.set_cons_succ]
          try simp only [List.set_cons_zero]
          refine wpAnyH_take (i := 2) (v := ?_) rfl (by kernel_rfl) (by kernel_rfl) (by kernel_rfl) (fun _ _ _ h => h) (Or.inl ⟨by rfl, ?_⟩) (by assumption) ?_
          rotate_left
          · intro w hSw
            try dsimp only at hSw
            go_simp
            try with_reducible rfl
          try simp only [Act.put]
          try simp only [List.setIfInBounds_toArray]
          try simp only [List.set_cons_succ]
          try simp only [List.set_cons_zero]
          refine wpAnyH_take (i := 3) (v := ?_) rfl (by kernel_rfl) (by kernel_rfl) (by kernel_rfl) (fun _ _ _ h => h) (Or.inl ⟨by rfl, ?_⟩) (by assumption) ?_
          rotate_left
          · intro w hSw
            try dsimp only at hSw
            go_simp
            try with_reducible rfl
          try simp only [Act.put]
          try simp only [List.setIfInBounds_toArray]
          try simp only [List.set_cons_succ]
          try simp only [List.set_cons_zero]
          refine wpAnyH_take (i := 4) (v := ?_) rfl (by kernel_rfl) (by kernel_rfl) (by kernel_rfl) (fun _ _ _ h => h) (Or.inl ⟨by rfl, ?_⟩) (by assumption) ?_
          rotate_left
          · intro w hSw
            try dsimp only at hSw
            go_simp
            try with_reducible rfl
          try simp only [Act.put]
          try simp only [List.setIfInBounds_toArray]
          try simp only [List.set_cons_succ]
          try simp only [List.set_cons_zero]
          refine wpAnyH_take (i := 5) (v := ?_) rfl (by kernel_rfl) (by kernel_rfl) (by kernel_rfl) (fun _ _ _ h => h) (Or.inl ⟨by rfl, ?_⟩) (by assumption) ?_
          rotate_left
          · intro w hSw
            try dsimp only at hSw
            go_simp
            try with_reducible rfl
          try simp only [Act.put]
          try simp only [List.setIfInBounds_toArray]
          try simp only [List.set_cons_succ]
          try simp only [List.set_cons_zero]
          refine wpAnyH_take (i := 7) (v := ?_) rfl (by kernel_rfl) (by kernel_rfl) (by kernel_rfl) (fun _ _ _ h => h) (Or.inl ⟨by rfl, ?_⟩) (by assumption) ?_
          rotate_left
          · intro w hSw
            try dsimp only at hSw
            go_simp
            try with_reducible rfl
          try simp only [Act.put]
          try simp only [List.setIfInBounds_toArray]
          try simp only [List.set_cons_succ]
          try simp only [List.set_cons_zero]
          refine wpAnyH_take (i := 8) (v := ?_) rfl (by kernel_rfl) (by kernel_rfl) (by kernel_rfl) (fun _ _ _ h => h) (Or.inl ⟨by rfl, ?_⟩) (by assumption) ?_
          rotate_left
          · intro w hSw
            try dsimp only at hSw
            go_simp
            try with_reducible rfl
          try simp only [Act.put]
          try simp only [List.setIfInBounds_toArray]
          try simp only [List.set_cons_succ]
          try simp only [List.set_cons_zero]
          refine wpAnyH_take (i := 9) (v := ?_) rfl (by kernel_rfl) (by kernel_rfl) (by kernel_rfl) (fun _ _ _ h => h) (Or.inl ⟨by rfl, ?_⟩) (by assumption) ?_
          rotate_left
          · intro w hSw
            try dsimp only at hSw
            go_simp
            try with_reducible rfl
          try simp only [Act.put]
          try simp only [List.setIfInBounds_toArray]
          try simp only [List.set_cons_succ]
          try simp only [List.set_cons_zero]
          refine wpAnyH_take (i := 10) (v := ?_) rfl (by kernel_rfl) (by kernel_rfl) (by kernel_rfl) (fun _ _ _ h => h) (Or.inl ⟨by rfl, ?_⟩) (by assumption) ?_
          rotate_left
          · intro w hSw
            try dsimp only at hSw
            go_simp
            try with_reducible rfl
          try simp only [Act.put]
          try simp only [List.setIfInBounds_toArray]
          try simp only [List.set_cons_succ]
          try simp only [List.set_cons_zero]
          refine wpAnyH_take (i := 11) (v := ?_) rfl (by kernel_rfl) (by kernel_rfl) (by kernel_rfl) (fun _ _ _ h => h) (Or.inl ⟨by rfl, ?_⟩) (by assumption) ?_
          rotate_left
          · intro w hSw
            try dsimp only at hSw
            go_simp
            try with_reducible rfl
          try simp only [Act.put]
          try simp only [List.setIfInBounds_toArray]
          try simp only [List.set_cons_succ]
          try simp only [List.set_cons_zero]
          refine wpAnyH_take (i := 12) (v := ?_) rfl (by kernel_rfl) (by kernel_rfl) (by kernel_rfl) (fun _ _ _ h => h) (Or.inl ⟨by rfl, ?_⟩) (by assumption) ?_
          rotate_left
          · intro w hSw
            try dsimp only at hSw
            go_simp
            try with_reducible rfl
          try simp only [Act.put]
          try simp only [List.setIfInBounds_toArray]
          try simp only [List.set_cons_succ]
          try simp only [List.set_cons_zero]
          refine wpAnyH_ready (rs := [6]) (by kernel_rfl) (by simp) ?_
          refine AllReadyH.cons rfl (fun K hK => ?_) AllReadyH.nil
          go_simp
          refine (HC1.out _ (Ext.refl w4).drew).mono ?_
          rintro e w5 ⟨⟨n1, rfl⟩, hxx⟩
          have HEa := Lib.hid (Ext.trans (Ext.refl w4).drew hxx)
          clear hxx
          go_simp
          refine hK.out _ _ ?_ (fun hHeld2 => ?_)
          · exact HQ.out _ HEa.out
          clear hHeld
          have hHeld := hHeld2
          clear hHeld2 hK K
          try simp only [Act.put]
          try simp only [List.setIfInBounds_toArray]
          try simp only [List.set_cons_succ]
          try simp only [List.set_cons_zero]
          refine wpAnyH_ready (rs := [13]) (by kernel_rfl) (by simp) ?_
          refine AllReadyH.cons rfl (fun K hK => ?_) AllReadyH.nil
          go_simp
          refine (HC2.out _ HEa.out).mono ?_
          rintro e w6 ⟨⟨n2, rfl⟩, hxx⟩
          have HEb := Lib.hid (Ext.trans HEa.out hxx)
          clear hxx
          go_simp
          refine hK.out _ _ ?_ (fun hHeld2 => ?_)
          · exact HQ.out _ HEb.out
          clear hHeld
          have hHeld := hHeld2
          clear hHeld2 hK K
          try simp only [Act.put]
          try simp only [List.setIfInBounds_toArray]
          try simp only [List.set_cons_succ]
          try simp only [List.set_cons_zero]
          refine wpAnyH_take (i := 14) (v := ?_) rfl (by kernel_rfl) (by kernel_rfl) (by kernel_rfl) (fun _ _ _ h => h) (Or.inl ⟨by rfl, ?_⟩) (by assumption) ?_
          rotate_left
          · intro w hSw
            try dsimp only at hSw
            go_simp
            try with_reducible rfl
          try simp only [Act.put]
          try simp only [List.setIfInBounds_toArray]
          try simp only [List.set_cons_succ]
          try simp only [List.set_cons_zero]
          refine wpAnyH_done (by kernel_rfl) ?_ _
          refine noPanic_intro ?_
          clear hHeld HC1 HC2 HQ
          by_cases hle : n1 ≤ n2
          · go_wp2
            refine bodyPost_ret (v := .tuple #[.bool false, .slice none 0 0]) (by simp [results, Tryd.results8, go_sem]) rfl ?_
            have HEE := HX3.out.trans (HX1.out.trans HEb.out)
            exact ⟨false, none, 0, [], d, c, rfl, (fun k hk => by cases hk), H.out.ext HEE, rfl, by omega, (fun h => by cases h), (fun x hx => .inl hx), Kpa.of_ext HEE, Nat.zero_le _⟩
          · go_wp2
            go_roundw
            case rel => exact ⟨k + 1, by omega, by go_num, HX1.out.trans HEb.out⟩
            case measure => simp [intOf] <;> omega
        · obtain rfl : k = G.length := by omega

          obtain ⟨wR, hwR⟩ : ∃ y, wr = y := ⟨_, rfl⟩
          rw [hwR] at hx ⊢
          clear hwR hlt hk
          have HXR := Lib.hid (HX3.out.trans hx)
          have HLR := Lib.hid (HL.out.ext hx)
          have HDR := Lib.hid (HD3.out.ext hx)
          have HBR := Lib.hid (hx.block HB3.out)
          have hBR : B ≤ wR.heap.size := Nat.le_trans HBB.out HXR.out.size
          clear hx HL HD3 HB3 HDB3
          go_wp2
          go_loopw [12, 72] (fun s i wr => ∃ k : Nat, k ≤ G.length ∧ i = .int .i64 k ∧ (∃ dk, DrAt wr B db (c + k) S dk ∧ (∀ x, x ∈ dk.D ↔ x ∈ d.D ∧ x.k ∉ (G.take k).map Th.k) ∧ dk.m = d.m ∧ dk.sb = d.sb) ∧ wr.ownsRow wR.heap.size 2 1 s k (intsV ((G.take k).map Th.k)) ∧ Kpa B drTs wR wr) (fun _ i _ => G.length - (intOf i).toNat)
          case atStart => exact ⟨0, Nat.zero_le _, rfl, ⟨d, HDR.out, (fun x => by simp), rfl, rfl⟩, World.ownsRow_nil _ _ _ _, Kpa.refl _ _ _⟩
          case round =>
            obtain ⟨k, hk, rfl, ⟨dk, hdk, hDk, hmk, hsk⟩, hown, hkp⟩ := hrel
            have hwr : wR.heap.size ≤ wr.heap.size := hkp.size
            obtain ⟨As, cs, rfl, -⟩ := own_shape hown
            by_cases hlt : k < G.length
            · obtain ⟨b, hbe, -, -, p0, p1, p2, p3⟩ := (HLR.out.kpa hkp (by decide)) k hlt
              cases hbe
              have hxD := HOK2.out.1 _ (List.getElem_mem hlt)
              have htk := List.take_succ_eq_append_getElem hlt
              obtain ⟨x, hxe⟩ : ∃ y, G[k] = y := ⟨_, rfl⟩
              rw [hxe] at p0 p1 p2 p3 hxD htk
              have HXS := Lib.hid (H.out.small x hxD.1)
              have HTK := Lib.hid htk
              obtain ⟨w4, hw4⟩ : ∃ y, wr.alloc (.cells #[.int .i64 x.k, .int .i64 x.n, .string (nmB x.t), .int .u64 x.u] 39) = y := ⟨_, rfl⟩
              have hx1 : Ext wr w4 := hw4 ▸ (Ext.refl _).alloc _
              have hbx : w4.heap[wr.heap.size]? = some (.cells #[.int .i64 x.k, .int .i64 x.n, .string (nmB x.t), .int .u64 x.u] 39 (0, 0)) := hw4 ▸ heap_alloc_new wr _
              obtain ⟨xb, hxb⟩ : ∃ y, wr.heap.size = y := ⟨_, rfl⟩
              rw [hxb] at hbx
              have x0 : w4.cell? ⟨xb, 0, none⟩ = some (.int .i64 x.k) := blk_cell hbx 0 rfl
              have HBX := Lib.hid hbx
              have HDROP := Lib.hid (ddrop_calls B db (c + k) S dk x.k w4 (hdk.ext hx1) HXS.out.1 (by omega) (Nat.le_trans hBR (Nat.le_trans hwr hx1.size)))
              have HOWN := Lib.hid (ownsRow_ext hown hx1)
              have HKP := Lib.hid (hkp.trans (Kpa.of_ext hx1))
              have HDK := Lib.hid (And.intro hDk (And.intro hmk hsk))
              have hw4s : wR.heap.size ≤ w4.heap.size := Nat.le_trans hwr hx1.size
              clear hdk hDk hmk hsk hown hkp hxD htk hxe hx1 hbx
              go_wp2_with fail
              refine HDROP.out.mono ?_
              rintro e w5 ⟨b5, d5, rfl, h1, h2, h3, h4⟩
              have x05 : w5.cell? ⟨xb, 0, none⟩ = some (.int .i64 x.k) := blk_cell (h4.cells HBX.out (by decide)) 0 rfl
              have HOWN5 := Lib.hid (own_kpa HOWN.out h4 (by decide))
              have HKP5 := Lib.hid (HKP.out.trans h4)
              have hws5 : wR.heap.size ≤ w5.heap.size := Nat.le_trans hw4s h4.size
              have HD5 := Lib.hid (And.intro h1 (And.intro h2 h3))
              obtain ⟨l0, hl0⟩ : ∃ l, intsV ((G.take k).map Th.k) = l := ⟨_, rfl⟩
              rw [hl0] at HOWN5
              have HL0 := Lib.hid hl0
              clear h1 h2 h3 h4 p0 p1 p2 p3 hw4 hxb x0 hl0 HDROP
              go_wp2_with (at_builtin; refine wpList_append_new _ rfl _ _ 28 rfl wR.heap.size 2 _ 1 8 Tryd.underlying28 infoI rfl (by omega) _ k l0 rfl HOWN5.out 1 1 w5.heap.size (by simp) #[.int .i64 x.k] (by rfl) (by rfl) (by simp [Value.oneCell']) (by simp [maxLen]; omega) (by omega) hws5 ?_; intro v6 w6 hown6 hm6)
              have hkp6 := kpa_moved HKP5.out HOWN5.out hm6
              have hsk6 : SkAt wR B d5.sb d5.m := by rw [HD5.out.2.2.1, HD5.out.2.2.2, HDK.out.2.1, HDK.out.2.2]; exact HDR.out.sk
              have hd6 := HD5.out.1.moved hsk6 hkp6 HOWN5.out hm6
              go_roundw
              case rel =>
                refine ⟨k + 1, by omega, by go_num, ⟨d5, hd6, fun y => ?_, HD5.out.2.2.1.trans HDK.out.2.1, HD5.out.2.2.2.trans HDK.out.2.2⟩, ?_, hkp6⟩
                · rw [HD5.out.2.1, HDK.out.1, HTK.out, List.map_append, List.mem_append]
                  simp only [List.map_cons, List.map_nil, List.mem_singleton]
                  constructor
                  · rintro ⟨⟨a, b⟩, e⟩; exact ⟨a, fun h => h.elim b e⟩
                  · rintro ⟨a, h⟩; exact ⟨⟨a, fun hb => h (.inl hb)⟩, fun e => h (.inr e)⟩
                · rw [HTK.out, List.map_append, intsV_append, HL0.out]; exact hown6
              case measure => simp [intOf] <;> omega
            · obtain rfl : k = G.length := by omega
              rw [List.take_length] at hDk hown

              have htb2 := hkp.cells HBR.out (by decide)
              have hdb2 := hdk.blk
              have HTB2 := Lib.hid htb2
              have HDB := Lib.hid hdb2
              have HDK := Lib.hid hdk
              have HDD := Lib.hid (And.intro hDk (And.intro hmk hsk))
              have HOWN := Lib.hid hown
              have HKP := Lib.hid hkp
              have hBr : B ≤ wr.heap.size := Nat.le_trans hBR hwr
              have hno : ∀ y ∈ dk.D, y.k ≠ t.k := fun y hy e => by
                have := (d.has_iff t.k).2 ⟨y, ((hDk y).1 hy).1, e⟩
                rw [hh] at this
                cases this
              have HNO := Lib.hid hno
              have HB1 : Hid (∀ W, Ext wr W → Calls Tryd.prog 25 #[.pointer (some ⟨dk.bb, 0, none⟩), .string (nmB t.t), .int .i64 t.n] W (BkPost W B dk.bb (c + G.length) S dk.bk)) := Lib.hid fun W hW => badd_calls B dk.bb (c + G.length) S dk.bk t.t t.n W (HDK.out.bk.ext hW) (by have := HT.out; omega) (by have := HDK.out.S1; omega) (by omega) (Nat.le_trans hBr hW.size)
              have q1 : wr.cell? ⟨db, 2, none⟩ = some (.pointer (some ⟨dk.bb, 0, none⟩)) := blk_cell hdb2 2 rfl
              have q2 : wr.cell? ⟨tb, 1, none⟩ = some (.int .i64 t.n) := blk_cell htb2 1 rfl
              have q3 : wr.cell? ⟨tb, 2, none⟩ = some (.string (nmB t.t)) := blk_cell htb2 2 rfl
              clear htb2 hdb2 hdk hDk hmk hsk hown hkp hno hlt
              go_wp2
              refine wp_region_noPanic ?_
              refine wp_region_held_drew (S := fun w' => w'.cell? ⟨db, 2, none⟩ = some (.pointer (some ⟨dk.bb, 0, none⟩)) ∧ w'.cell? ⟨tb, 1, none⟩ = some (.int .i64 t.n) ∧ w'.cell? ⟨tb, 2, none⟩ = some (.string (nmB t.t))) (by kernel_rfl) ?_ (fun hHeld => ?_)
              · exact ⟨q1, q2, q3⟩
              refine wpAnyH_take (i := 0) (v := ?_) rfl (by kernel_rfl) (by kernel_rfl) (by kernel_rfl) (fun _ _ _ h => h) (Or.inl ⟨by rfl, ?_⟩) (by assumption) ?_
              rotate_left
              · intro w hSw
                try dsimp only at hSw
                go_simp
                try with_reducible rfl
              try simp only [Act.put]
              try simp only [List.setIfInBounds_toArray]
              try simp only [List.set_cons_succ]
              try simp only [List.set_cons_zero]
              refine wpAnyH_take (i := 1) (v := ?_) rfl (by kernel_rfl) (by kernel_rfl) (by kernel_rfl) (fun _ _ _ h => h) (Or.inl ⟨by rfl, ?_⟩) (by assumption) ?_
              rotate_left
              · intro w hSw
                try dsimp only at hSw
                go_simp
                try with_reducible rfl
              try simp only [Act.put]
              try simp only [List.setIfInBounds_toArray]
              try simp only [List.set_cons_succ]
              try simp only [List.set_cons_zero]
              refine wpAnyH_take (i := 2) (v := ?_) rfl (by kernel_rfl) (by kernel_rfl) (by kernel_rfl) (fun _ _ _ h => h) (Or.inl ⟨by rfl, ?_⟩) (by assumption) ?_
              rotate_left
              · intro w hSw
                try dsimp only at hSw
                go_simp
                try with_reducible rfl
              try simp only [Act.put]
              try simp only [List.setIfInBounds_toArray]
              try simp only [List.set_cons_succ]
              try simp only [List.set_cons_zero]
              refine wpAnyH_take (i := 3) (v := ?_) rfl (by kernel_rfl) (by kernel_rfl) (by kernel_rfl) (fun _ _ _ h => h) (Or.inl ⟨by rfl, ?_⟩) (by assumption) ?_
              rotate_left
              · intro w hSw
                try dsimp only at hSw
                go_simp
                try with_reducible rfl
              try simp only [Act.put]
              try simp only [List.setIfInBounds_toArray]
              try simp only [List.set_cons_succ]
              try simp only [List.set_cons_zero]
              refine wpAnyH_take (i := 4) (v := ?_) rfl (by kernel_rfl) (by kernel_rfl) (by kernel_rfl) (fun _ _ _ h => h) (Or.inl ⟨by rfl, ?_⟩) (by assumption) ?_
              rotate_left
              · intro w hSw
                try dsimp only at hSw
                go_simp
                try with_reducible rfl
              try simp only [Act.put]
              try simp only [List.setIfInBounds_toArray]
              try simp only [List.set_cons_succ]
              try simp only [List.set_cons_zero]
              refine wpAnyH_take (i := 5) (v := ?_) rfl (by kernel_rfl) (by kernel_rfl) (by kernel_rfl) (fun _ _ _ h => h) (Or.inl ⟨by rfl, ?_⟩) (by assumption) ?_
              rotate_left
              · intro w hSw
                try dsimp only at hSw
                go_simp
                try with_reducible rfl
              try simp only [Act.put]
              try simp only [List.setIfInBounds_toArray]
              try simp only [List.set_cons_succ]
              try simp only [List.set_cons_zero]
              refine wpAnyH_take (i := 6) (v := ?_) rfl (by kernel_rfl) (by kernel_rfl) (by kernel_rfl) (fun _ _ _ h => h) (Or.inl ⟨by rfl, ?_⟩) (by assumption) ?_
              rotate_left
              · intro w hSw
                try dsimp only at hSw
                go_simp
                try with_reducible rfl
              try simp only [Act.put]
              try simp only [List.setIfInBounds_toArray]
              try simp only [List.set_cons_succ]
              try simp only [List.set_cons_zero]
              refine wpAnyH_take (i := 7) (v := ?_) rfl (by kernel_rfl) (by kernel_rfl) (by kernel_rfl) (fun _ _ _ h => h) (Or.inl ⟨by rfl, ?_⟩) (by assumption) ?_
              rotate_left
              · intro w hSw
                try dsimp only at hSw
                go_simp
                try with_reducible rfl
              try simp only [Act.put]
              try simp only [List.setIfInBounds_toArray]
              try simp only [List.set_cons_succ]
              try simp only [List.set_cons_zero]
              refine wpAnyH_ready (rs := [8]) (by kernel_rfl) (by simp) ?_
              refine AllReadyH.cons rfl (fun K hK => ?_) AllReadyH.nil
              go_simp
              refine (HB1.out _ (Ext.refl wr).drew).mono ?_
              rintro e w5 ⟨r5, bk', rfl, hbk, hbm, hk5⟩
              have hk5' : Kp B bkTs dk.bk.m.toList wr w5 := ((Kp.refl _ _ _ _).ext (Ext.refl wr).drew).trans hk5
              go_simp
              refine hK.out _ _ ?_ (fun hHeld2 => ?_)
              · exact ⟨blk_cell (hk5'.cells HDB.out (by decide)) 2 rfl, blk_cell (hk5'.cells HTB2.out (by decide)) 1 rfl, blk_cell (hk5'.cells HTB2.out (by decide)) 2 rfl⟩
              clear hHeld
              have hHeld := hHeld2
              clear hHeld2 hK K
              try simp only [Act.put]
              try simp only [List.setIfInBounds_toArray]
              try simp only [List.set_cons_succ]
              try simp only [List.set_cons_zero]
              refine wpAnyH_done (by kernel_rfl) ?_ _
              refine noPanic_intro ?_
              have hdb5 := hk5'.cells HDB.out (by decide)
              have htb5 := hk5'.cells HTB2.out (by decide)
              have HDB5 := Lib.hid hdb5
              have HTB5 := Lib.hid htb5
              have HBK5 := Lib.hid (And.intro hbk (And.intro hbm hk5'))
              have hBr5 : B ≤ w5.heap.size := Nat.le_trans hBr hk5'.size
              have hls5 : LsAt w5 B dk.lb (c + G.length) dk.ls := HDK.out.ls.kp_ hk5' (by decide) (by decide) (fun m hm hmm => by
                have := HDK.out.ap3 m hm
                exact this (by simpa using hmm))
              have hnol : ∀ x ∈ dk.ls.all, x.k ≠ t.k := fun x hx e => by
                obtain ⟨y, hy, e2⟩ := (HDK.out.same t.k).2 ⟨x, hx, e⟩
                exact HNO.out y hy e2
              have HB2 : Hid (∀ W, Ext w5 W → Calls Tryd.prog 26 #[.pointer (some ⟨dk.lb, 0, none⟩), .int .i64 t.k, .int .i64 t.n] W (AddPost W B dk.lb (c + G.length) dk.ls t.k t.n)) := Lib.hid fun W hW => ladd_calls B dk.lb (c + G.length) dk.ls t.k t.n W (hls5.ext hW) HKU.out.1 HT.out hnol (by omega) (Nat.le_trans hBr5 hW.size)
              have u1 : w5.cell? ⟨db, 3, none⟩ = some (.pointer (some ⟨dk.lb, 0, none⟩)) := blk_cell hdb5 3 rfl
              have u2 : w5.cell? ⟨tb, 0, none⟩ = some (.int .i64 t.k) := blk_cell htb5 0 rfl
              have u3 : w5.cell? ⟨tb, 1, none⟩ = some (.int .i64 t.n) := blk_cell htb5 1 rfl
              clear hbk hbm hk5 hk5' hdb5 htb5 hls5 hnol q1 q2 q3 HB1 hHeld
              go_wp2_with fail
              refine wp_region_noPanic ?_
              refine wp_region_held_drew (S := fun w' => w'.cell? ⟨db, 3, none⟩ = some (.pointer (some ⟨dk.lb, 0, none⟩)) ∧ w'.cell? ⟨tb, 0, none⟩ = some (.int .i64 t.k) ∧ w'.cell? ⟨tb, 1, none⟩ = some (.int .i64 t.n)) (by kernel_rfl) ?_ (fun hHeld => ?_)
              · exact ⟨u1, u2, u3⟩
              refine wpAnyH_take (i := 0) (v := ?_) rfl (by kernel_rfl) (by kernel_rfl) (by kernel_rfl) (fun _ _ _ h => h) (Or.inl ⟨by rfl, ?_⟩) (by assumption) ?_
              rotate_left
              · intro w hSw
                try dsimp only at hSw
                go_simp
                try with_reducible rfl
              try simp only [Act.put]
              try simp only [List.setIfInBounds_toArray]
              try simp only [List.set_cons_succ]
              try simp only [List.set_cons_zero]
              refine wpAnyH_take (i := 1) (v := ?_) rfl (by kernel_rfl) (by kernel_rfl) (by kernel_rfl) (fun _ _ _ h => h) (Or.inl ⟨by rfl, ?_⟩) (by assumption) ?_
              rotate_left
              · intro w hSw
                try dsimp only at hSw
                go_simp
                try with_reducible rfl
              try simp only [Act.put]
              try simp only [List.setIfInBounds_toArray]
              try simp only [List.set_cons_succ]
              try simp only [List.set_cons_zero]
              refine wpAnyH_take (i := 2) (v := ?_) rfl (by kernel_rfl) (by kernel_rfl) (by kernel_rfl) (fun _ _ _ h => h) (Or.inl ⟨by rfl, ?_⟩) (by assumption) ?_
              rotate_left
              · intro w hSw
                try dsimp only at hSw
                go_simp
                try with_reducible rfl
              try simp only [Act.put]
              try simp only [List.setIfInBounds_toArray]
              try simp only [List.set_cons_succ]
              try simp only [List.set_cons_zero]
              refine wpAnyH_take (i := 3) (v := ?_) rfl (by kernel_rfl) (by kernel_rfl) (by kernel_rfl) (fun _ _ _ h => h) (Or.inl ⟨by rfl, ?_⟩) (by assumption) ?_
              rotate_left
              · intro w hSw
                try dsimp only at hSw
                go_simp
                try with_reducible rfl
              try simp only [Act.put]
              try simp only [List.setIfInBounds_toArray]
              try simp only [List.set_cons_succ]
              try simp only [List.set_cons_zero]
              refine wpAnyH_take (i := 4) (v := ?_) rfl (by kernel_rfl) (by kernel_rfl) (by kernel_rfl) (fun _ _ _ h => h) (Or.inl ⟨by rfl, ?_⟩) (by assumption) ?_
              rotate_left
              · intro w hSw
                try dsimp only at hSw
                go_simp
                try with_reducible rfl
              try simp only [Act.put]
              try simp only [List.setIfInBounds_toArray]
              try simp only [List.set_cons_succ]
              try simp only [List.set_cons_zero]
              refine wpAnyH_take (i := 5) (v := ?_) rfl (by kernel_rfl) (by kernel_rfl) (by kernel_rfl) (fun _ _ _ h => h) (Or.inl ⟨by rfl, ?_⟩) (by assumption) ?_
              rotate_left
              · intro w hSw
                try dsimp only at hSw
                go_simp
                try with_reducible rfl
              try simp only [Act.put]
              try simp only [List.setIfInBounds_toArray]
              try simp only [List.set_cons_succ]
              try simp only [List.set_cons_zero]
              refine wpAnyH_take (i := 6) (v := ?_) rfl (by kernel_rfl) (by kernel_rfl) (by kernel_rfl) (fun _ _ _ h => h) (Or.inl ⟨by rfl, ?_⟩) (by assumption) ?_
              rotate_left
              · intro w hSw
                try dsimp only at hSw
                go_simp
                try with_reducible rfl
              try simp only [Act.put]
              try simp only [List.setIfInBounds_toArray]
              try simp only [List.set_cons_succ]
              try simp only [List.set_cons_zero]
              refine wpAnyH_take (i := 7) (v := ?_) rfl (by kernel_rfl) (by kernel_rfl) (by kernel_rfl) (fun _ _ _ h => h) (Or.inl ⟨by rfl, ?_⟩) (by assumption) ?_
              rotate_left
              · intro w hSw
                try dsimp only at hSw
                go_simp
                try with_reducible rfl
              try simp only [Act.put]
              try simp only [List.setIfInBounds_toArray]
              try simp only [List.set_cons_succ]
              try simp only [List.set_cons_zero]
              refine wpAnyH_ready (rs := [8]) (by kernel_rfl) (by simp) ?_
              refine AllReadyH.cons rfl (fun K hK => ?_) AllReadyH.nil
              go_simp
              refine (HB2.out _ (Ext.refl w5).drew).mono ?_
              rintro e w6 ⟨s', nd, rfl, hls6, hlm6, -, hnd6, hall6, hk6⟩
              have hk6' : Kp B lsTs dk.ls.m.toList w5 w6 := ((Kp.refl _ _ _ _).ext (Ext.refl w5).drew).trans hk6
              go_simp
              refine hK.out _ _ ?_ (fun hHeld2 => ?_)
              · exact ⟨blk_cell (hk6'.cells HDB5.out (by decide)) 3 rfl, blk_cell (hk6'.cells HTB5.out (by decide)) 0 rfl, blk_cell (hk6'.cells HTB5.out (by decide)) 1 rfl⟩
              clear hHeld
              have hHeld := hHeld2
              clear hHeld2 hK K
              try simp only [Act.put]
              try simp only [List.setIfInBounds_toArray]
              try simp only [List.set_cons_succ]
              try simp only [List.set_cons_zero]
              refine wpAnyH_done (by kernel_rfl) ?_ _
              refine noPanic_intro ?_
              have hdb6 := hk6'.cells HDB5.out (by decide)
              have htb6 := hk6'.cells HTB5.out (by decide)
              have HLS6 := Lib.hid (And.intro hls6 (And.intro hlm6 (And.intro hnd6 (And.intro hall6 hk6'))))
              obtain ⟨tm, htm⟩ : ∃ y, dk.tm = y := ⟨_, rfl⟩
              obtain ⟨f, hf1, hf2, hf3⟩ := HDK.out.map
              have hf6 : MapV Tryd.prog 2 w6.drew dk.tm (c + G.length) f := ((hf1.kp HBK5.out.2.2 (fun hmm => HDK.out.ap2 (by simpa using hmm))).kp hk6' (fun hmm => HDK.out.ap1 (by simpa using hmm))).ext (Ext.refl w6).drew
              obtain ⟨w7, hrun, hmap7, hg7⟩ := hf6.put_run (Maps.int_keyed Tryd.underlying2) Tryd.underlying61 (by simp [maxLen]; omega) t.val (key_mk HKU.out.1)
              obtain ⟨es6, cl6, hbm6⟩ := hf6.blk
              have htmB : B ≤ dk.tm := HDK.out.tm
              have hk7 : Kp B [] [dk.tm] w6 w7 := ((Kp.refl _ _ _ _).ext (Ext.refl w6).drew).map hbm6 (by simp) htmB hg7
              have HDB7 := Lib.hid (hk7.cells hdb6 (by simp))
              have HTB7 := Lib.hid (hk7.cells htb6 (by simp))
              have HK7 := Lib.hid (And.intro hmap7 hk7)
              have HF := Lib.hid (And.intro hf2 hf3)
              rw [htm] at hrun HDB7
              have v1 : w6.cell? ⟨db, 5, none⟩ = some (.map (some tm)) := by rw [← htm]; exact blk_cell hdb6 5 rfl
              have v2 : w6.cell? ⟨tb, 0, none⟩ = some (.int .i64 t.k) := blk_cell htb6 0 rfl
              have v3 : w6.cell? ⟨tb, 1, none⟩ = some (.int .i64 t.n) := blk_cell htb6 1 rfl
              have v4 : w6.cell? ⟨tb, 2, none⟩ = some (.string (nmB t.t)) := blk_cell htb6 2 rfl
              have v5 : w6.cell? ⟨tb, 3, none⟩ = some (.int .u64 t.u) := blk_cell htb6 3 rfl
              unfold Th.val at hrun
              clear hls6 hlm6 hnd6 hall6 hk6 hk6' hf1 hf2 hf3 hf6 hmap7 hg7 hbm6 hk7 hdb6 htb6 u1 u2 u3 HB2 hHeld
              go_wp2_with fail
              refine wp_region_noPanic ?_
              refine wp_region_held_drew (S := fun w' => w'.cell? ⟨db, 5, none⟩ = some (.map (some tm)) ∧ w'.cell? ⟨tb, 0, none⟩ = some (.int .i64 t.k) ∧ w'.cell? ⟨tb, 1, none⟩ = some (.int .i64 t.n) ∧ w'.cell? ⟨tb, 2, none⟩ = some (.string (nmB t.t)) ∧ w'.cell? ⟨tb, 3, none⟩ = some (.int .u64 t.u)) (by kernel_rfl) ?_ (fun hHeld => ?_)
              · exact ⟨v1, v2, v3, v4, v5⟩
              refine wpAnyH_take (i := 0) (v := ?_) rfl (by kernel_rfl) (by kernel_rfl) (by kernel_rfl) (fun _ _ _ h => h) (Or.inl ⟨by rfl, ?_⟩) (by assumption) ?_
              rotate_left
              · intro w hSw
                try dsimp only at hSw
                go_simp
                try with_reducible rfl
              try simp only [Act.put]
              try simp only [List.setIfInBounds_toArray]
              try simp only [List.set_cons_succ]
              try simp only [List.set_cons_zero]
              refine wpAnyH_take (i := 1) (v := ?_) rfl (by kernel_rfl) (by kernel_rfl) (by kernel_rfl) (fun _ _ _ h => h) (Or.inl ⟨by rfl, ?_⟩) (by assumption) ?_
              rotate_left
              · intro w hSw
                try dsimp only at hSw
                go_simp
                try with_reducible rfl
              try simp only [Act.put]
              try simp only [List.setIfInBounds_toArray]
              try simp only [List.set_cons_succ]
              try simp only [List.set_cons_zero]
              refine wpAnyH_take (i := 2) (v := ?_) rfl (by kernel_rfl) (by kernel_rfl) (by kernel_rfl) (fun _ _ _ h => h) (Or.inl ⟨by rfl, ?_⟩) (by assumption) ?_
              rotate_left
              · intro w hSw
                try dsimp only at hSw
                go_simp
                try with_reducible rfl
              try simp only [Act.put]
              try simp only [List.setIfInBounds_toArray]
              try simp only [List.set_cons_succ]
              try simp only [List.set_cons_zero]
              refine wpAnyH_take (i := 3) (v := ?_) rfl (by kernel_rfl) (by kernel_rfl) (by kernel_rfl) (fun _ _ _ h => h) (Or.inl ⟨by rfl, ?_⟩) (by assumption) ?_
              rotate_left
              · intro w hSw
                try dsimp only at hSw
                go_simp
                try with_reducible rfl
              try simp only [Act.put]
              try simp only [List.setIfInBounds_toArray]
              try simp only [List.set_cons_succ]
              try simp only [List.set_cons_zero]
              refine wpAnyH_take (i := 4) (v := ?_) rfl (by kernel_rfl) (by kernel_rfl) (by kernel_rfl) (fun _ _ _ h => h) (Or.inl ⟨by rfl, ?_⟩) (by assumption) ?_
              rotate_left
              · intro w hSw
                try dsimp only at hSw
                go_simp
                try with_reducible rfl
              try simp only [Act.put]
              try simp only [List.setIfInBounds_toArray]
              try simp only [List.set_cons_succ]
              try simp only [List.set_cons_zero]
              refine wpAnyH_take (i := 5) (v := ?_) rfl (by kernel_rfl) (by kernel_rfl) (by kernel_rfl) (fun _ _ _ h => h) (Or.inl ⟨by rfl, ?_⟩) (by assumption) ?_
              rotate_left
              · intro w hSw
                try dsimp only at hSw
                go_simp
                try with_reducible rfl
              try simp only [Act.put]
              try simp only [List.setIfInBounds_toArray]
              try simp only [List.set_cons_succ]
              try simp only [List.set_cons_zero]
              refine wpAnyH_take (i := 6) (v := ?_) rfl (by kernel_rfl) (by kernel_rfl) (by kernel_rfl) (fun _ _ _ h => h) (Or.inl ⟨by rfl, ?_⟩) (by assumption) ?_
              rotate_left
              · intro w hSw
                try dsimp only at hSw
                go_simp
                try with_reducible rfl
              try simp only [Act.put]
              try simp only [List.setIfInBounds_toArray]
              try simp only [List.set_cons_succ]
              try simp only [List.set_cons_zero]
              refine wpAnyH_ready (rs := [7]) (by kernel_rfl) (by simp) ?_
              refine AllReadyH.cons rfl (fun K hK => ?_) AllReadyH.nil
              go_simp
              refine hK.out _ _ ?_ (fun hHeld2 => ?_)
              · exact ⟨blk_cell HDB7.out 5 rfl, blk_cell HTB7.out 0 rfl, blk_cell HTB7.out 1 rfl, blk_cell HTB7.out 2 rfl, blk_cell HTB7.out 3 rfl⟩
              clear hHeld
              have hHeld := hHeld2
              clear hHeld2 hK K
              try simp only [Act.put]
              try simp only [List.setIfInBounds_toArray]
              try simp only [List.set_cons_succ]
              try simp only [List.set_cons_zero]
              refine wpAnyH_done (by kernel_rfl) ?_ _
              refine noPanic_intro ?_
              clear hHeld hrun v1 v2 v3 v4 v5
              go_wp2_with fail
              refine bodyPost_ret (v := .tuple #[.bool true, .slice As G.length cs]) (by simp [results, Tryd.results8, go_sem]) rfl ?_
              have hkp7 : Kpa B drTs wR w7 := ((HKP.out.trans (Kpa.of HBK5.out.2.2 (by decide))).trans (Kpa.of HLS6.out.2.2.2.2 (by decide))).trans (Kpa.of HK7.out.2 (by decide))
              have hown7 := own_kpa HOWN.out (((Kpa.of HBK5.out.2.2 (T := drTs) (by decide)).trans (Kpa.of HLS6.out.2.2.2.2 (by decide))).trans (Kpa.of HK7.out.2 (by decide))) (by decide)
              have hmore := HDK.out.more HKU.out.1 HKU.out.2 HT.out HNO.out (by omega) HBK5.out.1 HBK5.out.2.1 HBK5.out.2.2 HLS6.out.1 HLS6.out.2.1 HLS6.out.2.2.1 HLS6.out.2.2.2.1 HLS6.out.2.2.2.2 HF.out.1 HF.out.2 HK7.out.1 HK7.out.2
              have hlenD : G.length + dk.D.length ≤ d.D.length := by
                have := len_sub (l := G.map Th.k ++ dk.D.map Th.k) (m := d.D.map Th.k) (by
                  rw [List.nodup_append]
                  refine ⟨HOK2.out.2, HDK.out.kd, fun a ha b hb e => ?_⟩
                  subst e
                  obtain ⟨y, hy, rfl⟩ := List.mem_map.1 hb
                  exact ((HDD.out.1 y).1 hy).2 ha) (fun y hy => by
                  rcases List.mem_append.1 hy with hy | hy
                  · obtain ⟨z, hz, rfl⟩ := List.mem_map.1 hy
                    exact List.mem_map.2 ⟨z, (HOK2.out.1 z hz).1, rfl⟩
                  · obtain ⟨z, hz, rfl⟩ := List.mem_map.1 hy
                    exact List.mem_map.2 ⟨z, ((HDD.out.1 z).1 hz).1, rfl⟩)
                simpa using this
              refine ⟨true, As, cs, G.map Th.k, _, _, by simp, iat_of_own hown7, hmore, HDD.out.2.1, by simp; omega, fun _ => ⟨t, List.mem_append_right _ (List.mem_singleton.2 rfl), rfl⟩, fun x hx => ?_, (Kpa.of_ext HXR.out).trans hkp7, by simp; omega⟩
              by_cases hxg : x.k ∈ G.map Th.k
              · obtain ⟨z, hz, e⟩ := List.mem_map.1 hxg
                obtain ⟨g1, g2, g3⟩ := HOK2.out.1 z hz
                obtain rfl : z = x := eq_of_key H.out.kd g1 hx e
                exact .inr ⟨g2, g3, hxg⟩
              · exact .inl (List.mem_append_left _ ((HDD.out.1 x).2 ⟨hx, hxg⟩))
  · rw [hh] at HH
    go_enter Tryd.func8, Tryd.ntmps8
    go_wp2_with fail
    refine HS.out.mono ?_
    rintro e w1 ⟨rfl, hw1⟩
    rw [hw1]
    clear hw1
    go_wp2_with fail
    refine HH.out.mono ?_
    rintro e w2 ⟨rfl, hx2⟩
    have HX2 := Lib.hid (HXA.out.trans hx2)
    clear hwa htb b0 b1 b2 hx2
    go_wp2
    refine bodyPost_ret (v := .tuple #[.bool false, .slice none 0 0]) (by simp [results, Tryd.results8, go_sem]) rfl ?_
    have HEE := HX2.out
    exact ⟨false, none, 0, [], d, c, rfl, (fun k hk => by cases hk), H.out.ext HEE, rfl, by omega, (fun h => by cases h), (fun x hx => .inl hx), Kpa.of_ext HEE, Nat.zero_le _⟩
end Go.Proofs.YtmcddajniiaieaaDoor
