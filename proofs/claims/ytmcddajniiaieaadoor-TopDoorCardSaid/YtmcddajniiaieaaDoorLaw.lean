/- The walk of TopDoor. -/
import Derived.Test.YtmcddajniiaieaaDoorOff
namespace Go.Proofs.YtmcddajniiaieaaDoor
open Go.RowKit

def allTs : List TypeId := skTs ++ drTs
theorem Kpa.to_ext {B : Nat} {T : List TypeId} {w w' : World} (h : Kpa B T w w') (hB : w.heap.size ≤ B) : Ext w w' := by
  obtain ⟨M, h⟩ := h
  exact h.to_ext hB
theorem Kpa.more {B : Nat} {T T' : List TypeId} {w w' : World} (h : Kpa B T w w') (ht : ∀ t ∈ T, t ∈ T') : Kpa B T' w w' := by
  obtain ⟨M, h⟩ := h
  exact Kpa.of h ht
theorem ask_all {B : Nat} {w w' : World} (h : Kp B (skTs ++ lsTs) [] w w') : Kpa B allTs w w' := Kpa.of h (by decide)

theorem wrap_u64 {n : Int} (h : 0 ≤ n ∧ n ≤ 255) : IntKind.u64.wrap n = n := by
  have e : IntKind.u64.wrap n = n % 18446744073709551616 := by simp [IntKind.wrap, IntKind.bits, IntKind.signed]
  rw [e]; omega
theorem wrap_u8 {n : Int} (h : 0 ≤ n ∧ n ≤ 255) : IntKind.u8.wrap n = n := by
  have e : IntKind.u8.wrap n = n % 256 := by simp [IntKind.wrap, IntKind.bits, IntKind.signed]
  rw [e]; omega
theorem Kpa.blk {B : Nat} {T : List TypeId} {w w' : World} {k : Nat} {cs : Array Value} {t : TypeId} {fr : Nat × Nat} (h : Kpa B T w w') (ho : w.heap[k]? = some (.cells cs t fr)) (ht : t ∉ T) : w'.heap[k]? = some (.cells cs t fr) := h.cells ho ht

set_option maxHeartbeats 20000000 in
set_option maxRecDepth 100000 in
theorem topdoor_calls (A : Option Addr) (cA : Nat) (L : List Off) (share : Int) (w : World) (h : OAt w A L) (hs : 0 ≤ share ∧ share ≤ 255) :
    Calls Tryd.prog 3 #[.slice A L.length cA, .int .u8 share] w fun e w' => e = .returned (.bool true) ∧ Ext w w' := by
  have H := Lib.hid h
  have HAL : Hid (∀ W, Calls Tryd.prog 4 #[] W fun e w' => e = .returned (.bool true) ∧ Ext W w') := Lib.hid alive_calls
  obtain ⟨S, hS⟩ : ∃ S, share + 1 = S := ⟨_, rfl⟩
  have hSb : 1 ≤ S ∧ S ≤ 256 := by omega
  have hw1 : IntKind.i64.wrap (share + 1) = S := by rw [← hS]; exact IntWalk.i64_in _ (by omega)
  have hwc : IntKind.i64.wrap share = share := IntWalk.i64_in _ (by omega)
  have hw2 : IntKind.i64.wrap (2 * S) = 2 * S := IntWalk.i64_in _ (by omega)
  have HN := Lib.hid (dnew_calls w.heap.size S w (by omega) (Nat.le_refl _))
  obtain ⟨R, hR⟩ : ∃ R, 2 * S = R := ⟨_, rfl⟩
  have hRb : R = 2 * S := hR.symm
  have HRB := Lib.hid hRb
  rw [hR] at hw2 HN
  have HSS := Lib.hid hSb
  clear h hRb
  by_cases hlen : 40 < L.length
  · go_enter Tryd.func3, Tryd.ntmps3
    go_wp2_with fail
    refine (HAL.out _).mono ?_
    rintro e w1 ⟨rfl, hx1⟩
    go_wp2
    go_ret
    exact ⟨rfl, hx1⟩
  · go_enter Tryd.func3, Tryd.ntmps3
    go_wp2_with fail
    refine HN.out.mono ?_
    rintro e w1 ⟨db, d0, rfl, hd, hD0, hm0, hx1⟩
    have HD0 := Lib.hid (And.intro hd (And.intro hD0 hm0))
    have HX1 := Lib.hid hx1
    clear hd hD0 hm0 hx1 HN hS hw1 hwc
    obtain ⟨B, hB⟩ : ∃ B, w.heap.size = B := ⟨_, rfl⟩
    rw [hB] at HD0
    have HB := Lib.hid hB
    clear hB
    go_wp2
    go_loopw [40] (fun i wr => ∃ k : Nat, k ≤ L.length ∧ i = .int .i64 k ∧ (∃ d c, DrAt wr B db c S d ∧ c + d.D.length ≤ 2 * k ∧ 0 ≤ d.m ∧ d.m ≤ 4 * k) ∧ Kpa B allTs w wr) (fun i _ => L.length - (intOf i).toNat)
    case atStart => exact ⟨0, Nat.zero_le _, rfl, ⟨d0, 0, HD0.out.1, by rw [HD0.out.2.1]; simp, by rw [HD0.out.2.2]; exact Int.le_refl _, by rw [HD0.out.2.2]; exact Int.le_refl _⟩, Kpa.of_ext HX1.out⟩
    case round =>
      obtain ⟨k, hk, rfl, ⟨d, c, hd, hcD, hm0, hm1⟩, hkp⟩ := hrel
      have hxw := hkp.to_ext (Nat.le_of_eq HB.out)
      by_cases hlt : k < L.length
      · obtain ⟨b, o, rfl, p0, p1, p2, p3, p4, hok⟩ := (H.out.ext hxw) k hlt
        obtain ⟨_, _, -, -, -, -, -, -, hokw⟩ := H.out k hlt
        obtain ⟨x, hxe⟩ : ∃ y, L[k] = y := ⟨_, rfl⟩
        rw [hxe] at p0 p1 p2 p3 p4 hok hokw
        have HOKW := Lib.hid hokw
        clear hokw
        obtain ⟨w2, hw2e⟩ : ∃ y, wr.alloc (.cells #[.int .u8 x.key, .int .u8 x.bytes, .bool x.ten, .int .u8 x.asked, .slice x.hA x.held.length x.hc] 30) = y := ⟨_, rfl⟩
        have hx2 : Ext wr w2 := hw2e ▸ (Ext.refl _).alloc _
        have hob : w2.heap[wr.heap.size]? = some (.cells #[.int .u8 x.key, .int .u8 x.bytes, .bool x.ten, .int .u8 x.asked, .slice x.hA x.held.length x.hc] 30 (0, 0)) := hw2e ▸ heap_alloc_new wr _
        obtain ⟨ob, hobe⟩ : ∃ y, wr.heap.size = y := ⟨_, rfl⟩
        rw [hobe] at hob
        have q4 : w2.cell? ⟨ob, 4, none⟩ = some (.slice x.hA x.held.length x.hc) := blk_cell hob 4 rfl
        have q3 : w2.cell? ⟨ob, 3, none⟩ = some (.int .u8 x.asked) := blk_cell hob 3 rfl
        have HOK := Lib.hid (hok.ext hx2)
        have HOB := Lib.hid hob
        have HKP := Lib.hid (hkp.trans (Kpa.of_ext hx2))
        have HD := Lib.hid (And.intro (hd.ext hx2) (And.intro hcD (And.intro hm0 hm1)))
        have hBs : B ≤ w2.heap.size := by have := hxw.size; have := hx2.size; have := HB.out; omega
        clear hd hcD hm0 hm1 hkp hxw hok hob hx2 hxe
        obtain ⟨q, hq⟩ : ∃ q, x.asked.tmod 5 = q := ⟨_, rfl⟩
        have hqb : 0 ≤ q ∧ q ≤ 4 := by
          have := HOK.out.2.2.1
          rw [← hq, Int.tmod_eq_emod_of_nonneg this.1]
          omega
        have hwk1 : IntKind.u64.wrap x.key = x.key := wrap_u64 HOK.out.1
        have hwk2 : IntKind.i64.wrap x.key = x.key := IntWalk.i64_in _ (by have := HOK.out.1; omega)
        have hkI : I64 x.key := by have := HOK.out.1; unfold I64; omega
        by_cases hhl : 20 < x.held.length
        · go_wp2_with fail
          refine (HAL.out _).mono ?_
          rintro e w3 ⟨rfl, hx3⟩
          go_wp2
          go_ret
          exact ⟨rfl, (HKP.out.to_ext (Nat.le_of_eq HB.out)).trans hx3⟩
        · go_wp2

          clear p0 p1 p2 p3 p4 hw2e hobe hq
          have hdm : 0 ≤ d.m ∧ d.m ≤ 160 := by have := HD.out.2.2; omega
          have hkl : k < 40 := by omega
          go_loopw [52] (fun i wr => ∃ j : Int, (0 ≤ j ∧ j ≤ q) ∧ i = .int .u8 j ∧ (∃ d', DrAt wr B db c S d' ∧ d'.D = d.D ∧ d'.m = d.m + j) ∧ Kpa B allTs w2 wr) (fun i _ => (q - intOf i).toNat)
          case atStart => exact ⟨0, ⟨Int.le_refl _, hqb.1⟩, rfl, ⟨d, HD.out.1, rfl, by omega⟩, Kpa.refl _ _ _⟩
          case round =>
            obtain ⟨j, hj, rfl, ⟨d1, hd1, hD1, hm1⟩, hk1⟩ := hrel
            have hobr := hk1.blk HOB.out (by decide)
            by_cases hjq : j < q
            · have q0 : wr.cell? ⟨ob, 0, none⟩ = some (.int .u8 x.key) := blk_cell hobr 0 rfl
              have hwj : IntKind.u8.wrap (j + 1) = j + 1 := wrap_u8 (by omega)
              have HASK := Lib.hid (ask_calls B db c S d1 x.key x.key wr hd1 hkI (by have := HOK.out.1; omega) (by omega))
              have HK1 := Lib.hid (And.intro hk1 (And.intro hD1 hm1))
              clear hk1 hD1 hm1 hd1 hobr
              go_wp2_with fail
              refine HASK.out.mono ?_
              rintro e w4 ⟨d2, rfl, h1, h2, h3, h4⟩
              have HA := Lib.hid (And.intro h1 (And.intro h2 (And.intro h3 h4)))
              clear h1 h2 h3 h4
              go_wp2
              go_roundw
              case rel => exact ⟨j + 1, by omega, rfl, ⟨d2, HA.out.1, HA.out.2.1.trans HK1.out.2.1, by rw [HA.out.2.2.1, HK1.out.2.2]; omega⟩, HK1.out.1.trans (ask_all HA.out.2.2.2)⟩
              case measure => simp [intOf] <;> omega
            · obtain rfl : j = q := by omega
              have HTH := Lib.hid (things_calls B db c S d1 wr hd1)
              have HD1 := Lib.hid (And.intro hd1 (And.intro hD1 hm1))
              have HK1 := Lib.hid hk1
              have HOBR := Lib.hid hobr
              clear hd1 hD1 hm1 hk1 hobr hjq
              go_wp2_with fail
              refine HTH.out.mono ?_
              rintro e w4 ⟨v, G, rfl, hown, hGD, hGn, hx4⟩
              obtain ⟨A4, c4, rfl, -⟩ := own_shape hown
              have HG := Lib.hid (tat_of_own hown rfl)
              have HGD := Lib.hid hGD
              have HX4 := Lib.hid hx4
              have hob4 := hx4.block HOBR.out
              have HOB4 := Lib.hid hob4
              have hd4 := HD1.out.1.ext hx4
              have hxw4 : Ext w w4 := ((HKP.out.trans HK1.out).to_ext (Nat.le_of_eq HB.out)).trans hx4
              have hok4 := HOKW.out.ext hxw4
              have HOK4 := Lib.hid hok4
              have HD4 := Lib.hid hd4
              have HXW4 := Lib.hid hxw4
              obtain ⟨rm, hrm⟩ : ∃ n, x.bytes.tmod S = n := ⟨_, rfl⟩
              have hrb : 0 ≤ rm ∧ rm < 256 := by
                have h1 := HOK.out.2.1
                rw [← hrm, Int.tmod_eq_emod_of_nonneg h1.1]
                have := Int.emod_nonneg x.bytes (show S ≠ 0 by omega)
                have := Int.emod_lt_of_pos x.bytes (show 0 < S by omega)
                omega
              obtain ⟨n, hn⟩ : ∃ n, rm + 1 = n := ⟨_, rfl⟩
              have hwr : IntKind.i64.wrap rm = rm := IntWalk.i64_in _ (by omega)
              have hwn : IntKind.i64.wrap n = n := IntWalk.i64_in _ (by omega)
              have hwk3 : IntKind.i64.wrap x.bytes = x.bytes := IntWalk.i64_in _ (by have := HOK.out.2.1; omega)
              have hwk4 : IntKind.i64.wrap (rm + 1) = rm + 1 := IntWalk.i64_in _ (by omega)
              have hS0 : ¬ S = 0 := by omega
              have hDl : c + d1.D.length + 2 ≤ 800 := by rw [HD1.out.2.1]; have := HD.out.2.1; omega
              have HOF : Hid (∀ W, Ext w4 W → Calls Tryd.prog 8 #[.pointer (some ⟨db, 0, none⟩), .agg #[.int .i64 x.key, .int .i64 n, .string (nmB x.ten), .int .u64 x.key], .slice x.hA x.held.length x.hc] W (OfferPost W B db c S d1 ⟨x.key, n, x.ten, x.key⟩ x.held)) := Lib.hid fun W hW =>
                offer_calls B db c S d1 ⟨x.key, n, x.ten, x.key⟩ x.hA x.hc x.held W (HD4.out.ext hW) hkI (by have := HOK.out.1; show 0 ≤ x.key ∧ x.key < 18446744073709551616; omega) (by show 1 ≤ n ∧ n ≤ 1099511627776; omega) (HOK4.out.2.2.2.1.ext hW) (by omega) HOK4.out.2.2.2.2.1 hDl (by have := HXW4.out.size; have := hW.size; have := HB.out; omega)
              have HQ := Lib.hid (show ∀ W : World, W.heap[ob]? = some (.cells #[.int .u8 x.key, .int .u8 x.bytes, .bool x.ten, .int .u8 x.asked, .slice x.hA x.held.length x.hc] 30 (0, 0)) → W.cell? ⟨ob, 0, none⟩ = some (.int .u8 x.key) ∧ W.cell? ⟨ob, 1, none⟩ = some (.int .u8 x.bytes) ∧ W.cell? ⟨ob, 2, none⟩ = some (.bool x.ten) ∧ W.cell? ⟨ob, 4, none⟩ = some (.slice x.hA x.held.length x.hc) from fun W hW => ⟨blk_cell hW 0 rfl, blk_cell hW 1 rfl, blk_cell hW 2 rfl, blk_cell hW 4 rfl⟩)
              clear hown hGD hx4 hxw4 hok4 hd4 hob4 HTH
              rw [hn] at hwk4
              clear hwk4
              go_wp2_with fail
              refine wp_region_noPanic ?_
              refine wp_region_held_drew (S := fun w' => w'.cell? ⟨ob, 0, none⟩ = some (.int .u8 x.key) ∧ w'.cell? ⟨ob, 1, none⟩ = some (.int .u8 x.bytes) ∧ w'.cell? ⟨ob, 2, none⟩ = some (.bool x.ten) ∧ w'.cell? ⟨ob, 4, none⟩ = some (.slice x.hA x.held.length x.hc)) (by kernel_rfl) ?_ (fun hHeld => ?_)
              · exact HQ.out _ ((Ext.refl w4).drew.block HOB4.out)
              refine wpAnyH_take (i := 0) (v := ?_) rfl (by kernel_rfl) (by kernel_rfl) (by kernel_rfl) (fun _ _ _ h => h) (Or.inl ⟨by rfl, ?_⟩) (by assumption) ?_
              rotate_left
              · intro w hSw
                try dsimp only at hSw
                go_simp
                try with_reducible rfl
              try simp only [Act.put]
              try simp only [List.setIfInBounds_toArray]
              try simp only [List.set_cons_succ]
              try simp only [List.set_cons_zero]
              refine wpAnyH_take (i := 1) (v := ?_) rfl (by kernel_rfl) (by kernel_rfl) (by kernel_rfl) (fun _ _ _ h => h) (Or.inl ⟨by rfl, ?_⟩) (by assumption) ?_
              rotate_left
              · intro w hSw
                try dsimp only at hSw
                go_simp
                try with_reducible rfl
              try simp only [Act.put]
              try simp only [List.setIfInBounds_toArray]
              try simp only [List.set_cons_succ]
              try simp only [List.set_cons_zero]
              refine wpAnyH_take (i := 2) (v := ?_) rfl (by kernel_rfl) (by kernel_rfl) (by kernel_rfl) (fun _ _ _ h => h) (Or.inl ⟨by rfl, ?_⟩) (by assumption) ?_
              rotate_left
              · intro w hSw
                try dsimp only at hSw
                go_simp
                try with_reducible rfl
              try simp only [Act.put]
              try simp only [List.setIfInBounds_toArray]
              try simp only [List.set_cons_succ]
              try simp only [List.set_cons_zero]
              refine wpAnyH_take (i := 3) (v := ?_) rfl (by kernel_rfl) (by kernel_rfl) (by kernel_rfl) (fun _ _ _ h => h) (Or.inl ⟨by rfl, ?_⟩) (by assumption) ?_
              rotate_left
              · intro w hSw
                try dsimp only at hSw
                go_simp
                try with_reducible rfl
              try simp only [Act.put]
              try simp only [List.setIfInBounds_toArray]
              try simp only [List.set_cons_succ]
              try simp only [List.set_cons_zero]
              refine wpAnyH_take (i := 4) (v := ?_) rfl (by kernel_rfl) (by kernel_rfl) (by kernel_rfl) (fun _ _ _ h => h) (Or.inl ⟨by rfl, ?_⟩) (by assumption) ?_
              rotate_left
              · intro w hSw
                try dsimp only at hSw
                go_simp
                try with_reducible rfl
              try simp only [Act.put]
              try simp only [List.setIfInBounds_toArray]
              try simp only [List.set_cons_succ]
              try simp only [List.set_cons_zero]
              refine wpAnyH_take (i := 5) (v := ?_) rfl (by kernel_rfl) (by kernel_rfl) (by kernel_rfl) (fun _ _ _ h => h) (Or.inl ⟨by rfl, ?_⟩) (by assumption) ?_
              rotate_left
              · intro w hSw
                try dsimp only at hSw
                go_simp
                try with_reducible rfl
              try simp only [Act.put]
              try simp only [List.setIfInBounds_toArray]
              try simp only [List.set_cons_succ]
              try simp only [List.set_cons_zero]
              refine wpAnyH_take (i := 6) (v := ?_) rfl (by kernel_rfl) (by kernel_rfl) (by kernel_rfl) (fun _ _ _ h => h) (Or.inl ⟨by rfl, ?_⟩) (by assumption) ?_
              rotate_left
              · intro w hSw
                try dsimp only at hSw
                go_simp
                try with_reducible rfl
              try simp only [Act.put]
              try simp only [List.setIfInBounds_toArray]
              try simp only [List.set_cons_succ]
              try simp only [List.set_cons_zero]
              refine wpAnyH_take (i := 7) (v := ?_) rfl (by kernel_rfl) (by kernel_rfl) (by kernel_rfl) (fun _ _ _ h => h) (Or.inl ⟨by rfl, ?_⟩) (by assumption) ?_
              rotate_left
              · intro w hSw
                try dsimp only at hSw
                go_simp
                try with_reducible rfl
              try simp only [Act.put]
              try simp only [List.setIfInBounds_toArray]
              try simp only [List.set_cons_succ]
              try simp only [List.set_cons_zero]
              refine wpAnyH_take (i := 8) (v := ?_) rfl (by kernel_rfl) (by kernel_rfl) (by kernel_rfl) (fun _ _ _ h => h) (Or.inl ⟨by rfl, ?_⟩) (by assumption) ?_
              rotate_left
              · intro w hSw
                try dsimp only at hSw
                go_simp
                try with_reducible rfl
              try simp only [Act.put]
              try simp only [List.setIfInBounds_toArray]
              try simp only [List.set_cons_succ]
              try simp only [List.set_cons_zero]
              refine wpAnyH_take (i := 9) (v := ?_) rfl (by kernel_rfl) (by kernel_rfl) (by kernel_rfl) (fun _ _ _ h => h) (Or.inl ⟨by rfl, ?_⟩) (by assumption) ?_
              rotate_left
              · intro w hSw
                try dsimp only at hSw
                go_simp
                try with_reducible rfl
              try simp only [Act.put]
              try simp only [List.setIfInBounds_toArray]
              try simp only [List.set_cons_succ]
              try simp only [List.set_cons_zero]
              refine wpAnyH_take (i := 10) (v := ?_) rfl (by kernel_rfl) (by kernel_rfl) (by kernel_rfl) (fun _ _ _ h => h) (Or.inl ⟨by rfl, ?_⟩) (by assumption) ?_
              rotate_left
              · intro w hSw
                try dsimp only at hSw
                go_simp
                try with_reducible rfl
              try simp only [Act.put]
              try simp only [List.setIfInBounds_toArray]
              try simp only [List.set_cons_succ]
              try simp only [List.set_cons_zero]
              refine wpAnyH_take (i := 11) (v := ?_) rfl (by kernel_rfl) (by kernel_rfl) (by kernel_rfl) (fun _ _ _ h => h) (Or.inl ⟨by rfl, ?_⟩) (by assumption) ?_
              rotate_left
              · intro w hSw
                try dsimp only at hSw
                go_simp
                try with_reducible rfl
              try simp only [Act.put]
              try simp only [List.setIfInBounds_toArray]
              try simp only [List.set_cons_succ]
              try simp only [List.set_cons_zero]
              refine wpAnyH_take (i := 13) (v := ?_) rfl (by kernel_rfl) (by kernel_rfl) (by kernel_rfl) (fun _ _ _ h => h) (Or.inl ⟨by rfl, ?_⟩) (by assumption) ?_
              rotate_left
              · intro w hSw
                try dsimp only at hSw
                go_simp
                try with_reducible rfl
              try simp only [Act.put]
              try simp only [List.setIfInBounds_toArray]
              try simp only [List.set_cons_succ]
              try simp only [List.set_cons_zero]
              refine wpAnyH_take (i := 14) (v := ?_) rfl (by kernel_rfl) (by kernel_rfl) (by kernel_rfl) (fun _ _ _ h => h) (Or.inl ⟨by rfl, ?_⟩) (by assumption) ?_
              rotate_left
              · intro w hSw
                try dsimp only at hSw
                go_simp
                try with_reducible rfl
              try simp only [Act.put]
              try simp only [List.setIfInBounds_toArray]
              try simp only [List.set_cons_succ]
              try simp only [List.set_cons_zero]
              refine wpAnyH_take (i := 15) (v := ?_) rfl (by kernel_rfl) (by kernel_rfl) (by kernel_rfl) (fun _ _ _ h => h) (Or.inl ⟨by rfl, ?_⟩) (by assumption) ?_
              rotate_left
              · intro w hSw
                try dsimp only at hSw
                go_simp
                try with_reducible rfl
              try simp only [Act.put]
              try simp only [List.setIfInBounds_toArray]
              try simp only [List.set_cons_succ]
              try simp only [List.set_cons_zero]
              refine wpAnyH_take (i := 17) (v := ?_) rfl (by kernel_rfl) (by kernel_rfl) (by kernel_rfl) (fun _ _ _ h => h) (Or.inl ⟨by rfl, ?_⟩) (by assumption) ?_
              rotate_left
              · intro w hSw
                try dsimp only at hSw
                go_simp
                try with_reducible rfl
              try simp only [Act.put]
              try simp only [List.setIfInBounds_toArray]
              try simp only [List.set_cons_succ]
              try simp only [List.set_cons_zero]
              refine wpAnyH_take (i := 18) (v := ?_) rfl (by kernel_rfl) (by kernel_rfl) (by kernel_rfl) (fun _ _ _ h => h) (Or.inl ⟨by rfl, ?_⟩) (by assumption) ?_
              rotate_left
              · intro w hSw
                try dsimp only at hSw
                go_simp
                try with_reducible rfl
              try simp only [Act.put]
              try simp only [List.setIfInBounds_toArray]
              try simp only [List.set_cons_succ]
              try simp only [List.set_cons_zero]
              refine wpAnyH_ready (rs := [12]) (by kernel_rfl) (by simp) ?_
              refine AllReadyH.cons rfl (fun K hK => ?_) AllReadyH.nil
              go_simp
              refine (name_calls x.ten _).mono ?_
              rintro e w5 ⟨rfl, rfl⟩
              go_simp
              refine hK.out _ _ ?_ (fun hHeld2 => ?_)
              · exact HQ.out _ ((Ext.refl w4).drew.block HOB4.out)
              clear hHeld
              have hHeld := hHeld2
              clear hHeld2 hK K
              try simp only [Act.put]
              try simp only [List.setIfInBounds_toArray]
              try simp only [List.set_cons_succ]
              try simp only [List.set_cons_zero]
              refine wpAnyH_take (i := 16) (v := ?_) rfl (by kernel_rfl) (by kernel_rfl) (by kernel_rfl) (fun _ _ _ h => h) (Or.inl ⟨by rfl, ?_⟩) (by assumption) ?_
              rotate_left
              · intro w hSw
                try dsimp only at hSw
                go_simp
                try with_reducible rfl
              try simp only [Act.put]
              try simp only [List.setIfInBounds_toArray]
              try simp only [List.set_cons_succ]
              try simp only [List.set_cons_zero]
              refine wpAnyH_ready (rs := [19]) (by kernel_rfl) (by simp) ?_
              refine AllReadyH.cons rfl (fun K hK => ?_) AllReadyH.nil
              go_simp
              refine (HOF.out _ (Ext.refl w4).drew).mono ?_
              rintro e w6 ⟨bb, Ag, cg, Gk, d5, c5, rfl, o1, o2, o3, o4, o5, o6, o7, o8⟩
              go_simp
              refine hK.out _ _ ?_ (fun hHeld2 => ?_)
              · exact HQ.out _ (o7.blk ((Ext.refl w4).drew.block HOB4.out) (by decide))
              clear hHeld
              have hHeld := hHeld2
              clear hHeld2 hK K
              try simp only [Act.put]
              try simp only [List.setIfInBounds_toArray]
              try simp only [List.set_cons_succ]
              try simp only [List.set_cons_zero]
              refine wpAnyH_take (i := 20) (v := ?_) rfl (by kernel_rfl) (by kernel_rfl) (by kernel_rfl) (fun _ _ _ h => h) (Or.inl ⟨by rfl, ?_⟩) (by assumption) ?_
              rotate_left
              · intro w hSw
                try dsimp only at hSw
                go_simp
                try with_reducible rfl
              try simp only [Act.put]
              try simp only [List.setIfInBounds_toArray]
              try simp only [List.set_cons_succ]
              try simp only [List.set_cons_zero]
              refine wpAnyH_take (i := 21) (v := ?_) rfl (by kernel_rfl) (by kernel_rfl) (by kernel_rfl) (fun _ _ _ h => h) (Or.inl ⟨by rfl, ?_⟩) (by assumption) ?_
              rotate_left
              · intro w hSw
                try dsimp only at hSw
                go_simp
                try with_reducible rfl
              try simp only [Act.put]
              try simp only [List.setIfInBounds_toArray]
              try simp only [List.set_cons_succ]
              try simp only [List.set_cons_zero]
              refine wpAnyH_take (i := 22) (v := ?_) rfl (by kernel_rfl) (by kernel_rfl) (by kernel_rfl) (fun _ _ _ h => h) (Or.inl ⟨by rfl, ?_⟩) (by assumption) ?_
              rotate_left
              · intro w hSw
                try dsimp only at hSw
                go_simp
                try with_reducible rfl
              try simp only [Act.put]
              try simp only [List.setIfInBounds_toArray]
              try simp only [List.set_cons_succ]
              try simp only [List.set_cons_zero]
              refine wpAnyH_take (i := 23) (v := ?_) rfl (by kernel_rfl) (by kernel_rfl) (by kernel_rfl) (fun _ _ _ h => h) (Or.inl ⟨by rfl, ?_⟩) (by assumption) ?_
              rotate_left
              · intro w hSw
                try dsimp only at hSw
                go_simp
                try with_reducible rfl
              try simp only [Act.put]
              try simp only [List.setIfInBounds_toArray]
              try simp only [List.set_cons_succ]
              try simp only [List.set_cons_zero]
              refine wpAnyH_take (i := 24) (v := ?_) rfl (by kernel_rfl) (by kernel_rfl) (by kernel_rfl) (fun _ _ _ h => h) (Or.inl ⟨by rfl, ?_⟩) (by assumption) ?_
              rotate_left
              · intro w hSw
                try dsimp only at hSw
                go_simp
                try with_reducible rfl
              try simp only [Act.put]
              try simp only [List.setIfInBounds_toArray]
              try simp only [List.set_cons_succ]
              try simp only [List.set_cons_zero]
              refine wpAnyH_done (by kernel_rfl) ?_ _
              refine noPanic_intro ?_
              have HO := Lib.hid (And.intro o1 (And.intro o2 (And.intro o3 (And.intro o4 (And.intro o5 (And.intro o6 o7))))))
              have hob6 := o7.blk ((Ext.refl w4).drew.block HOB4.out) (by decide)
              have HOB6 := Lib.hid hob6
              have HXW6 := Lib.hid ((((HKP.out.trans HK1.out).trans (Kpa.of_ext (HX4.out.trans (Ext.refl w4).drew))).trans (o7.more (T' := allTs) (by decide))))
              have r0 : w6.cell? ⟨ob, 0, none⟩ = some (.int .u8 x.key) := blk_cell hob6 0 rfl
              have r2 : w6.cell? ⟨ob, 2, none⟩ = some (.bool x.ten) := blk_cell hob6 2 rfl
              have r4 : w6.cell? ⟨ob, 4, none⟩ = some (.slice x.hA x.held.length x.hc) := blk_cell hob6 4 rfl
              have HG6 := Lib.hid ((HG.out.ext (Ext.refl w4).drew).kpa o7 (by decide))
              clear o1 o2 o3 o4 o5 o6 o7 hob6 hHeld HOF HQ hn hrm hwr hwn hwk3
              cases bb
              · go_wp2_with fail
                obtain ⟨w7, hw7⟩ : ∃ y, w6 = y := ⟨_, rfl⟩
                have HX7 : Hid (Ext w6 w7) := Lib.hid (hw7 ▸ Ext.refl _)
                rw [hw7] at r0 r2 r4 ⊢
                clear hw7

                have HQ7 := Lib.hid (And.intro r0 (And.intro r2 r4))
                clear r0 r2 r4
                have hGk : Gk.length ≤ 1000 := o8
                go_loopw [99] (fun i wr => ∃ m : Nat, m ≤ G.length ∧ i = .int .i64 m ∧ Ext w7 wr) (fun i _ => G.length - (intOf i).toNat)
                case atStart => exact ⟨0, Nat.zero_le _, rfl, Ext.refl w7⟩
                case round =>
                  obtain ⟨m, hm, rfl, hxr⟩ := hrel
                  by_cases hlm : m < G.length
                  · obtain ⟨b2, hbe, -, -, p0, p1, p2, p3⟩ := ((HG6.out.ext HX7.out).ext hxr) m hlm
                    cases hbe
                    have hyD := HGD.out _ (List.getElem_mem hlm)
                    obtain ⟨y, hye⟩ : ∃ z, G[m] = z := ⟨_, rfl⟩
                    rw [hye] at p0 p1 p2 p3 hyD
                    have hyI := (HD4.out.small y hyD).1
                    obtain ⟨w8, hw8⟩ : ∃ z, wr.alloc (.cells #[.int .i64 y.k, .int .i64 y.n, .string (nmB y.t), .int .u64 y.u] 39) = z := ⟨_, rfl⟩
                    have hx8 : Ext wr w8 := hw8 ▸ (Ext.refl _).alloc _
                    have hyb : w8.heap[wr.heap.size]? = some (.cells #[.int .i64 y.k, .int .i64 y.n, .string (nmB y.t), .int .u64 y.u] 39 (0, 0)) := hw8 ▸ heap_alloc_new wr _
                    obtain ⟨yb, hybe⟩ : ∃ z, wr.heap.size = z := ⟨_, rfl⟩
                    rw [hybe] at hyb
                    have HYB := Lib.hid hyb
                    have y0 : w8.cell? ⟨yb, 0, none⟩ = some (.int .i64 y.k) := blk_cell hyb 0 rfl
                    have HX8 := Lib.hid ((HX7.out.trans hxr).trans hx8)
                    have HXR8 := Lib.hid (hxr.trans hx8)
                    have HHS := Lib.hid (has_calls B db c5 S d5 y.k w8 (HO.out.2.1.ext HX8.out) hyI)
                    have HYD := Lib.hid hyD
                    clear hxr hyD hye hx8 hyb
                    go_wp2_with fail
                    refine HHS.out.mono ?_
                    rintro e w9 ⟨rfl, hx9⟩
                    have HX9 := Lib.hid (HXR8.out.trans hx9)
                    have y09 := hx9.cell y0
                    have y29 : w9.cell? ⟨yb, 2, none⟩ = some (.string (nmB y.t)) := blk_cell (hx9.block HYB.out) 2 rfl
                    have o29 := HX9.out.cell HQ7.out.2.1
                    have o49 := HX9.out.cell HQ7.out.2.2
                    clear y0 p0 p1 p2 p3 hw8 hybe hx9 HHS
                    cases hst : d5.has y.k
                    · obtain ⟨e1, e2, e3⟩ : y.t = x.ten ∧ y.k ∉ x.held ∧ y.k ∈ Gk := by
                        rcases HO.out.2.2.2.2.2.1 y HYD.out with h | h
                        · have := (d5.has_iff y.k).2 ⟨y, h, rfl⟩
                          rw [hst] at this
                          cases this
                        · exact h
                      rw [e1] at y29
                      have hxww : Ext w w9 := (HXW6.out.to_ext (Nat.le_of_eq HB.out)).trans (HX7.out.trans HX9.out)
                      have H1 : Hid (∀ W, Ext w9 W → Calls Tryd.prog 9 #[.bool x.ten] W fun e w' => e = .returned (.string (nmB x.ten)) ∧ Ext W w') := Lib.hid fun W _ => (name_calls x.ten W).mono fun e w' ⟨he, hw⟩ => ⟨he, by rw [hw]; exact Ext.refl _⟩
                      have H2 : Hid (∀ W, Ext w9 W → Calls Tryd.prog 11 #[.slice x.hA x.held.length x.hc, .int .i64 y.k] W fun e w' => e = .returned (.bool false) ∧ Ext W w') := Lib.hid fun W hW => (contains_calls x.hA x.hc x.held y.k W ((HOKW.out.ext hxww).2.2.2.1.ext hW) (by omega)).mono fun e w' ⟨he, hw⟩ => ⟨by rw [he, decide_eq_false e2], by rw [hw]; exact Ext.refl _⟩
                      have H3 : Hid (∀ W, Ext w9 W → Calls Tryd.prog 11 #[.slice Ag Gk.length cg, .int .i64 y.k] W fun e w' => e = .returned (.bool true) ∧ Ext W w') := Lib.hid fun W hW => (contains_calls Ag cg Gk y.k W ((HO.out.1.ext (HX7.out.trans HX9.out)).ext hW) hGk).mono fun e w' ⟨he, hw⟩ => ⟨by rw [he, decide_eq_true e3], by rw [hw]; exact Ext.refl _⟩
                      clear e1 e2 e3 hxww
                      go_wp2
                      refine wp_region_ext_lit (by kernel_rfl) (by kernel_rfl) ?_
                      intro X' _ g hg hg'
                      have Q0 : ∀ n, (g n).cell? ⟨yb, 0, none⟩ = some (.int .i64 y.k) := fun n => (hg n).cell y09
                      have Q1 : ∀ n, (g n).cell? ⟨yb, 2, none⟩ = some (.string (nmB x.ten)) := fun n => (hg n).cell y29
                      have Q2 : ∀ n, (g n).cell? ⟨ob, 2, none⟩ = some (.bool x.ten) := fun n => (hg n).cell o29
                      have Q3 : ∀ n, (g n).cell? ⟨ob, 4, none⟩ = some (.slice x.hA x.held.length x.hc) := fun n => (hg n).cell o49
                      clear y09 y29 o29 o49
                      repeat (go_big_quiet_step ((first | (go_at_call 9; with_reducible refine (H1.out _ (hg _)).mono ?_; exact (fun e w2 hh => ⟨hh.1, hg' _ ((hg _).trans hh.2)⟩)) | (go_at_call 11; with_reducible refine (H2.out _ (hg _)).mono ?_; exact (fun e w2 hh => ⟨hh.1, hg' _ ((hg _).trans hh.2)⟩)) | (go_at_call 11; with_reducible refine (H3.out _ (hg _)).mono ?_; exact (fun e w2 hh => ⟨hh.1, hg' _ ((hg _).trans hh.2)⟩)))))
                      refine wpQuiet_nil ?_
                      rintro wq ⟨nq, rfl⟩
                      have HXQ := Lib.hid (HX9.out.trans (hg nq))
                      clear Q0 Q1 Q2 Q3 hg hg' H1 H2 H3
                      go_wp2
                      go_roundw
                      case rel => exact ⟨m + 1, by omega, by go_num, HXQ.out⟩
                      case measure => simp [intOf] <;> omega
                    · go_wp2
                      go_quiet (fail)
                      go_wp2
                      go_roundw
                      case rel => exact ⟨m + 1, by omega, by go_num, HX9.out.trans ((Ext.refl _).drewN _)⟩
                      case measure => simp [intOf] <;> omega
                  · obtain rfl : m = G.length := by omega
                    have o2r := hxr.cell HQ7.out.2.1
                    have HXR := Lib.hid (HX7.out.trans hxr)
                    have HBY : Hid (∀ W, Ext wr W → Calls Tryd.prog 12 #[.pointer (some ⟨db, 0, none⟩), .string (nmB x.ten)] W fun e w' => e = .returned (.tuple #[.int .i64 (d5.bk.p true + d5.bk.p false), .int .i64 (d5.bk.p x.ten)]) ∧ Ext W w') := Lib.hid fun W hW => dbytes_calls B db c5 S d5 x.ten W ((HO.out.2.1.ext HXR.out).ext hW)
                    have ok1 := HO.out.2.1.bk.ok true
                    have ok2 := HO.out.2.1.bk.ok false
                    have ok3 := HO.out.2.1.bk.ok x.ten
                    obtain ⟨al, hal⟩ : ∃ z, d5.bk.p true + d5.bk.p false = z := ⟨_, rfl⟩
                    obtain ⟨pt, hpt⟩ : ∃ z, d5.bk.p x.ten = z := ⟨_, rfl⟩
                    rw [hal, hpt] at HBY
                    rw [hpt] at ok3
                    have g1 : ¬ R < al := by have := HRB.out; omega
                    have g2 : ¬ S < pt := by omega
                    clear hxr ok1 ok2 ok3 hal hpt
                    go_wp2_with fail
                    refine (name_calls x.ten _).mono ?_
                    rintro e wn ⟨rfl, hwn⟩
                    rw [hwn]
                    clear hwn
                    go_wp2_with fail
                    refine (HBY.out _ (Ext.refl wr)).mono ?_
                    rintro e wz ⟨rfl, hxz⟩
                    have HXZ := Lib.hid (HXR.out.trans hxz)
                    clear hxz HBY
                    go_wp2
                    go_roundw
                    case rel => exact ⟨k + 1, by omega, by go_num, ⟨d5, c5, HO.out.2.1.ext HXZ.out, by have := HO.out.2.2.2.1; have := HD.out.2.1; rw [HD1.out.2.1] at *; omega, by rw [HO.out.2.2.1, HD1.out.2.2]; omega, by rw [HO.out.2.2.1, HD1.out.2.2]; have := HD.out.2.2.2; omega⟩, HXW6.out.trans (Kpa.of_ext HXZ.out)⟩
                    case measure => simp [intOf] <;> omega
              · have hhas : d5.has x.key = true := (d5.has_iff x.key).2 (HO.out.2.2.2.2.1 rfl)
                have HH := Lib.hid (has_calls B db c5 S d5 x.key w6 HO.out.2.1 hkI)
                rw [hhas] at HH
                go_wp2_with fail
                refine HH.out.mono ?_
                rintro e w7 ⟨rfl, hx7⟩
                have HX7 := Lib.hid hx7
                replace r0 := hx7.cell r0
                replace r2 := hx7.cell r2
                replace r4 := hx7.cell r4
                clear hx7 HH
                go_wp2_with fail

                have HQ7 := Lib.hid (And.intro r0 (And.intro r2 r4))
                clear r0 r2 r4
                have hGk : Gk.length ≤ 1000 := o8
                go_loopw [99] (fun i wr => ∃ m : Nat, m ≤ G.length ∧ i = .int .i64 m ∧ Ext w7 wr) (fun i _ => G.length - (intOf i).toNat)
                case atStart => exact ⟨0, Nat.zero_le _, rfl, Ext.refl w7⟩
                case round =>
                  obtain ⟨m, hm, rfl, hxr⟩ := hrel
                  by_cases hlm : m < G.length
                  · obtain ⟨b2, hbe, -, -, p0, p1, p2, p3⟩ := ((HG6.out.ext HX7.out).ext hxr) m hlm
                    cases hbe
                    have hyD := HGD.out _ (List.getElem_mem hlm)
                    obtain ⟨y, hye⟩ : ∃ z, G[m] = z := ⟨_, rfl⟩
                    rw [hye] at p0 p1 p2 p3 hyD
                    have hyI := (HD4.out.small y hyD).1
                    obtain ⟨w8, hw8⟩ : ∃ z, wr.alloc (.cells #[.int .i64 y.k, .int .i64 y.n, .string (nmB y.t), .int .u64 y.u] 39) = z := ⟨_, rfl⟩
                    have hx8 : Ext wr w8 := hw8 ▸ (Ext.refl _).alloc _
                    have hyb : w8.heap[wr.heap.size]? = some (.cells #[.int .i64 y.k, .int .i64 y.n, .string (nmB y.t), .int .u64 y.u] 39 (0, 0)) := hw8 ▸ heap_alloc_new wr _
                    obtain ⟨yb, hybe⟩ : ∃ z, wr.heap.size = z := ⟨_, rfl⟩
                    rw [hybe] at hyb
                    have HYB := Lib.hid hyb
                    have y0 : w8.cell? ⟨yb, 0, none⟩ = some (.int .i64 y.k) := blk_cell hyb 0 rfl
                    have HX8 := Lib.hid ((HX7.out.trans hxr).trans hx8)
                    have HXR8 := Lib.hid (hxr.trans hx8)
                    have HHS := Lib.hid (has_calls B db c5 S d5 y.k w8 (HO.out.2.1.ext HX8.out) hyI)
                    have HYD := Lib.hid hyD
                    clear hxr hyD hye hx8 hyb
                    go_wp2_with fail
                    refine HHS.out.mono ?_
                    rintro e w9 ⟨rfl, hx9⟩
                    have HX9 := Lib.hid (HXR8.out.trans hx9)
                    have y09 := hx9.cell y0
                    have y29 : w9.cell? ⟨yb, 2, none⟩ = some (.string (nmB y.t)) := blk_cell (hx9.block HYB.out) 2 rfl
                    have o29 := HX9.out.cell HQ7.out.2.1
                    have o49 := HX9.out.cell HQ7.out.2.2
                    clear y0 p0 p1 p2 p3 hw8 hybe hx9 HHS
                    cases hst : d5.has y.k
                    · obtain ⟨e1, e2, e3⟩ : y.t = x.ten ∧ y.k ∉ x.held ∧ y.k ∈ Gk := by
                        rcases HO.out.2.2.2.2.2.1 y HYD.out with h | h
                        · have := (d5.has_iff y.k).2 ⟨y, h, rfl⟩
                          rw [hst] at this
                          cases this
                        · exact h
                      rw [e1] at y29
                      have hxww : Ext w w9 := (HXW6.out.to_ext (Nat.le_of_eq HB.out)).trans (HX7.out.trans HX9.out)
                      have H1 : Hid (∀ W, Ext w9 W → Calls Tryd.prog 9 #[.bool x.ten] W fun e w' => e = .returned (.string (nmB x.ten)) ∧ Ext W w') := Lib.hid fun W _ => (name_calls x.ten W).mono fun e w' ⟨he, hw⟩ => ⟨he, by rw [hw]; exact Ext.refl _⟩
                      have H2 : Hid (∀ W, Ext w9 W → Calls Tryd.prog 11 #[.slice x.hA x.held.length x.hc, .int .i64 y.k] W fun e w' => e = .returned (.bool false) ∧ Ext W w') := Lib.hid fun W hW => (contains_calls x.hA x.hc x.held y.k W ((HOKW.out.ext hxww).2.2.2.1.ext hW) (by omega)).mono fun e w' ⟨he, hw⟩ => ⟨by rw [he, decide_eq_false e2], by rw [hw]; exact Ext.refl _⟩
                      have H3 : Hid (∀ W, Ext w9 W → Calls Tryd.prog 11 #[.slice Ag Gk.length cg, .int .i64 y.k] W fun e w' => e = .returned (.bool true) ∧ Ext W w') := Lib.hid fun W hW => (contains_calls Ag cg Gk y.k W ((HO.out.1.ext (HX7.out.trans HX9.out)).ext hW) hGk).mono fun e w' ⟨he, hw⟩ => ⟨by rw [he, decide_eq_true e3], by rw [hw]; exact Ext.refl _⟩
                      clear e1 e2 e3 hxww
                      go_wp2
                      refine wp_region_ext_lit (by kernel_rfl) (by kernel_rfl) ?_
                      intro X' _ g hg hg'
                      have Q0 : ∀ n, (g n).cell? ⟨yb, 0, none⟩ = some (.int .i64 y.k) := fun n => (hg n).cell y09
                      have Q1 : ∀ n, (g n).cell? ⟨yb, 2, none⟩ = some (.string (nmB x.ten)) := fun n => (hg n).cell y29
                      have Q2 : ∀ n, (g n).cell? ⟨ob, 2, none⟩ = some (.bool x.ten) := fun n => (hg n).cell o29
                      have Q3 : ∀ n, (g n).cell? ⟨ob, 4, none⟩ = some (.slice x.hA x.held.length x.hc) := fun n => (hg n).cell o49
                      clear y09 y29 o29 o49
                      repeat (go_big_quiet_step ((first | (go_at_call 9; with_reducible refine (H1.out _ (hg _)).mono ?_; exact (fun e w2 hh => ⟨hh.1, hg' _ ((hg _).trans hh.2)⟩)) | (go_at_call 11; with_reducible refine (H2.out _ (hg _)).mono ?_; exact (fun e w2 hh => ⟨hh.1, hg' _ ((hg _).trans hh.2)⟩)) | (go_at_call 11; with_reducible refine (H3.out _ (hg _)).mono ?_; exact (fun e w2 hh => ⟨hh.1, hg' _ ((hg _).trans hh.2)⟩)))))
                      refine wpQuiet_nil ?_
                      rintro wq ⟨nq, rfl⟩
                      have HXQ := Lib.hid (HX9.out.trans (hg nq))
                      clear Q0 Q1 Q2 Q3 hg hg' H1 H2 H3
                      go_wp2
                      go_roundw
                      case rel => exact ⟨m + 1, by omega, by go_num, HXQ.out⟩
                      case measure => simp [intOf] <;> omega
                    · go_wp2
                      go_quiet (fail)
                      go_wp2
                      go_roundw
                      case rel => exact ⟨m + 1, by omega, by go_num, HX9.out.trans ((Ext.refl _).drewN _)⟩
                      case measure => simp [intOf] <;> omega
                  · obtain rfl : m = G.length := by omega
                    have o2r := hxr.cell HQ7.out.2.1
                    have HXR := Lib.hid (HX7.out.trans hxr)
                    have HBY : Hid (∀ W, Ext wr W → Calls Tryd.prog 12 #[.pointer (some ⟨db, 0, none⟩), .string (nmB x.ten)] W fun e w' => e = .returned (.tuple #[.int .i64 (d5.bk.p true + d5.bk.p false), .int .i64 (d5.bk.p x.ten)]) ∧ Ext W w') := Lib.hid fun W hW => dbytes_calls B db c5 S d5 x.ten W ((HO.out.2.1.ext HXR.out).ext hW)
                    have ok1 := HO.out.2.1.bk.ok true
                    have ok2 := HO.out.2.1.bk.ok false
                    have ok3 := HO.out.2.1.bk.ok x.ten
                    obtain ⟨al, hal⟩ : ∃ z, d5.bk.p true + d5.bk.p false = z := ⟨_, rfl⟩
                    obtain ⟨pt, hpt⟩ : ∃ z, d5.bk.p x.ten = z := ⟨_, rfl⟩
                    rw [hal, hpt] at HBY
                    rw [hpt] at ok3
                    have g1 : ¬ R < al := by have := HRB.out; omega
                    have g2 : ¬ S < pt := by omega
                    clear hxr ok1 ok2 ok3 hal hpt
                    go_wp2_with fail
                    refine (name_calls x.ten _).mono ?_
                    rintro e wn ⟨rfl, hwn⟩
                    rw [hwn]
                    clear hwn
                    go_wp2_with fail
                    refine (HBY.out _ (Ext.refl wr)).mono ?_
                    rintro e wz ⟨rfl, hxz⟩
                    have HXZ := Lib.hid (HXR.out.trans hxz)
                    clear hxz HBY
                    go_wp2
                    go_roundw
                    case rel => exact ⟨k + 1, by omega, by go_num, ⟨d5, c5, HO.out.2.1.ext HXZ.out, by have := HO.out.2.2.2.1; have := HD.out.2.1; rw [HD1.out.2.1] at *; omega, by rw [HO.out.2.2.1, HD1.out.2.2]; omega, by rw [HO.out.2.2.1, HD1.out.2.2]; have := HD.out.2.2.2; omega⟩, HXW6.out.trans (Kpa.of_ext HXZ.out)⟩
                    case measure => simp [intOf] <;> omega
      · go_wp2_with fail
        refine (HAL.out _).mono ?_
        rintro e w3 ⟨rfl, hx3⟩
        go_wp2
        go_ret
        exact ⟨rfl, hxw.trans hx3⟩
end Go.Proofs.YtmcddajniiaieaaDoor
