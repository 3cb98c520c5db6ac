/- ImapWithin: what a map tells within a span is what the reference tells there. The walk. -/
import Derived.Test.YtjiabibnbpjhaaaRefIn
import Derived.Test.YtjiabibnbpjhaaaSame
import Derived.Test.YtjiabibnbpjhaaaAlive
import Derived.Deep.RegionHeld3
namespace Go.Proofs.Ytjiabibnbpjhaaa
open Go.RowKit

set_option maxHeartbeats 4000000 in
set_option maxRecDepth 100000 in
theorem lawWithin_calls (A : Option Addr) (c : Nat) (l : List Ac) (f t : Int) (w : World) (ha : Acts w A l) :
    Calls Try.prog 4 #[.slice A l.length c, .agg #[.int .i64 f, .int .i64 t]] w fun e w' => e = .returned (.bool true) ∧ Ext w w' := by
  go_enter Try.func4, Try.ntmps4
  have hx0 : Ext w (w.alloc (.cells #[.int .i64 f, .int .i64 t] 34)) := (Ext.refl w).alloc _
  go_wp2_with fail
  refine (alive_calls _).mono ?_
  rintro e w1 ⟨rfl, hx⟩
  have b0 : w1.cell? ⟨w.heap.size, 0, none⟩ = some (.int .i64 f) := hx.cell (by simp)
  have b1 : w1.cell? ⟨w.heap.size, 1, none⟩ = some (.int .i64 t) := hx.cell (by simp)
  replace hx := hx0.trans hx
  replace ha := ha.ext hx
  clear hx0
  by_cases hl : 40 < l.length
  · clear b0 b1
    go_wp2
    go_ret
    exact ⟨rfl, hx⟩
  go_wp2_with fail
  refine (made_calls A c l _ ha (by omega)).mono ?_
  rintro e w2 ⟨mb, rfl, hm, _, hx2⟩
  replace ha := ha.ext hx2
  replace b0 := hx2.cell b0
  replace b1 := hx2.cell b1
  replace hx := hx.trans hx2
  have hlen := appR_length l
  rw [appR_eq] at hm hlen
  have hml := meetsR_length (runsR l) f t
  clear hx2
  go_upto_region 6 with (fail)
  have hd : Ext w2 w2.drew := (Ext.refl _).drew
  have HA := ha.ext hd
  have HM := hm.ext hd
  have HX := hx.trans hd
  replace b0 := hd.cell b0
  replace b1 := hd.cell b1
  clear ha hm hx hd
  go_region_held3 (fun w' => w'.cell? ⟨w.heap.size, 0, none⟩ = some (.int .i64 f) ∧ w'.cell? ⟨w.heap.size, 1, none⟩ = some (.int .i64 t) ∧ Ext w w') (exact ⟨b0, b1, HX⟩)
    (first
      | (go_at_call 17
         refine (inl_calls mb (runsR l) f t _ HM (by omega)).mono ?_
         rintro e wn ⟨v, rfl, hown, hx⟩
         obtain ⟨A7, c7, rfl, _⟩ := own_shape hown
         have h17 := row3_own hown
         clear hown
         replace HA := HA.ext hx; replace HM := HM.ext hx; replace HX := HX.trans hx; replace b0 := hx.cell b0; replace b1 := hx.cell b1
         try (replace h18 := h18.ext hx)
         clear hx)
      | (go_at_call 18
         refine (refin_calls A c l f t _ HA (by omega)).mono ?_
         rintro e wn ⟨v, rfl, hown, hx⟩
         obtain ⟨A8, c8, rfl, _⟩ := own_shape hown
         have h18 := row3_own hown
         clear hown
         replace HA := HA.ext hx; replace HM := HM.ext hx; replace HX := HX.trans hx; replace b0 := hx.cell b0; replace b1 := hx.cell b1
         try (replace h17 := h17.ext hx)
         clear hx)
      | (go_at_call 15
         refine (same_calls A7 A8 c7 c8 _ _ _ h17 h18 (by omega)).mono ?_
         rintro e wn ⟨rfl, hx⟩
         replace HX := HX.trans hx; replace b0 := hx.cell b0; replace b1 := hx.cell b1
         clear hx))
  all_goals
    go_wp2
    go_ret
    exact ⟨by simp, HX⟩
end Go.Proofs.Ytjiabibnbpjhaaa
