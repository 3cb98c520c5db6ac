/- ImapRuns: whatever acts make a map, it tells the runs that the reference says, and as many as there are. The walk. -/
import Derived.Test.YtjiabibnbpjhaaaAlive
namespace Go.Proofs.Ytjiabibnbpjhaaa
open Go.RowKit

set_option maxHeartbeats 4000000 in
set_option maxRecDepth 100000 in
theorem lawRuns_calls (A : Option Addr) (c : Nat) (l : List Ac) (w : World) (ha : Acts w A l) :
    Calls Try.prog 3 #[.slice A l.length c] w fun e w' => e = .returned (.bool true) ∧ Ext w w' := by
  go_enter Try.func3, Try.ntmps3
  go_wp2_with fail
  refine (alive_calls _).mono ?_
  rintro e w1 ⟨rfl, hx⟩
  replace ha := ha.ext hx
  by_cases hl : 40 < l.length
  · go_wp2
    go_ret
    exact ⟨rfl, hx⟩
  · go_wp2_with fail
    refine (made_calls A c l _ ha (by omega)).mono ?_
    rintro e w2 ⟨mb, rfl, hm, _, hx2⟩
    replace ha := ha.ext hx2
    replace hx := hx.trans hx2
    clear hx2
    go_wp2_with fail
    refine (runs_calls A c l _ ha (by omega)).mono ?_
    rintro e w3 ⟨v, rfl, hown, hx2⟩
    replace hm := hm.ext hx2
    replace hx := hx.trans hx2
    have hlen := appR_length l
    rw [appR_eq] at hm hlen
    obtain ⟨A2, c2, rfl, _⟩ := own_shape hown
    clear hx2
    go_wp2_with fail
    refine (len_calls mb _ _ hm (by omega)).mono ?_
    rintro e w4 ⟨rfl, rfl⟩
    go_wp2_with fail
    refine (all_calls mb _ _ hm (by omega)).mono ?_
    rintro e w5 ⟨v, rfl, hown2, hx2⟩
    rw [meets_all (runsR_wf l) (Int.le_refl _)] at hown2
    obtain ⟨A3, c3, rfl, _⟩ := own_shape hown2
    replace hx := hx.trans hx2
    have r1 := row3_own hown2
    have r2 := (row3_own hown).ext hx2
    clear hx2 hown hown2 hm
    go_wp2_with fail
    refine (same_calls A3 A2 c3 c2 _ _ _ r1 r2 (by omega)).mono ?_
    rintro e w6 ⟨rfl, hx2⟩
    replace hx := hx.trans hx2
    clear hx2 r1 r2
    go_wp2
    go_ret
    exact ⟨by simp, hx⟩
end Go.Proofs.Ytjiabibnbpjhaaa
