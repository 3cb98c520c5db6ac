/- ImapSets: of which bytes a value, and anything, is told. The walk. -/
import Derived.Test.YtjiabibnbpjhaaaSpl
import Derived.Test.YtjiabibnbpjhaaaFirst
import Derived.Test.YtjiabibnbpjhaaaAlive
namespace Go.Proofs.Ytjiabibnbpjhaaa.Rg
open Go.RowKit

theorem sel_any (v0 : Int) (l : List Rn) : selS (fun r => true || r.v == v0) l = selS (fun _ => true) l := by simp [selS]
theorem sel_one (v0 : Int) (l : List Rn) : selS (fun r => false || r.v == v0) l = selS (fun r => r.v == v0) l := by simp [selS]
set_option maxHeartbeats 4000000 in
set_option maxRecDepth 100000 in
theorem lawSets_calls (A : Option Addr) (c : Nat) (l : List Ac) (v0 : Int) (w : World) (ha : Acts w A l) :
    Calls Try.prog 9 #[.slice A l.length c, .int .i64 v0] w fun e w' => e = .returned (.bool true) ∧ Ext w w' := by
  go_enter Try.func9, Try.ntmps9
  go_wp2_with fail
  refine (alive_calls _).mono ?_
  rintro e w1 ⟨rfl, hx⟩
  replace ha := ha.ext hx
  by_cases hl : 40 < l.length
  · go_wp2
    go_ret
    exact ⟨rfl, hx⟩
  · go_wp2_with fail
    refine (made_calls A c l _ ha (by omega)).mono ?_
    rintro e w2 ⟨mb, rfl, hm, _, hx2⟩
    replace ha := ha.ext hx2
    replace hx := hx.trans hx2
    clear hx2
    have hlen := appR_length l
    rw [appR_eq] at hm hlen
    have hwf := runsR_wf l
    have h1 := mrg_of hwf (fun r => r.v == v0)
    have h2 := mrg_of hwf (fun _ => true)
    have hok := (lined_of (Int.le_refl 0) hwf (fun _ => true)).2.2
    have hr1 := fun w h => refOf_calls A c l v0 false w h (by omega) (by omega)
    have hr2 := fun w h => refOf_calls A c l 0 true w h (by omega) (by omega)
    rw [sel_one, h1] at hr1
    rw [sel_any, h2] at hr2
    have hs1 := sel_len (fun r => r.v == v0) (runsR l)
    have hs2 := sel_len (fun _ => true) (runsR l)
    have HK1 := Lib.hid (fun w h => mapOf_calls mb v0 (runsR l) w h hok (by omega))
    have HK2 := Lib.hid (fun w h => known_calls mb (runsR l) w h hok (by omega))
    have ho1 := of_length (selS (fun r => r.v == v0) (runsR l))
    have ho2 := of_length (selS (fun _ => true) (runsR l))
    have hb1 : (ofS (selS (fun r => r.v == v0) (runsR l))).length ≤ 100000 := by omega
    have hb2 : (ofS (selS (fun _ => true) (runsR l))).length ≤ 100000 := by omega
    have HR1 := Lib.hid hr1
    have HR2 := Lib.hid hr2
    have HM := Lib.hid hm
    clear hr1 hr2 h1 h2 hwf hok hs1 hs2 ho1 ho2 hlen hm
    generalize ofS (selS (fun r => r.v == v0) (runsR l)) = S1 at *
    generalize ofS (selS (fun _ => true) (runsR l)) = S2 at *
    generalize runsR l = R at *
    go_wp2_with fail
    refine (HK1.out w2 HM.out).mono ?_
    rintro e w3 ⟨A3, c3, rfl, HS3, _, hx3⟩
    go_wp2_with fail
    refine (spans_calls A3 c3 S1 w3 HS3.out (by omega)).mono ?_
    rintro e w4 ⟨v4, rfl, hown4, hx4⟩
    obtain ⟨A4, c4, rfl, _⟩ := own_shape hown4
    have HS4 := Lib.hid (sat_of_own hown4)
    clear hown4
    go_wp2_with fail
    refine (HR1.out w4 (ha.ext (hx3.trans hx4))).mono ?_
    rintro e w5 ⟨v5, rfl, hown5, hx5⟩
    obtain ⟨A5, c5, rfl, _⟩ := own_shape hown5
    have HS5 := Lib.hid (sat_of_own hown5)
    clear hown5
    go_wp2_with fail
    refine (same_spans_calls A4 A5 c4 c5 S1 S1 w5 (HS4.out.ext hx5) HS5.out (by omega) (by omega)).mono ?_
    rintro e w6 ⟨rfl, hx6⟩
    rw [show decide (S1 = S1) = true from decide_eq_true rfl]
    have hx26 := hx3.trans (hx4.trans (hx5.trans hx6))
    clear hx3 hx4 hx5 hx6
    go_wp2_with fail
    refine (HK2.out w6 (HM.out.ext hx26)).mono ?_
    rintro e w7 ⟨A7, c7, rfl, HS7, _, hx7⟩
    go_wp2_with fail
    refine (spans_calls A7 c7 S2 w7 HS7.out (by omega)).mono ?_
    rintro e w8 ⟨v8, rfl, hown8, hx8⟩
    obtain ⟨A8, c8, rfl, _⟩ := own_shape hown8
    have HS8 := Lib.hid (sat_of_own hown8)
    clear hown8
    go_wp2_with fail
    refine (HR2.out w8 (ha.ext (hx26.trans (hx7.trans hx8)))).mono ?_
    rintro e w9 ⟨v9, rfl, hown9, hx9⟩
    obtain ⟨A9, c9, rfl, _⟩ := own_shape hown9
    have HS9 := Lib.hid (sat_of_own hown9)
    clear hown9
    go_wp2_with fail
    refine (same_spans_calls A8 A9 c8 c9 S2 S2 w9 (HS8.out.ext hx9) HS9.out (by omega) (by omega)).mono ?_
    rintro e w10 ⟨rfl, hx10⟩
    rw [show decide (S2 = S2) = true from decide_eq_true rfl]
    go_wp2
    go_ret
    exact ⟨by simp, hx.trans (hx26.trans (hx7.trans (hx8.trans (hx9.trans hx10))))⟩
end Go.Proofs.Ytjiabibnbpjhaaa.Rg
