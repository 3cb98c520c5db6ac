/- The contract of the law's own alive: the chapter's example holds. -/
import Derived.Test.YtjiabibnbpjhaaaMade
import Derived.Test.YtjiabibnbpjhaaaAll
import Derived.Test.YtjiabibnbpjhaaaSame
namespace Go.Proofs.Ytjiabibnbpjhaaa
open Go.RowKit

theorem mkspan_calls (a b : Int) (w : World) :
    Calls Try.prog 35 #[.int .i64 a, .int .i64 b] w fun e w' => e = .returned (.agg #[.int .i64 a, .int .i64 b]) ∧ Ext w w' := by
  go_enter Try.func35, Try.ntmps35
  go_wp2
  refine bodyPost_ret (v := .agg #[.int .i64 a, .int .i64 b]) (by simp [results, Try.results35, go_sem]) rfl ⟨rfl, ?_⟩
  exact (Ext.refl w).alloc _

set_option maxHeartbeats 4000000 in
set_option maxRecDepth 100000 in
theorem alive_calls (w : World) : Calls Try.prog 11 #[] w fun e w' => e = .returned (.bool true) ∧ Ext w w' := by
  go_enter Try.func11, Try.ntmps11
  go_wp2_with fail
  refine (new_calls _).mono ?_
  rintro e w1 ⟨rfl, hm, hx, _⟩
  generalize hmb : w.heap.size = mb at *
  have hle : w.heap.size ≤ mb := by omega
  clear hmb
  go_wp2_with fail
  refine (mkspan_calls _ _ _).mono ?_
  rintro e w2 ⟨rfl, hx2⟩
  replace hm := hm.ext hx2
  replace hx := hx.trans hx2
  clear hx2
  go_wp2_with fail
  refine (put_good mb [] 3 9 1 _ hm (by decide) (by simp)).mono ?_
  rintro e w3 ⟨rfl, hm, hg⟩
  replace hx := ext_only hx hle hg
  rw [show putR 3 9 1 [] = [⟨3, 9, 1⟩] from by decide] at hm
  clear hg
  go_wp2_with fail
  refine (mkspan_calls _ _ _).mono ?_
  rintro e w2 ⟨rfl, hx2⟩
  replace hm := hm.ext hx2
  replace hx := hx.trans hx2
  clear hx2
  go_wp2_with fail
  refine (put_good mb _ 5 7 2 _ hm (by decide) (by simp)).mono ?_
  rintro e w3 ⟨rfl, hm, hg⟩
  replace hx := ext_only hx hle hg
  rw [show putR 5 7 2 [⟨3, 9, 1⟩] = [⟨3, 5, 1⟩, ⟨5, 7, 2⟩, ⟨7, 9, 1⟩] from by decide] at hm
  clear hg
  go_wp2_with fail
  refine (len_calls mb _ _ hm (by simp)).mono ?_
  rintro e w4 ⟨rfl, rfl⟩
  go_wp2_with fail
  refine (mkspan_calls _ _ _).mono ?_
  rintro e w2 ⟨rfl, hx2⟩
  replace hm := hm.ext hx2
  replace hx := hx.trans hx2
  clear hx2
  go_wp2_with fail
  refine (put_good mb _ 5 7 1 _ hm (by decide) (by simp)).mono ?_
  rintro e w3 ⟨rfl, hm, hg⟩
  replace hx := ext_only hx hle hg
  rw [show putR 5 7 1 [⟨3, 5, 1⟩, ⟨5, 7, 2⟩, ⟨7, 9, 1⟩] = [⟨3, 9, 1⟩] from by decide] at hm
  clear hg
  go_wp2_with fail
  refine (mkspan_calls _ _ _).mono ?_
  rintro e w2 ⟨rfl, hx2⟩
  replace hm := hm.ext hx2
  replace hx := hx.trans hx2
  clear hx2
  go_wp2_with fail
  refine (put_bad mb 5 5 1 _ (by decide)).mono ?_
  rintro e w3 ⟨rfl, hx2⟩
  replace hm := hm.ext hx2
  replace hx := hx.trans hx2
  clear hx2
  go_wp2_with fail
  refine (all_calls mb _ _ hm (by simp)).mono ?_
  rintro e w4 ⟨v, rfl, hown, hx2⟩
  rw [show meetsR [⟨3, 9, 1⟩] 0 4611686018427387904 = [⟨3, 9, 1⟩] from by decide] at hown
  replace hx := hx.trans hx2
  obtain ⟨A, c, rfl, _⟩ := own_shape hown
  clear hx2 hm
  go_wp2_with fail
  refine (mkspan_calls _ _ _).mono ?_
  rintro e w5 ⟨rfl, hx2⟩
  replace hown := ownsRow_ext hown hx2
  replace hx := hx.trans hx2
  clear hx2
  go_wp2_with fail
  have hrow : Row3 (w5.alloc (.cells #[.int .i64 3, .int .i64 9, .int .i64 1] 50)) (some ⟨w5.heap.size, 0, none⟩) [⟨3, 9, 1⟩] := fun k hk => by
    simp only [List.length_singleton] at hk
    obtain rfl : k = 0 := by omega
    exact ⟨_, rfl, by simp, by simp, by simp⟩
  refine (same_calls A _ c 1 [⟨3, 9, 1⟩] [⟨3, 9, 1⟩] _ ((row3_own hown).ext ((Ext.refl w5).alloc _)) hrow (by simp)).mono ?_
  rintro e w6 ⟨rfl, hx2⟩
  replace hx := (hx.alloc _).trans hx2
  clear hx2 hrow hown
  go_wp2
  go_ret
  exact ⟨by simp, hx⟩
end Go.Proofs.Ytjiabibnbpjhaaa
