/- The walk of the law IndexNil. -/
import Derived.Test.YtgcplndmhlideaaNil
import Derived.Test.YtgcplndmhlideaaLawPlays
namespace Go.Proofs.Ytgcplndmhlideaa
open Go.RowKit

set_option maxHeartbeats 2000000 in
set_option maxRecDepth 100000 in
theorem lawNil_calls (v n b : Int) (w : World) (hb : I64 b) : Calls Try.prog 6 #[.agg #[.int .i64 v, .int .i64 n], .int .i64 b] w fun e w' => e = .returned (.bool true) ∧ Ext w w' := by
  have hx0 : Ext w (w.alloc (.cells #[.int .i64 v, .int .i64 n] 34)) := (Ext.refl w).alloc _
  have hb0 := heap_alloc_new w (.cells #[.int .i64 v, .int .i64 n] 34)
  go_enter Try.func6, Try.ntmps6
  go_upto_region 1 with (fail)
  generalize w.alloc (.cells #[.int .i64 v, .int .i64 n] 34) = W at *
  generalize w.heap.size = nb at *
  go_wp2_with fail
  refine (alive_calls W).mono ?_
  rintro e w1 ⟨rfl, hx1⟩
  replace hx0 := hx0.trans hx1
  replace hb0 := hx1.block hb0
  have a0 : w1.cell? ⟨nb, 0, none⟩ = some (.int .i64 v) := cell_blk hb0 0 rfl
  have a1 : w1.cell? ⟨nb, 1, none⟩ = some (.int .i64 n) := cell_blk hb0 1 rfl
  have HX := Lib.hid hx0
  clear hx0 hx1 hb0
  go_wp2_with ((first
    | (go_at_call 13
       refine (name_calls v n _).mono ?_
       rintro e wz ⟨rfl, hxz⟩)
    | (go_at_call 12
       refine (getnil_calls v n _).mono ?_
       rintro e wz ⟨rfl, hxz⟩
       have hgo : gotV none = .tuple #[.int .i64 0, .int .i64 0, .bool false] := rfl
       rw [hgo]
       clear hgo)
    | (go_at_call 17
       refine (putnil_calls v n b _).mono ?_
       rintro e wz ⟨rfl, hxz⟩)
    | (go_at_call 18
       refine (dropnil_calls v n _).mono ?_
       rintro e wz ⟨rfl, hxz⟩)
    | (go_at_call 23
       refine (has_any none 0 v [] _ (of_nil v _) (.inl rfl) (by simp)).mono ?_
       rintro e wz ⟨Az, cz, rfl, hsz, -, hxz⟩
       have hof : ofS ([].map (spW 0)) = [] := rfl
       rw [hof] at hsz ⊢
       clear hof)
    | (go_at_call 24
       refine (len_calls _ _ [] _ (SAt.nil _ _) norm_nil (by simp)).mono ?_
       rintro e wz ⟨rfl, hxz⟩
       have hle : lenS [] = 0 := rfl
       rw [hle]
       clear hle)
    | (go_at_call 25
       refine (lawof_calls none v [] _ (of_nil v _) (by simp)).mono ?_
       rintro e wz ⟨vz, rfl, hrz, hxz⟩
       obtain ⟨Az, cz, rfl, -⟩ := own_shape hrz)
    | (go_at_call 26
       refine (versnil_calls _).mono ?_
       rintro e wz ⟨rfl, hxz⟩)
    | (go_at_call 15
       refine (since_nil b _).mono ?_
       rintro e wz ⟨vz, rfl, hrz, hxz⟩
       obtain ⟨Az, cz, rfl, -⟩ := own_shape hrz)
    | (go_at_call 19
       refine (forgnil_calls v _).mono ?_
       rintro e wz ⟨rfl, hxz⟩)
    | (go_at_call 9
       refine (xbytes_nil _).mono ?_
       rintro e wz ⟨rfl, hxz⟩)); (replace a0 := hxz.cell a0); (replace a1 := hxz.cell a1); (replace HX := Lib.hid (HX.out.trans hxz)); (clear hxz))
  go_ret
  exact ⟨rfl, HX.out⟩
theorem lawNil_wf (v n b : Int) (w : World) (hb : (Lit.int .i64 b).wf = true) : Calls Try.prog 6 #[.agg #[.int .i64 v, .int .i64 n], .int .i64 b] w fun e w' => e = .returned (.bool true) ∧ Ext w w' := lawNil_calls v n b w (i64_wf hb)
end Go.Proofs.Ytgcplndmhlideaa
