/- The contracts of span.Right, proper, alike. -/
import Derived.Test.YtjiabibnbpjhaaaBase
import Derived.Test.YtjiabibnbpjhaaaRows
import Derived.Recover
namespace Go.Proofs.Ytjiabibnbpjhaaa
open Go.RowKit

/-- Is it a right span? -/
def rightB (f t : Int) : Bool := decide (0 ≤ f) && decide (f ≤ t) && decide (t ≤ 4611686018427387904)

theorem right_calls (f t : Int) (w : World) :
    Calls Try.prog 50 #[.agg #[.int .i64 f, .int .i64 t]] w fun e w' => e = .returned (.bool (rightB f t)) ∧ Ext w w' := by
  go_enter Try.func50, Try.ntmps50
  go_wp2
  all_goals go_ret
  all_goals exact ⟨by simp [rightB, *] <;> omega, (Ext.refl w).alloc _⟩

theorem proper_calls (f t : Int) (w : World) :
    Calls Try.prog 41 #[.agg #[.int .i64 f, .int .i64 t]] w fun e w' => e = .returned (.bool (rightB f t && decide (f < t))) ∧ Ext w w' := by
  go_enter Try.func41, Try.ntmps41
  go_wp2_with (go_at_call 50; refine (right_calls _ _ _).mono ?_; rintro e w' ⟨rfl, hx⟩; obtain ⟨c1, f1, z1⟩ := hx.rules)
  all_goals go_ret
  all_goals exact ⟨by simp [*], ((Ext.refl w).alloc _).trans hx⟩

theorem refend_calls (w : World) :
    Calls Try.prog 49 #[] w fun e w' => e = .returned (.int .i64 4611686018427387904) ∧ w = w' := by
  go_enter Try.func49, Try.ntmps49
  go_wp2
  go_ret
  exact ⟨rfl, rfl⟩

theorem refright_calls (f t : Int) (w : World) :
    Calls Try.prog 40 #[.agg #[.int .i64 f, .int .i64 t]] w fun e w' => e = .returned (.bool (rightB f t)) ∧ Ext w w' := by
  cases e1 : decide (0 ≤ f) <;> cases e2 : decide (f ≤ t)
  all_goals
    go_enter Try.func40, Try.ntmps40
    go_wp2
    refine wp_region_ext_lit (by kernel_rfl) (by kernel_rfl) ?_
    intro X _ g hg hg'
    have c0 : ∀ n, (g n).cell? ⟨w.heap.size, 0, none⟩ = some (.int .i64 f) := fun n => (hg n).cell (by simp)
    have c1 : ∀ n, (g n).cell? ⟨w.heap.size, 1, none⟩ = some (.int .i64 t) := fun n => (hg n).cell (by simp)
    repeat (go_big_quiet_step ((go_at_call 49; exact (refend_calls _).mono fun e w2 ⟨he, hw⟩ => ⟨he, _, hw.symm⟩)))
    refine wpQuiet_nil ?_
    rintro w' ⟨n, rfl⟩
    go_wp2
    go_ret
    exact ⟨by simp [rightB, *], ((Ext.refl w).alloc _).trans (hg n)⟩
end Go.Proofs.Ytjiabibnbpjhaaa
