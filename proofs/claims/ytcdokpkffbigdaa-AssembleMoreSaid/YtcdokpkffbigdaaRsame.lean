/- The reference's Same at lists that are the same. -/
import Derived.Test.YtcdokpkffbigdaaRcn
namespace Go.Proofs.Ytcdokpkffbigdaa
open Go.RowKit

set_option maxHeartbeats 2000000 in
set_option maxRecDepth 100000 in
theorem rsame_calls (A B : Option Addr) (c d : Nat) (L : List Pt) (w : World) (ha : PAt w A L) (hb : PAt w B L) (hl : L.length ≤ 1000000) :
    Calls Try.prog 18 #[.slice A L.length c, .slice B L.length d] w fun e w' => e = .returned (.bool true) ∧ Ext w w' := by
  have HA := Lib.hid ha
  have HB := Lib.hid hb
  clear ha hb
  go_enter Try.func18, Try.ntmps18
  go_wp2
  go_loopw [13] (fun i wr => ∃ k : Nat, k ≤ L.length ∧ i = .int .i64 k ∧ Ext w wr) (fun i _ => L.length - (intOf i).toNat)
  case atStart => exact ⟨0, Nat.zero_le _, rfl, Ext.refl _⟩
  case round =>
    obtain ⟨k, hk, rfl, hx⟩ := hrel
    by_cases hlt : k < L.length
    · obtain ⟨b1, o1, rfl, p0, p1, p2⟩ := HA.out.ext hx k hlt
      obtain ⟨b2, o2, rfl, q0, q1, q2⟩ := HB.out.ext hx k hlt
      generalize L[k] = r at *
      rcases r with ⟨s, f, t⟩
      simp only at p0 p1 p2 q0 q1 q2
      cases e1 : (s == [])
      all_goals
        go_wp2
        refine wp_region_ext_lit (by kernel_rfl) (by kernel_rfl) ?_
        intro X _ g hg hg'
        have P0 : ∀ n, (g n).cell? ⟨b1, o1 + k * 3, none⟩ = some (.string ⟨s.toArray⟩) := fun n => (hg n).cell p0
        have P1 : ∀ n, (g n).cell? ⟨b1, o1 + k * 3 + 1, none⟩ = some (.int .i64 f) := fun n => (hg n).cell p1
        have P2 : ∀ n, (g n).cell? ⟨b1, o1 + k * 3 + 2, none⟩ = some (.int .i64 t) := fun n => (hg n).cell p2
        have Q0 : ∀ n, (g n).cell? ⟨b2, o2 + k * 3, none⟩ = some (.string ⟨s.toArray⟩) := fun n => (hg n).cell q0
        have Q1 : ∀ n, (g n).cell? ⟨b2, o2 + k * 3 + 1, none⟩ = some (.int .i64 f) := fun n => (hg n).cell q1
        have Q2 : ∀ n, (g n).cell? ⟨b2, o2 + k * 3 + 2, none⟩ = some (.int .i64 t) := fun n => (hg n).cell q2
        have hq := neqSpan f t f t
        have hg50 := guardSpan
        simp only [beq_self_eq_true, Bool.and_self, Bool.not_true] at hq
        repeat (go_big_quiet_step (fail))
        refine wpQuiet_nil ?_
        rintro w' ⟨n, rfl⟩
        have hxg := hx.trans (hg n)
        clear P0 P1 P2 Q0 Q1 Q2 hq hg hg' p0 p1 p2 q0 q1 q2
        go_wp2
        go_roundw
        case rel => exact ⟨k + 1, by omega, by go_num, hxg⟩
        case measure => simp [intOf]; omega
    · obtain rfl : k = L.length := by omega
      go_wp2
      go_ret
      exact ⟨rfl, hx⟩
end Go.Proofs.Ytcdokpkffbigdaa
