/- The contract of the reference's Same. -/
import Derived.Test.YtjiabibnbpjhaaaAll
import Derived.Laws.StructEq
namespace Go.Proofs.Ytjiabibnbpjhaaa
open Go.RowKit

theorem Rn.beq_iff (a b : Rn) : a = b ↔ a.f = b.f ∧ a.t = b.t ∧ a.v = b.v := by
  cases a; cases b; simp

theorem neq50 (a b c a' b' c' : Int) (w : World) : (binOp .neq 50 (.agg #[.int .i64 a, .int .i64 b, .int .i64 c]) (.agg #[.int .i64 a', .int .i64 b', .int .i64 c'])).run Try.prog w = .ok (.bool (!(a == a' && b == b' && c == c'))) w := by
  have h1 : Try.prog.underlying 50 = some (.struct (Try.prog.fieldsOf 50)) := by kernel_rfl
  have h2 : Try.prog.stoodInHeld 50 = false := by kernel_rfl
  have h3 : Try.prog.underlying 34 = some (.struct (Try.prog.fieldsOf 34)) := by kernel_rfl
  have h4 : Try.prog.stoodInHeld 34 = false := by kernel_rfl
  rw [run_neq_struct, run_equalIn_agg _ _ _ _ _ h1 h2]
  simp [go_sem]
  by_cases x1 : a = a' <;> by_cases x2 : b = b' <;> by_cases x3 : c = c' <;> simp [x1, x2, x3]
theorem guard50 : Try.prog.eqGuardType Try.prog.depth 50 = false := by kernel_rfl

set_option maxRecDepth 100000 in
theorem same_calls (A B : Option Addr) (c d : Nat) (la lb : List Rn) (w : World) (ha : Row3 w A la) (hb : Row3 w B lb) (hl : la.length ≤ 1000000) :
    Calls Try.prog 15 #[.slice A la.length c, .slice B lb.length d] w fun e w' => e = .returned (.bool (decide (la = lb))) ∧ Ext w w' := by
  by_cases hlen : la.length = lb.length
  · rw [← hlen]
    have HE := Lib.hid hlen
    clear hlen
    go_enter Try.func15, Try.ntmps15
    go_wp2
    go_loopw [13] (fun i wr => ∃ k : Nat, k ≤ la.length ∧ i = .int .i64 k ∧ la.take k = lb.take k ∧ Ext w wr) (fun i _ => la.length - (intOf i).toNat)
    case atStart => exact ⟨0, Nat.zero_le _, rfl, rfl, Ext.refl _⟩
    case round =>
      obtain ⟨k, hk, rfl, htk, hx⟩ := hrel
      have HT := Lib.hid htk
      clear htk
      by_cases hlt : k < la.length
      · obtain ⟨b1, rfl, p0, p1, p2⟩ := ha.ext hx k hlt
        obtain ⟨b2, rfl, q0, q1, q2⟩ := hb.ext hx k (by have := HE.out; omega)
        have hlt2 : k < lb.length := by have := HE.out; omega
        obtain ⟨r, hr⟩ : ∃ r, la[k] = r := ⟨_, rfl⟩
        obtain ⟨s, hs⟩ : ∃ s, lb[k] = s := ⟨_, rfl⟩
        rw [hr] at p0 p1 p2
        rw [hs] at q0 q1 q2
        have HR := Lib.hid hr
        have HS := Lib.hid hs
        clear hr hs
        go_wp2
        refine wp_region_ext_lit (by kernel_rfl) (by kernel_rfl) ?_
        intro X _ g hg hg'
        have P0 : ∀ n, (g n).cell? ⟨b1, k * 3, none⟩ = some (.int .i64 r.f) := fun n => (hg n).cell p0
        have P1 : ∀ n, (g n).cell? ⟨b1, k * 3 + 1, none⟩ = some (.int .i64 r.t) := fun n => (hg n).cell p1
        have P2 : ∀ n, (g n).cell? ⟨b1, k * 3 + 2, none⟩ = some (.int .i64 r.v) := fun n => (hg n).cell p2
        have Q0 : ∀ n, (g n).cell? ⟨b2, k * 3, none⟩ = some (.int .i64 s.f) := fun n => (hg n).cell q0
        have Q1 : ∀ n, (g n).cell? ⟨b2, k * 3 + 1, none⟩ = some (.int .i64 s.t) := fun n => (hg n).cell q1
        have Q2 : ∀ n, (g n).cell? ⟨b2, k * 3 + 2, none⟩ = some (.int .i64 s.v) := fun n => (hg n).cell q2
        have hq := neq50 r.f r.t r.v s.f s.t s.v
        have hg50 := guard50
        cases e1 : (r.f == s.f && r.t == s.t && r.v == s.v)
        · rw [e1] at hq
          repeat (go_big_quiet_step (fail))
          refine wpQuiet_nil ?_
          rintro w2 ⟨n, rfl⟩
          go_wp2
          go_ret
          have hne : la ≠ lb := by
            rintro rfl
            have := HR.out.symm.trans HS.out
            subst this
            simp at e1
          exact ⟨by simp [hne], hx.trans (hg n)⟩
        · rw [e1] at hq
          repeat (go_big_quiet_step (fail))
          refine wpQuiet_nil ?_
          rintro w2 ⟨n, rfl⟩
          go_wp2
          go_roundw
          case rel =>
            refine ⟨k + 1, by omega, by go_num, ?_, hx.trans (hg n)⟩
            rw [List.take_succ_eq_append_getElem hlt, List.take_succ_eq_append_getElem hlt2, HT.out, HR.out, HS.out]
            simp only [Bool.and_eq_true, beq_iff_eq] at e1
            rw [(Rn.beq_iff r s).2 ⟨e1.1.1, e1.1.2, e1.2⟩]
          case measure => simp [intOf] <;> omega
      · obtain rfl : k = la.length := by omega
        go_wp2
        go_ret
        have : la = lb := by
          have h1 := HT.out
          rw [List.take_length, HE.out, List.take_length] at h1
          exact h1
        exact ⟨by simp [this], hx⟩
  · have hne : la ≠ lb := fun e => hlen (by rw [e])
    have h1 : ((la.length : Int) == lb.length) = false := by simp; omega
    go_enter Try.func15, Try.ntmps15
    go_wp2
    go_ret
    exact ⟨by simp [hne], Ext.refl w⟩
end Go.Proofs.Ytjiabibnbpjhaaa
