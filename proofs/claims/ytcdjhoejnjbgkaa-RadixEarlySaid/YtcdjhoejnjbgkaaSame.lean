/- The contracts of the reference's Same and parts. -/
import Derived.Test.YtcdjhoejnjbgkaaDo
import Derived.Laws.StructEq
namespace Go.Proofs.Ytcdjhoejnjbgkaa
open Go.RowKit

theorem neq37 (a b a' b' : Int) (w : World) : (binOp .neq 37 (.agg #[.int .u64 a, .int .i64 b]) (.agg #[.int .u64 a', .int .i64 b'])).run Try.prog w = .ok (.bool (!(a == a' && b == b'))) w := by
  have h1 : Try.prog.underlying 37 = some (.struct (Try.prog.fieldsOf 37)) := by kernel_rfl
  have h2 : Try.prog.stoodInHeld 37 = false := by kernel_rfl
  rw [run_neq_struct, run_equalIn_agg _ _ _ _ _ h1 h2]
  simp [go_sem]
  by_cases x1 : a = a' <;> by_cases x2 : b = b' <;> simp [x1, x2]
theorem guard37 : Try.prog.eqGuardType Try.prog.depth 37 = false := by kernel_rfl
theorem Pr.beq_iff (a b : Pr) : a = b ↔ a.k = b.k ∧ a.v = b.v := by
  cases a; cases b; simp

set_option maxRecDepth 100000 in
theorem same_calls (A B : Option Addr) (c d : Nat) (la lb : List Pr) (w : World) (ha : RowP w A la) (hb : RowP w B lb) (hl : la.length ≤ 1000000) :
    Calls Try.prog 13 #[.slice A la.length c, .slice B lb.length d] w fun e w' => e = .returned (.bool (decide (la = lb))) ∧ Ext w w' := by
  by_cases hlen : la.length = lb.length
  · rw [← hlen]
    have HE := Lib.hid hlen
    clear hlen
    go_enter Try.func13, Try.ntmps13
    go_wp2
    go_loopw [5] (fun i wr => ∃ k : Nat, k ≤ la.length ∧ i = .int .i64 k ∧ la.take k = lb.take k ∧ Ext w wr) (fun i _ => la.length - (intOf i).toNat)
    case atStart => exact ⟨0, Nat.zero_le _, rfl, rfl, Ext.refl _⟩
    case round =>
      obtain ⟨k, hk, rfl, htk, hx⟩ := hrel
      have HT := Lib.hid htk
      clear htk
      by_cases hlt : k < la.length
      · obtain ⟨b1, rfl, p0, p1⟩ := ha.ext hx k hlt
        obtain ⟨b2, rfl, q0, q1⟩ := hb.ext hx k (by have := HE.out; omega)
        have hlt2 : k < lb.length := by have := HE.out; omega
        obtain ⟨r, hr⟩ : ∃ r, la[k] = r := ⟨_, rfl⟩
        obtain ⟨s, hs⟩ : ∃ s, lb[k] = s := ⟨_, rfl⟩
        rw [hr] at p0 p1
        rw [hs] at q0 q1
        have HR := Lib.hid hr
        have HS := Lib.hid hs
        clear hr hs
        go_wp2
        refine wp_region_ext_lit (by kernel_rfl) (by kernel_rfl) ?_
        intro X _ g hg hg'
        have P0 : ∀ n, (g n).cell? ⟨b1, k * 2, none⟩ = some (.int .u64 (r.k : Int)) := fun n => (hg n).cell p0
        have P1 : ∀ n, (g n).cell? ⟨b1, k * 2 + 1, none⟩ = some (.int .i64 r.v) := fun n => (hg n).cell p1
        have Q0 : ∀ n, (g n).cell? ⟨b2, k * 2, none⟩ = some (.int .u64 (s.k : Int)) := fun n => (hg n).cell q0
        have Q1 : ∀ n, (g n).cell? ⟨b2, k * 2 + 1, none⟩ = some (.int .i64 s.v) := fun n => (hg n).cell q1
        have hq := neq37 r.k r.v s.k s.v
        have hg50 := guard37
        cases e1 : ((r.k : Int) == (s.k : Int) && r.v == s.v)
        · rw [e1] at hq
          repeat (go_big_quiet_step (fail))
          refine wpQuiet_nil ?_
          rintro w2 ⟨n, rfl⟩
          go_wp2
          go_ret
          have hne : la ≠ lb := by
            rintro rfl
            have := HR.out.symm.trans HS.out
            subst this
            simp at e1
          exact ⟨by simp [hne], hx.trans (hg n)⟩
        · rw [e1] at hq
          repeat (go_big_quiet_step (fail))
          refine wpQuiet_nil ?_
          rintro w2 ⟨n, rfl⟩
          go_wp2
          go_roundw
          case rel =>
            refine ⟨k + 1, by omega, by go_num, ?_, hx.trans (hg n)⟩
            rw [List.take_succ_eq_append_getElem hlt, List.take_succ_eq_append_getElem hlt2, HT.out, HR.out, HS.out]
            simp only [Bool.and_eq_true, beq_iff_eq] at e1
            rw [(Pr.beq_iff r s).2 ⟨by omega, e1.2⟩]
          case measure => simp [intOf] <;> omega
      · obtain rfl : k = la.length := by omega
        go_wp2
        go_ret
        have : la = lb := by
          have h1 := HT.out
          rw [List.take_length, HE.out, List.take_length] at h1
          exact h1
        exact ⟨by simp [this], hx⟩
  · have hne : la ≠ lb := fun e => hlen (by rw [e])
    have h1 : ((la.length : Int) == lb.length) = false := by simp; omega
    go_enter Try.func13, Try.ntmps13
    go_wp2
    go_ret
    exact ⟨by simp [hne], Ext.refl w⟩

theorem log2_half {x : Nat} (h : 1 < x) : x.log2 = (x / 2).log2 + 1 := by
  conv => lhs; rw [Nat.log2_def]
  rw [if_pos (by omega)]

set_option maxRecDepth 100000 in
theorem parts_calls (a b : Nat) (w : World) (ha : a < 2 ^ 64) (hb : b < 2 ^ 64) :
    Calls Try.prog 36 #[.int .u64 a, .int .u64 b] w fun e w' => e = .returned (.int .i64 ((a ^^^ b).log2 : Int)) ∧ Ext w w' := by
  have hxr : bits .xor .u64 (a : Int) (b : Int) = ((a ^^^ b : Nat) : Int) := bits_xor_u64_nat a b ha hb
  have hx64 : a ^^^ b < 2 ^ 64 := Nat.xor_lt_two_pow ha hb
  have hm64 : (a ^^^ b).log2 < 64 := by
    by_cases h0 : a ^^^ b = 0
    · rw [h0]; decide
    · exact (Nat.log2_lt h0).2 hx64
  generalize a ^^^ b = x at *
  go_enter Try.func36, Try.ntmps36
  go_wp2
  clear hxr
  go_loop [5, 6] (fun n y => ∃ z m : Nat, y = .int .u64 z ∧ n = .int .i64 m ∧ z < 2 ^ 64 ∧ x.log2 = m + z.log2) (fun _ y => (intOf y).toNat)
  case atStart => exact ⟨x, 0, rfl, rfl, hx64, by omega⟩
  case round =>
    obtain ⟨z, m, rfl, rfl, hz, hl⟩ := hrel
    by_cases h1 : 1 < z
    · have hh := log2_half h1
      have H := Lib.hid (And.intro hl hh)
      clear hl hh
      have hm : m < 64 := by have := H.out.1; omega
      have h2 : (1 : Int) < z := by omega
      have hd : decide (1 < z) = true := by simp [h1]
      go_wp2
      go_round
      case rel => exact ⟨z / 2, m + 1, by go_num, by go_num, by omega, by rw [H.out.1, H.out.2]; omega⟩
      case measure => simp [intOf] <;> omega
    · have hz0 : z.log2 = 0 := by
        have : z = 0 ∨ z = 1 := by omega
        rcases this with rfl | rfl <;> decide
      have H := Lib.hid (And.intro hl hz0)
      clear hl hz0
      have h2 : ¬ (1 : Int) < z := by omega
      have hd : decide (1 < z) = false := by simp [h1]
      go_wp2
      go_ret
      exact ⟨by rw [H.out.1, H.out.2]; simp, Ext.refl w⟩
end Go.Proofs.Ytcdjhoejnjbgkaa
