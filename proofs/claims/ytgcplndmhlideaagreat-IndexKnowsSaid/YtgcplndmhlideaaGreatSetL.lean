/- The contracts of Set.Len and of the document List. -/
import Derived.Test.YtgcplndmhlideaaGreatFirst
import Derived.Laws.StructEq
namespace Go.Proofs.YtgcplndmhlideaaGreat
open Go.RowKit

def sumT (l : List Sp) : Int := l.foldl (fun n s => n + (s.t - s.f)) 0
def lenS (l : List Sp) : Int := if l.any (fun s => s.t == 4611686018427387904) then 4611686018427387904 else sumT l
theorem sumT_snoc (l : List Sp) (s : Sp) : sumT (l ++ [s]) = sumT l + (s.t - s.f) := by simp [sumT]
theorem sumT_bound {l : List Sp} (h : Norm l) (k : Nat) (hk : k ≤ l.length) : 0 ≤ sumT (l.take k) ∧ (∀ hk' : k < l.length, sumT (l.take k) ≤ l[k].f) ∧ sumT (l.take k) ≤ 4611686018427387904 ∧ (∀ j (hj : j + 1 = k), sumT (l.take k) ≤ l[j].t) := by
  induction k with
  | zero => exact ⟨by simp [sumT], fun hk' => by simp [sumT]; exact (h.get hk').1, by simp [sumT], fun j hj => by omega⟩
  | succ k ih =>
    obtain ⟨i1, i2, _, _⟩ := ih (by omega)
    have hk1 : k < l.length := by omega
    have h2 := i2 hk1
    have h3 := h.get hk1
    rw [List.take_succ_eq_append_getElem hk1, sumT_snoc]
    refine ⟨by omega, fun hk' => ?_, by omega, fun j hj => ?_⟩
    · have := h.lt (i := k) (j := k + 1) (by omega) hk'; omega
    · obtain rfl : j = k := by omega
      omega


theorem neqSpan (a b a' b' : Int) (w : World) : (binOp .neq 53 (.agg #[.int .i64 a, .int .i64 b]) (.agg #[.int .i64 a', .int .i64 b'])).run Tryz.prog w = .ok (.bool (!(a == a' && b == b'))) w := by
  have h1 : Tryz.prog.underlying 53 = some (.struct (Tryz.prog.fieldsOf 53)) := by kernel_rfl
  have h2 : Tryz.prog.stoodInHeld 53 = false := by kernel_rfl
  rw [run_neq_struct, run_equalIn_agg _ _ _ _ _ h1 h2]
  simp [go_sem]
  by_cases x1 : a = a' <;> by_cases x2 : b = b' <;> simp [x1, x2]
theorem guardSpan : Tryz.prog.eqGuardType Tryz.prog.depth 53 = false := by kernel_rfl
theorem Sp.beq_iff (a b : Sp) : a = b ↔ a.f = b.f ∧ a.t = b.t := by
  cases a; cases b; simp
set_option maxHeartbeats 2000000 in
set_option maxRecDepth 100000 in
theorem list_calls (A B : Option Addr) (c d : Nat) (la lb : List Sp) (w : World) (ha : SAt w A la) (hb : SAt w B lb) (hl : la.length ≤ 1000000) (_hl2 : lb.length ≤ 1000000) :
    Calls Tryz.prog 11 #[.slice A la.length c, .slice B lb.length d] w fun e w' => e = .returned (.bool (decide (la = lb))) ∧ Ext w w' := by
  by_cases hlen : la.length = lb.length
  · rw [← hlen]
    have HE := Lib.hid hlen
    clear hlen _hl2
    go_enter Tryz.func11, Tryz.ntmps11
    go_wp2
    go_loopw [5] (fun i wr => ∃ k : Nat, k ≤ la.length ∧ i = .int .i64 k ∧ la.take k = lb.take k ∧ Ext w wr) (fun i _ => la.length - (intOf i).toNat)
    case atStart => exact ⟨0, Nat.zero_le _, rfl, rfl, Ext.refl _⟩
    case round =>
      obtain ⟨k, hk, rfl, htk, hx⟩ := hrel
      have HT := Lib.hid htk
      clear htk
      by_cases hlt : k < la.length
      · obtain ⟨b1, o1, rfl, p0, p1⟩ := ha.ext hx k hlt
        obtain ⟨b2, o2, rfl, q0, q1⟩ := hb.ext hx k (by have := HE.out; omega)
        have hlt2 : k < lb.length := by have := HE.out; omega
        obtain ⟨r, hr⟩ : ∃ r, la[k] = r := ⟨_, rfl⟩
        obtain ⟨s, hs⟩ : ∃ s, lb[k] = s := ⟨_, rfl⟩
        rw [hr] at p0 p1
        rw [hs] at q0 q1
        have HR := Lib.hid hr
        have HS := Lib.hid hs
        clear hr hs
        go_wp2
        refine wp_region_ext_lit (by kernel_rfl) (by kernel_rfl) ?_
        intro X _ g hg hg'
        have P0 : ∀ n, (g n).cell? ⟨b1, o1 + k * 2, none⟩ = some (.int .i64 r.f) := fun n => (hg n).cell p0
        have P1 : ∀ n, (g n).cell? ⟨b1, o1 + k * 2 + 1, none⟩ = some (.int .i64 r.t) := fun n => (hg n).cell p1
        have Q0 : ∀ n, (g n).cell? ⟨b2, o2 + k * 2, none⟩ = some (.int .i64 s.f) := fun n => (hg n).cell q0
        have Q1 : ∀ n, (g n).cell? ⟨b2, o2 + k * 2 + 1, none⟩ = some (.int .i64 s.t) := fun n => (hg n).cell q1
        have hq := neqSpan r.f r.t s.f s.t
        have hg50 := guardSpan
        cases e1 : (r.f == s.f && r.t == s.t)
        · rw [e1] at hq
          repeat (go_big_quiet_step (fail))
          refine wpQuiet_nil ?_
          rintro w' ⟨n, rfl⟩
          have hxg := hx.trans (hg n)
          clear P0 P1 Q0 Q1 hq hg hg'
          go_wp2
          go_ret
          refine ⟨?_, hxg⟩
          have hne : la ≠ lb := fun h => by
            subst h
            have h1 : r = s := HR.out.symm.trans HS.out
            subst h1
            simp at e1
          simp [hne]
        · rw [e1] at hq
          repeat (go_big_quiet_step (fail))
          refine wpQuiet_nil ?_
          rintro w' ⟨n, rfl⟩
          have hxg := hx.trans (hg n)
          clear P0 P1 Q0 Q1 hq hg hg'
          go_wp2
          go_roundw
          case rel =>
            refine ⟨k + 1, by omega, by go_num, ?_, hxg⟩
            have hrs : r = s := by
              simp at e1
              exact (Sp.beq_iff r s).2 e1
            rw [List.take_succ_eq_append_getElem hlt, List.take_succ_eq_append_getElem hlt2, HT.out, HR.out, HS.out, hrs]
          case measure => simp [intOf]; omega
      · obtain rfl : k = la.length := by omega
        have hll : la = lb := by
          have := HT.out
          rw [List.take_length, HE.out, List.take_length] at this
          exact this
        have HL := Lib.hid hll
        clear hll
        go_wp2
        go_ret
        exact ⟨by rw [decide_eq_true HL.out]; rfl, hx⟩
  · have hne : la ≠ lb := fun h => hlen (by rw [h])
    have HN := Lib.hid hne
    clear hne
    have h2 : ((la.length : Int) == (lb.length : Int)) = false := by simp; omega
    have h3 : ((la.length : Int) != (lb.length : Int)) = true := by simp; omega
    clear hlen
    go_enter Tryz.func11, Tryz.ntmps11
    go_wp2
    go_ret
    exact ⟨by rw [decide_eq_false HN.out]; rfl, Ext.refl w⟩
end Go.Proofs.YtgcplndmhlideaaGreat
