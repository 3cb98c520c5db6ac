/- Lists of numbers in memory, and the contract of Numbers. -/
import Derived.Test.YtgcplndmhlideaaGreatLof
namespace Go.Proofs.YtgcplndmhlideaaGreat
open Go.RowKit

/-- A slice that shows a list of numbers. -/
def IAt (w : World) (A : Option Addr) (l : List Int) : Prop := ∀ k (hk : k < l.length), ∃ b o, A = some ⟨b, o, none⟩ ∧ w.cell? ⟨b, o + k, none⟩ = some (.int .i64 l[k])
theorem IAt.ext {w w' : World} {A : Option Addr} {l : List Int} (h : IAt w A l) (hx : Ext w w') : IAt w' A l := fun k hk => by
  obtain ⟨b, o, e, p⟩ := h k hk
  exact ⟨b, o, e, hx.cell p⟩
theorem IAt.nil (w : World) (A : Option Addr) : IAt w A [] := fun k hk => absurd hk (by simp)
def ints (l : List Int) : List Value := l.map fun n => .int .i64 n
theorem iat_of_own {w : World} {base : Nat} {e : TypeId} {A : Option Addr} {n c : Nat} {l : List Int} (h : w.ownsRow base e 1 (.slice A n c) n (ints l)) : IAt w A l := fun k hk => by
  have hn : n = l.length := by have := h.1; simp [ints] at this; omega
  subst hn
  obtain ⟨g, cap, hv, _, _⟩ := h.form (by omega)
  cases hv
  refine ⟨g, 0, rfl, ?_⟩
  rw [Nat.zero_add, h.cellAt _ (by omega)]
  simp [ints, hk]
theorem IAt.take {w : World} {A : Option Addr} {l : List Int} (h : IAt w A l) (k : Nat) : IAt w A (l.take k) := fun j hj => by
  obtain ⟨b, o, e, p⟩ := h j (by simp at hj; omega)
  exact ⟨b, o, e, by rw [p]; simp⟩

set_option maxHeartbeats 1000000 in
set_option maxRecDepth 100000 in
theorem numbers_calls (A B : Option Addr) (c d : Nat) (la lb : List Int) (w : World) (ha : IAt w A la) (hb : IAt w B lb) (hl : la.length ≤ 1000000) (hl2 : lb.length ≤ 1000000) :
    Calls Tryz.prog 6 #[.slice A la.length c, .slice B lb.length d] w fun e w' => e = .returned (.bool (decide (la = lb))) ∧ Ext w w' := by
  by_cases hlen : la.length = lb.length
  · rw [← hlen]
    have HE := Lib.hid hlen
    clear hlen hl2
    go_enter Tryz.func6, Tryz.ntmps6
    go_wp2
    go_loopw [13] (fun i wr => ∃ k : Nat, k ≤ la.length ∧ i = .int .i64 k ∧ la.take k = lb.take k ∧ Ext w wr) (fun i _ => la.length - (intOf i).toNat)
    case atStart => exact ⟨0, Nat.zero_le _, rfl, rfl, Ext.refl _⟩
    case round =>
      obtain ⟨k, hk, rfl, htk, hx⟩ := hrel
      have HT := Lib.hid htk
      clear htk
      by_cases hlt : k < la.length
      · obtain ⟨b1, o1, rfl, p0⟩ := ha.ext hx k hlt
        obtain ⟨b2, o2, rfl, q0⟩ := hb.ext hx k (by have := HE.out; omega)
        have hlt2 : k < lb.length := by have := HE.out; omega
        obtain ⟨r, hr⟩ : ∃ r, la[k] = r := ⟨_, rfl⟩
        obtain ⟨s, hs⟩ : ∃ s, lb[k] = s := ⟨_, rfl⟩
        rw [hr] at p0
        rw [hs] at q0
        have HR := Lib.hid hr
        have HS := Lib.hid hs
        clear hr hs
        go_wp2
        refine wp_region_ext_lit (by kernel_rfl) (by kernel_rfl) ?_
        intro X _ g hg hg'
        have P0 : ∀ n, (g n).cell? ⟨b1, o1 + k, none⟩ = some (.int .i64 r) := fun n => (hg n).cell p0
        have Q0 : ∀ n, (g n).cell? ⟨b2, o2 + k, none⟩ = some (.int .i64 s) := fun n => (hg n).cell q0
        repeat (go_big_quiet_step (fail))
        refine wpQuiet_nil ?_
        rintro w' ⟨n, rfl⟩
        have hxg := hx.trans (hg n)
        clear P0 Q0 hg hg'
        by_cases e1 : r = s
        · subst e1
          go_wp2
          go_roundw
          case rel =>
            refine ⟨k + 1, by omega, by go_num, ?_, hxg⟩
            rw [List.take_succ_eq_append_getElem hlt, List.take_succ_eq_append_getElem hlt2, HT.out, HR.out, HS.out]
          case measure => simp [intOf]; omega
        · have e2 : (r == s) = false := beq_eq_false_iff_ne.2 e1
          go_wp2
          go_ret
          refine ⟨?_, hxg⟩
          have hne : la ≠ lb := fun h => by
            subst h
            exact e1 (HR.out.symm.trans HS.out)
          simp [hne]
      · obtain rfl : k = la.length := by omega
        go_wp2
        go_ret
        refine ⟨?_, hx⟩
        have := HT.out
        rw [List.take_length, HE.out, List.take_length] at this
        simp [this]
  · have hne : la ≠ lb := fun h => hlen (by rw [h])
    have hni : ¬ (la.length : Int) = lb.length := by omega
    have hnb : ((la.length : Int) == lb.length) = false := beq_eq_false_iff_ne.2 hni
    have HN := Lib.hid hne
    clear hne hlen ha hb
    go_enter Tryz.func6, Tryz.ntmps6
    go_wp2
    go_ret
    exact ⟨by simp [HN.out], Ext.refl w⟩
end Go.Proofs.YtgcplndmhlideaaGreat
