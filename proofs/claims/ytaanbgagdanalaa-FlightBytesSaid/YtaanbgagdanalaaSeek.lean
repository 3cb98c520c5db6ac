/- The contracts of slices.Index and slices.Contains at numbers, and of Ints. -/
import Derived.Test.YtaanbgagdanalaaTab
namespace Go.Proofs.Ytaanbgagdanalaa
open Go.RowKit

def idx (l : List Int) (x : Int) : Int := match l.findIdx? (· == x) with | none => -1 | some i => i

set_option maxRecDepth 100000 in
theorem index_calls (A : Option Addr) (c : Nat) (l : List Int) (x : Int) (w : World) (hl : l.length ≤ 1000000) (hr : RowI w A l) :
    Calls Try.prog 61 #[.slice A l.length c, .int .i64 x] w fun e w' => e = .returned (.int .i64 (idx l x)) ∧ w' = w := by
  go_enter Try.func61, Try.ntmps61
  go_wp2
  go_loopw [8] (fun i wr => ∃ k : Nat, k ≤ l.length ∧ i = .int .i64 k ∧ (∀ j (h : j < l.length), j < k → l[j] ≠ x) ∧ wr = w) (fun i _ => l.length - (intOf i).toNat)
  case atStart => exact ⟨0, Nat.zero_le _, rfl, fun j _ h => by omega, rfl⟩
  case round =>
    obtain ⟨k, hk, rfl, hno, rfl⟩ := hrel
    have HN := Lib.hid hno
    clear hno
    by_cases hlt : k < l.length
    · obtain ⟨g, rfl, hc⟩ := hr k hlt
      obtain ⟨y, hy⟩ : ∃ y, l[k] = y := ⟨_, rfl⟩
      rw [hy] at hc
      have HY := Lib.hid hy
      clear hy
      by_cases e1 : x = y
      · have e2 : (x == y) = true := by simp [e1]
        have e3 : (decide (x = y)) = true := by simp [e1]
        have hi : idx l x = k := by
          unfold idx
          rw [show l.findIdx? (· == x) = some k from List.findIdx?_eq_some_iff_getElem.2 ⟨hlt, by rw [HY.out, e1]; simp, fun j hj => by simpa using HN.out j (by omega) hj⟩]
        have HI := Lib.hid hi
        have HE := Lib.hid e1
        clear hi e1
        go_wp2
        go_ret
        exact ⟨by rw [HI.out]; rfl, rfl⟩
      · have e2 : (x == y) = false := by simp [e1]
        have e3 : (decide (x = y)) = false := by simp [e1]
        have HE := Lib.hid e1
        clear e1
        go_wp2
        go_roundw
        case rel => exact ⟨k + 1, by omega, by go_num, fun j hj hjk => by
            rcases Nat.lt_or_ge j k with h1 | h1
            · exact HN.out j hj h1
            · have : j = k := by omega
              subst this
              exact fun e => HE.out (by rw [← HY.out, e]), trivial⟩
        case measure => simp [intOf] <;> omega
    · obtain rfl : k = l.length := by omega
      have hi : idx l x = -1 := by
        unfold idx
        rw [show l.findIdx? (· == x) = none from List.findIdx?_eq_none_iff.2 fun y hy => by
          obtain ⟨j, hj, rfl⟩ := List.getElem_of_mem hy
          simpa using HN.out j hj hj]
      have HI := Lib.hid hi
      clear hi
      go_wp2
      go_ret
      exact ⟨by rw [HI.out]; rfl, rfl⟩
theorem idx_mem (l : List Int) (x : Int) : decide (0 ≤ idx l x) = decide (x ∈ l) := by
  unfold idx
  cases h : l.findIdx? (· == x) with
  | none =>
    have := List.findIdx?_eq_none_iff.1 h
    have hn : x ∉ l := fun hm => by have := this x hm; simp at this
    simp [hn]
  | some i =>
    obtain ⟨h1, h2, _⟩ := List.findIdx?_eq_some_iff_getElem.1 h
    have : x ∈ l := by
      have := List.getElem_mem h1
      simp at h2
      rwa [h2] at this
    simp [this]

set_option maxRecDepth 100000 in
theorem contains_calls (A : Option Addr) (c : Nat) (l : List Int) (x : Int) (w : World) (hl : l.length ≤ 1000000) (hr : RowI w A l) :
    Calls Try.prog 42 #[.slice A l.length c, .int .i64 x] w fun e w' => e = .returned (.bool (decide (x ∈ l))) ∧ w' = w := by
  have hi := idx_mem l x
  have HI := Lib.hid hi
  clear hi
  generalize hd : decide (x ∈ l) = d at *
  have HD := Lib.hid hd
  clear hd
  go_enter Try.func42, Try.ntmps42
  go_wp2_with fail
  refine (index_calls A c l x w hl hr).mono ?_
  rintro e w1 ⟨rfl, rfl⟩
  have h2 := HI.out
  generalize idx l x = q at *
  go_wp2
  go_ret
  exact ⟨rfl, rfl⟩

set_option maxRecDepth 100000 in
theorem ints_calls (A B : Option Addr) (c d : Nat) (la lb : List Int) (w : World) (ha : RowI w A la) (hb : RowI w B lb) (hl : la.length ≤ 1000000) :
    Calls Try.prog 15 #[.slice A la.length c, .slice B lb.length d] w fun e w' => e = .returned (.bool (decide (la = lb))) ∧ Ext w w' := by
  by_cases hlen : la.length = lb.length
  · rw [← hlen]
    have HE := Lib.hid hlen
    clear hlen
    go_enter Try.func15, Try.ntmps15
    go_wp2
    go_loopw [13] (fun i wr => ∃ k : Nat, k ≤ la.length ∧ i = .int .i64 k ∧ la.take k = lb.take k ∧ Ext w wr) (fun i _ => la.length - (intOf i).toNat)
    case atStart => exact ⟨0, Nat.zero_le _, rfl, rfl, Ext.refl _⟩
    case round =>
      obtain ⟨k, hk, rfl, htk, hx⟩ := hrel
      have HT := Lib.hid htk
      clear htk
      by_cases hlt : k < la.length
      · obtain ⟨b1, rfl, p0⟩ := ha k hlt
        have hlt2 : k < lb.length := by have := HE.out; omega
        obtain ⟨b2, rfl, q0⟩ := hb k hlt2
        replace p0 := hx.cell p0
        replace q0 := hx.cell q0
        obtain ⟨r, hr⟩ : ∃ r, la[k] = r := ⟨_, rfl⟩
        obtain ⟨s, hs⟩ : ∃ s, lb[k] = s := ⟨_, rfl⟩
        rw [hr] at p0
        rw [hs] at q0
        have HR := Lib.hid hr
        have HS := Lib.hid hs
        clear hr hs
        have HX := Lib.hid hx
        clear hx
        by_cases e1 : r = s
        · have e2 : (r == s) = true := by simp [e1]
          have e3 : (decide (r = s)) = true := by simp [e1]
          have e4 : (r != s) = false := by simp [e1]
          have HQ := Lib.hid e1
          clear e1
          go_wp2_with fail
          go_quiet (fail)
          go_wp2
          go_roundw
          case rel =>
            refine ⟨k + 1, by omega, by go_num, ?_, HX.out.drewN _⟩
            rw [List.take_succ_eq_append_getElem hlt, List.take_succ_eq_append_getElem hlt2, HT.out, HR.out, HS.out, HQ.out]
          case measure => simp [intOf] <;> omega
        · have e2 : (r == s) = false := by simp [e1]
          have e3 : (decide (r = s)) = false := by simp [e1]
          have e4 : (r != s) = true := by simp [e1]
          have hne : la ≠ lb := by
            rintro rfl
            exact e1 (HR.out.symm.trans HS.out)
          have HN := Lib.hid hne
          clear e1 hne
          go_wp2_with fail
          go_quiet (fail)
          go_wp2
          go_ret
          exact ⟨by simp [HN.out], HX.out.drewN _⟩
      · obtain rfl : k = la.length := by omega
        have he : la = lb := by
          have := HT.out
          rw [List.take_length, HE.out, List.take_length] at this
          exact this
        have HQ := Lib.hid he
        clear he
        go_wp2
        go_ret
        exact ⟨by simp [HQ.out], hx⟩
  · have hne : la ≠ lb := fun e => hlen (by rw [e])
    have HN := Lib.hid hne
    clear hne
    have e1 : decide (la.length = lb.length) = false := by simp [hlen]
    have e2 : (((la.length : Nat) : Int) == ((lb.length : Nat) : Int)) = false := by simp; omega
    have e3 : decide (((la.length : Nat) : Int) = ((lb.length : Nat) : Int)) = false := by simp; omega
    have e4 : (((la.length : Nat) : Int) != ((lb.length : Nat) : Int)) = true := by simp; omega
    go_enter Try.func15, Try.ntmps15
    go_wp2
    go_ret
    exact ⟨by simp [HN.out], Ext.refl _⟩
end Go.Proofs.Ytaanbgagdanalaa
