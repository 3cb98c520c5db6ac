/- The contracts of the binary search, of place and of find. -/
import Derived.Test.YtaanbgagdanalaaTab
namespace Go.Proofs.Ytaanbgagdanalaa
open Go.RowKit

def cmpI (a b : Int) : Int := if a < b then -1 else if b < a then 1 else 0

theorem cmpI_nlt {a b : Int} (h : ¬ a < b) : ¬ cmpI a b < 0 := by
  unfold cmpI
  rw [if_neg h]
  split <;> omega
theorem cmpI_ne {a b : Int} (h : a ≠ b) : cmpI a b ≠ 0 := by
  unfold cmpI
  split
  · omega
  · rw [if_pos (by omega)]; omega

theorem cmp_calls (b : Nat) (a id : Int) (w : World) (hc : w.cell? ⟨b, 0, none⟩ = some (.int .i64 a)) :
    Calls Try.prog 63 #[.pointer (some ⟨b, 0, none⟩), .int .i64 id] w fun e w' => e = .returned (.int .i64 (cmpI a id)) ∧ w' = w := by
  rcases Int.lt_trichotomy a id with h | h | h
  · have e0 : cmpI a id = -1 := by simp [cmpI, h]
    have e1 : decide (a < id) = true := by simp [h]
    rw [e0]
    clear e0
    go_enter Try.func63, Try.ntmps63
    go_wp2
    go_ret
    exact ⟨rfl, rfl⟩
  · subst h
    have e0 : cmpI a a = 0 := by simp [cmpI]
    rw [e0]
    clear e0
    go_enter Try.func63, Try.ntmps63
    go_wp2
    go_ret
    exact ⟨rfl, rfl⟩
  · have e0 : cmpI a id = 1 := by simp [cmpI, h]; omega
    have e1 : decide (a < id) = false := by simp; omega
    have e2 : decide (id < a) = true := by simp [h]
    have h' : ¬ a < id := by omega
    rw [e0]
    clear e0
    go_enter Try.func63, Try.ntmps63
    go_wp2
    go_ret
    exact ⟨rfl, rfl⟩

/-- The pointers of a row of flights, with their numbers. -/
def RowP (w : World) (A : Option Addr) (ys : List Fy) : Prop := ∀ k (h : k < ys.length), ∃ g, A = some ⟨g, 0, none⟩ ∧ w.cell? ⟨g, k, none⟩ = some (.pointer (some ⟨ys[k].b, 0, none⟩)) ∧ w.cell? ⟨ys[k].b, 0, none⟩ = some (.int .i64 ys[k].f.id)
def idAt (ys : List Fy) (k : Nat) : Int := ys[k]!.f.id
theorem idAt_eq {ys : List Fy} {k : Nat} (h : k < ys.length) : idAt ys k = ys[k].f.id := by unfold idAt; rw [getElem!_pos ys k h]
def lowsY (ys : List Fy) (id : Int) : Nat := lows (ys.map Fy.f) id
def hitY (ys : List Fy) (id : Int) : Bool := decide (lowsY ys id < ys.length) && decide (idAt ys (lowsY ys id) = id)

set_option maxHeartbeats 4000000 in
set_option maxRecDepth 100000 in
theorem search_calls (A : Option Addr) (c : Nat) (ys : List Fy) (id last : Int) (w : World) (hl : ys.length ≤ 1000000) (hr : RowP w A ys) (hs : Rising (ys.map Fy.f) last) :
    Calls Try.prog 62 #[.slice A ys.length c, .int .i64 id, .func (.func 63) #[] #[]] w fun e w' => e = .returned (.tuple #[.int .i64 (lowsY ys id), .bool (hitY ys id)]) ∧ w' = w := by
  have hmono : ∀ i j, i < j → j < ys.length → idAt ys i < idAt ys j := fun i j h1 h2 => by
    have := rising_lt hs h1 (by simpa using h2)
    rw [idAt_eq h2, idAt_eq (by omega)]
    rw [getElem!_pos _ i (by simp; omega), getElem!_pos _ j (by simpa using h2)] at this
    simpa using this
  have HM := Lib.hid hmono
  clear hmono hs
  go_enter Try.func62, Try.ntmps62
  go_wp2
  go_loopw [9, 10] (fun i j wr => ∃ a b : Nat, a ≤ b ∧ b ≤ ys.length ∧ i = .int .i64 a ∧ j = .int .i64 b ∧ (∀ k, k < a → idAt ys k < id) ∧ (∀ k, b ≤ k → k < ys.length → id ≤ idAt ys k) ∧ wr = w) (fun i j _ => (intOf j).toNat - (intOf i).toNat)
  case atStart => exact ⟨0, ys.length, Nat.zero_le _, Nat.le_refl _, rfl, rfl, fun k h => by omega, fun k h1 h2 => by omega, rfl⟩
  case round =>
    obtain ⟨a, b, hab, hb, rfl, rfl, h1, h2, rfl⟩ := hrel
    have H1 := Lib.hid h1
    have H2 := Lib.hid h2
    clear h1 h2
    by_cases hlt : a < b
    · obtain ⟨m, hm⟩ : ∃ m, (a + b) / 2 = m := ⟨_, rfl⟩
      have m1 : a ≤ m := by omega
      have m2 : m < b := by omega
      have m3 : m < ys.length := by omega
      have w1 : IntKind.i64.wrap ((a : Int) + b) = (a : Int) + b := IntWalk.i64_in _ (by omega)
      have w2 : IntKind.u64.wrap ((a : Int) + b) = (a : Int) + b := IntWalk.u64_in _ (by omega)
      have w3 : ((a : Int) + b) / 2 = (m : Int) := by omega
      obtain ⟨g, rfl, hc1, hc2⟩ := hr m m3
      rw [← idAt_eq m3] at hc2
      obtain ⟨q, hq⟩ : ∃ q, idAt ys m = q := ⟨_, rfl⟩
      rw [hq] at hc2
      have HQ := Lib.hid hq
      have HV := Lib.hid hm
      clear hq hm
      by_cases hlo : q < id
      · have hcq : cmpI q id < 0 := by simp [cmpI, hlo]
        have hcd : decide (cmpI q id < 0) = true := by simp [hcq]
        go_wp2_with (go_at_call 63; refine (cmp_calls _ _ _ _ hc2).mono ?_; rintro e w4 ⟨rfl, rfl⟩)
        go_roundw
        case rel =>
          refine ⟨m + 1, b, by omega, hb, by go_num, rfl, fun k hk => ?_, H2.out, trivial⟩
          rcases Nat.lt_or_ge k m with h1 | h1
          · have := HM.out k m h1 m3
            have := HQ.out
            omega
          · have : k = m := by omega
            subst this
            have := HQ.out
            omega
        case measure => simp [intOf] <;> omega
      · have hcq : ¬ cmpI q id < 0 := cmpI_nlt (by omega)
        have hcd : decide (cmpI q id < 0) = false := by simp; omega
        have hcp : 0 ≤ cmpI q id := by omega
        go_wp2_with (go_at_call 63; refine (cmp_calls _ _ _ _ hc2).mono ?_; rintro e w4 ⟨rfl, rfl⟩)
        go_roundw
        case rel =>
          refine ⟨a, m, by omega, by omega, rfl, rfl, H1.out, fun k hk hk2 => ?_, trivial⟩
          have h9 := HQ.out
          rcases Nat.lt_or_ge m k with h1 | h1
          · have := HM.out m k h1 hk2
            omega
          · have : k = m := by omega
            subst this
            omega
        case measure => simp [intOf] <;> omega
    · obtain rfl : a = b := by omega
      have hlow : lowsY ys id = a := lows_of (by simpa using hb) (fun i hi => by
          have := H1.out i hi
          rw [idAt_eq (by omega)] at this
          rw [getElem!_pos _ i (by simp; omega)]
          simpa using this) (fun i hi hl => by
          have hl' : i < ys.length := by simpa using hl
          have := H2.out i hi hl'
          rw [idAt_eq hl'] at this
          rw [getElem!_pos _ i hl]
          simpa using this)
      by_cases hin : a < ys.length
      · obtain ⟨g, rfl, hc1, hc2⟩ := hr a hin
        rw [← idAt_eq hin] at hc2
        obtain ⟨q, hq⟩ : ∃ q, idAt ys a = q := ⟨_, rfl⟩
        rw [hq] at hc2
        have hd1 : decide ((a : Int) < (ys.length : Int)) = true := by simp; omega
        have hit : hitY ys id = decide (q = id) := by simp [hitY, hlow, hq, hin]
        have HL := Lib.hid hlow
        have HQ := Lib.hid hq
        have HI := Lib.hid hit
        clear hlow hq hit
        by_cases e1 : q = id
        · have hcq : cmpI q id = 0 := by simp [cmpI, e1]
          have hcd : (cmpI q id == 0) = true := by simp [hcq]
          have HE := Lib.hid e1
          have HC := Lib.hid hcq
          have hce : decide (cmpI q id = 0) = true := by simp [hcq]
          clear e1
          go_wp2_with (go_at_call 63; refine (cmp_calls _ _ _ _ hc2).mono ?_; rintro e w4 ⟨rfl, rfl⟩)
          exact bodyPost_ret (v := .tuple #[.int .i64 a, .bool true]) (by simp [results, Try.results62, go_sem]) rfl ⟨by rw [HL.out, HI.out]; simp [HE.out], rfl⟩
        · have hcq : cmpI q id ≠ 0 := cmpI_ne e1
          have hcd : (cmpI q id == 0) = false := by simp [hcq]
          have HE := Lib.hid e1
          have hce : decide (cmpI q id = 0) = false := by simp [hcq]
          clear e1 hcq
          go_wp2_with (go_at_call 63; refine (cmp_calls _ _ _ _ hc2).mono ?_; rintro e w4 ⟨rfl, rfl⟩)
          exact bodyPost_ret (v := .tuple #[.int .i64 a, .bool false]) (by simp [results, Try.results62, go_sem]) rfl ⟨by rw [HL.out, HI.out]; simp [HE.out], rfl⟩
      · have hd1 : decide ((a : Int) < (ys.length : Int)) = false := by simp; omega
        have hit : hitY ys id = false := by simp [hitY, hlow, hin]
        have HL := Lib.hid hlow
        have HI := Lib.hid hit
        clear hlow hit
        go_wp2
        exact bodyPost_ret (v := .tuple #[.int .i64 a, .bool false]) (by simp [results, Try.results62, go_sem]) rfl ⟨by rw [HL.out, HI.out], rfl⟩

theorem TabAt.rowP {N : Nat} {w : World} {tb : Nat} {lv : Value} {ys : List Fy} {last : Int} (h : TabAt N w tb lv ys last) : ∃ A c, lv = .slice A ys.length c ∧ RowP w A ys := by
  obtain ⟨A, c, e, _, hr⟩ := h.shape
  refine ⟨A, c, e, fun k hk => ?_⟩
  obtain ⟨g, e2, hc⟩ := hr k hk
  exact ⟨g, e2, hc, (h.all k hk).cell 0 rfl⟩

set_option maxRecDepth 100000 in
theorem place_calls (N : Nat) (tb : Nat) (lv : Value) (ys : List Fy) (last id : Int) (w : World) (h : TabAt N w tb lv ys last) (hl : ys.length ≤ 1000000) (hs : Rising (ys.map Fy.f) last) :
    Calls Try.prog 43 #[.pointer (some ⟨tb, 0, none⟩), .int .i64 id] w fun e w' => e = .returned (.tuple #[.int .i64 (lowsY ys id), .bool (hitY ys id)]) ∧ w' = w := by
  obtain ⟨A, c, rfl, hr⟩ := h.rowP
  have c0 := h.c0
  clear h
  have hc := search_calls A c ys id last w hl hr hs
  clear hr hs
  generalize lowsY ys id = q at *
  generalize hitY ys id = p at *
  generalize ys.length = n at *
  go_enter Try.func43, Try.ntmps43
  go_wp2_with fail
  refine hc.mono ?_
  rintro e w1 ⟨rfl, rfl⟩
  go_wp2
  exact bodyPost_ret (v := .tuple #[.int .i64 q, .bool p]) (by simp [results, Try.results43, go_sem]) rfl ⟨rfl, rfl⟩

/-- The pointer to the flight of a number. -/
def findP (ys : List Fy) (id : Int) : Option Addr := if hitY ys id then some ⟨ys[lowsY ys id]!.b, 0, none⟩ else none

set_option maxRecDepth 100000 in
theorem find_calls (N : Nat) (tb : Nat) (lv : Value) (ys : List Fy) (last id : Int) (w : World) (h : TabAt N w tb lv ys last) (hl : ys.length ≤ 1000000) (hs : Rising (ys.map Fy.f) last) :
    Calls Try.prog 41 #[.pointer (some ⟨tb, 0, none⟩), .int .i64 id] w fun e w' => e = .returned (.pointer (findP ys id)) ∧ w' = w := by
  have hp := place_calls N tb lv ys last id w h hl hs
  obtain ⟨A, c, rfl, hr⟩ := h.rowP
  have c0 := h.c0
  clear h hs
  have hq : hitY ys id = true → lowsY ys id < ys.length := fun e => by simp [hitY] at e; exact e.1
  unfold findP
  generalize lowsY ys id = q at *
  cases hh : hitY ys id
  · rw [hh] at hp
    clear hr hq hh
    go_enter Try.func41, Try.ntmps41
    go_wp2_with fail
    refine hp.mono ?_
    rintro e w1 ⟨rfl, rfl⟩
    go_wp2
    go_ret
    exact ⟨rfl, rfl⟩
  · rw [hh] at hp
    have hlt := hq hh
    obtain ⟨g, rfl, hc1, _⟩ := hr q hlt
    obtain ⟨b, hb⟩ : ∃ b, ys[q].b = b := ⟨_, rfl⟩
    rw [hb] at hc1
    have HE := Lib.hid hb
    clear hr hq hh hb
    go_enter Try.func41, Try.ntmps41
    go_wp2_with fail
    refine hp.mono ?_
    rintro e w1 ⟨rfl, rfl⟩
    go_wp2
    go_ret
    exact ⟨by rw [HE.out]; rfl, rfl⟩
end Go.Proofs.Ytaanbgagdanalaa
