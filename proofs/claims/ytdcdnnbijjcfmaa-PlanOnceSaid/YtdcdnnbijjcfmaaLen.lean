/- The contracts of Set.Len, Holds. -/
import Derived.Test.YtdcdnnbijjcfmaaFirst
namespace Go.Proofs.Ytdcdnnbijjcfmaa
open Go.RowKit

def sumS (l : List Sp) : Int := l.foldl (fun n s => n + (s.t - s.f)) 0
def lenS (l : List Sp) : Int := if l.any (fun s => s.t == 4611686018427387904) then 4611686018427387904 else sumS l
theorem sumS_snoc (l : List Sp) (s : Sp) : sumS (l ++ [s]) = sumS l + (s.t - s.f) := by simp [sumS]
theorem sumS_bound {l : List Sp} (h : Norm l) (k : Nat) (hk : k ≤ l.length) : 0 ≤ sumS (l.take k) ∧ (∀ hk' : k < l.length, sumS (l.take k) ≤ l[k].f) ∧ sumS (l.take k) ≤ 4611686018427387904 ∧ (∀ j (hj : j + 1 = k), sumS (l.take k) ≤ l[j].t) := by
  induction k with
  | zero => exact ⟨by simp [sumS], fun hk' => by simp [sumS]; exact (h.get hk').1, by simp [sumS], fun j hj => by omega⟩
  | succ k ih =>
    obtain ⟨i1, i2, _, _⟩ := ih (by omega)
    have hk1 : k < l.length := by omega
    have h2 := i2 hk1
    have h3 := h.get hk1
    rw [List.take_succ_eq_append_getElem hk1, sumS_snoc]
    refine ⟨by omega, fun hk' => ?_, by omega, fun j hj => ?_⟩
    · have := h.lt (i := k) (j := k + 1) (by omega) hk'; omega
    · obtain rfl : j = k := by omega
      omega

set_option maxHeartbeats 1000000 in
set_option maxRecDepth 100000 in
theorem len_calls (A : Option Addr) (c : Nat) (l : List Sp) (w : World) (h : SAt w A l) (hn : Norm l) (hl : l.length ≤ 1000000) :
    Calls Try.prog 26 #[.agg #[.slice A l.length c]] w fun e w' => e = .returned (.int .i64 (lenS l)) ∧ Ext w w' := by
  have hx0 : Ext w (w.alloc (.cells #[.slice A l.length c] 30)) := (Ext.refl w).alloc _
  replace h := h.ext hx0
  go_enter Try.func26, Try.ntmps26
  go_wp2
  generalize (w.alloc (.cells #[.slice A l.length c] 30)) = w1 at *
  go_loopw [3, 9] (fun n i wr => ∃ k : Nat, k ≤ l.length ∧ i = .int .i64 k ∧ n = .int .i64 (sumS (l.take k)) ∧ (l.take k).any (fun s => s.t == 4611686018427387904) = false ∧ Ext w1 wr) (fun _ i _ => l.length - (intOf i).toNat)
  case atStart => exact ⟨0, Nat.zero_le _, rfl, rfl, rfl, Ext.refl w1⟩
  case round =>
    obtain ⟨k, hk, rfl, rfl, hno, hx⟩ := hrel
    by_cases hlt : k < l.length
    · obtain ⟨b, o, rfl, p0, p1⟩ := h.ext hx k hlt
      have hb := sumS_bound hn k hk
      have hbf := hb.2.1 hlt
      have hb0 := hb.1
      have hg := hn.get hlt
      have hts := List.take_succ_eq_append_getElem hlt
      have hsm : sumS (l.take (k + 1)) = sumS (l.take k) + (l[k].t - l[k].f) := by rw [hts, sumS_snoc]
      have han : (l.take (k + 1)).any (fun s => s.t == 4611686018427387904) = (l[k].t == 4611686018427387904) := by rw [hts, List.any_append, hno]; simp
      have hal : (l[k].t == 4611686018427387904) = true → lenS l = 4611686018427387904 := fun h => by
        unfold lenS
        rw [if_pos (List.any_eq_true.2 ⟨l[k], List.getElem_mem _, h⟩)]
      generalize l[k] = s at *
      generalize sumS (l.take k) = n at *
      have HS := Lib.hid hsm
      have HA := Lib.hid han
      have HL := Lib.hid hal
      obtain ⟨g1, g2, g3⟩ := hg
      clear hb hts hsm han hal hno h
      cases eO : (s.t == 4611686018427387904)
      · have HA2 : Hid ((l.take (k + 1)).any (fun s => s.t == 4611686018427387904) = false) := Lib.hid (by rw [HA.out, eO])
        clear HA HL
        go_wp2
        go_roundw
        case rel => exact ⟨k + 1, by omega, by go_num, by rw [HS.out], HA2.out, hx.alloc _⟩
        case measure => simp [intOf]; omega
      · have HL2 := Lib.hid (HL.out eO)
        clear HA HL
        go_wp2
        go_ret
        exact ⟨by rw [HL2.out]; rfl, hx0.trans (hx.alloc _)⟩
    · obtain rfl : k = l.length := by omega
      rw [List.take_length] at hno
      have hL : lenS l = sumS l := by unfold lenS; rw [hno]; rfl
      have HL := Lib.hid hL
      clear hno hL h
      go_wp2
      go_ret
      exact ⟨by rw [HL.out]; simp, hx0.trans hx⟩

/-- Is all of a span in a set? -/
def holdsS (l : List Sp) (f t : Int) : Bool :=
  rightB f t && (f == t || (match l[beh l f]? with
    | some s => decide (s.f ≤ f) && decide (t ≤ s.t)
    | none => false))
set_option maxHeartbeats 2000000 in
set_option maxRecDepth 100000 in
theorem holds_calls (A : Option Addr) (c : Nat) (l : List Sp) (f t : Int) (w : World) (h : SAt w A l) (hn : Norm l) (hl : l.length ≤ 1000000) :
    Calls Try.prog 57 #[.agg #[.slice A l.length c], .agg #[.int .i64 f, .int .i64 t]] w fun e w' => e = .returned (.bool (holdsS l f t)) ∧ Ext w w' := by
  have hx0 : Ext w ((w.alloc (.cells #[.slice A l.length c] 30)).alloc (.cells #[.int .i64 f, .int .i64 t] 48)) := ((Ext.refl w).alloc _).alloc _
  have hdef : holdsS l f t = (rightB f t && (f == t || (match l[beh l f]? with
    | some s => decide (s.f ≤ f) && decide (t ≤ s.t)
    | none => false))) := rfl
  have hb0 := beh_le l f
  generalize holdsS l f t = R at *
  have HD := Lib.hid hdef
  clear hdef
  go_enter Try.func57, Try.ntmps57
  go_wp2_with fail
  refine (right_calls _ _ _).mono ?_
  rintro e w1 ⟨rfl, hx⟩
  have a0 : w1.cell? ⟨w.heap.size, 0, none⟩ = some (.slice A l.length c) := hx.cell (by simp [go_sem])
  have a1 : w1.cell? ⟨w.heap.size + 1, 0, none⟩ = some (.int .i64 f) := hx.cell (by simp [go_sem])
  have a2 : w1.cell? ⟨w.heap.size + 1, 1, none⟩ = some (.int .i64 t) := hx.cell (by simp [go_sem])
  replace hx := hx0.trans hx
  clear hx0
  cases eR : rightB f t
  · have HD2 : Hid (R = false) := Lib.hid (by rw [HD.out, eR]; rfl)
    clear HD
    go_wp2
    go_ret
    exact ⟨by rw [HD2.out]; rfl, hx⟩
  · cases eE : (f == t)
    · have HD2 : Hid (R = (match l[beh l f]? with
          | some s => decide (s.f ≤ f) && decide (t ≤ s.t)
          | none => false)) := Lib.hid (by rw [HD.out, eR, eE]; rfl)
      clear HD
      have hbc := behind_calls A c l f w1 (h.ext hx) hn hl
      have HB := Lib.hid hbc
      clear hbc
      go_wp2_with fail
      refine HB.out.mono ?_
      rintro e w2 ⟨rfl, hx2⟩
      replace a0 := hx2.cell a0
      replace a1 := hx2.cell a1
      replace a2 := hx2.cell a2
      replace hx := hx.trans hx2
      clear hx2 HB
      by_cases hlt : beh l f < l.length
      · obtain ⟨b, o, rfl, p0, p1⟩ := h.ext hx _ hlt
        have hq := HD2.out
        rw [List.getElem?_eq_getElem hlt] at hq
        generalize l[beh l f] = s at *
        generalize beh l f = k at *
        have HQ : Hid (R = (decide (s.f ≤ f) && decide (t ≤ s.t))) := Lib.hid hq
        have i0 : (0 : Int) ≤ (k : Int) := by omega
        have i1 : (k : Int) < (l.length : Int) := by omega
        clear hq HD2 h
        cases e1 : decide (s.f ≤ f)
        all_goals
          go_wp2
          refine wp_region_ext_lit (by kernel_rfl) (by kernel_rfl) ?_
          intro X _ g hg hg'
          have k0 : ∀ n, (g n).cell? ⟨w.heap.size, 0, none⟩ = some (.slice (some ⟨b, o, none⟩) l.length c) := fun n => (hg n).cell a0
          have k1 : ∀ n, (g n).cell? ⟨w.heap.size + 1, 0, none⟩ = some (.int .i64 f) := fun n => (hg n).cell a1
          have k2 : ∀ n, (g n).cell? ⟨w.heap.size + 1, 1, none⟩ = some (.int .i64 t) := fun n => (hg n).cell a2
          have k3 : ∀ n, (g n).cell? ⟨b, o + k * 2, none⟩ = some (.int .i64 s.f) := fun n => (hg n).cell p0
          have k4 : ∀ n, (g n).cell? ⟨b, o + k * 2 + 1, none⟩ = some (.int .i64 s.t) := fun n => (hg n).cell p1
          repeat (go_big_quiet_step (fail))
          refine wpQuiet_nil ?_
          rintro w' ⟨n, rfl⟩
          have hxg := hg n
          clear hg hg' k0 k1 k2 k3 k4
          go_wp2
          go_ret
          exact ⟨by rw [HQ.out, e1]; rfl, hx.trans hxg⟩
      · have hk : beh l f = l.length := by omega
        have hq := HD2.out
        rw [List.getElem?_eq_none (by omega)] at hq
        have HQ : Hid (R = false) := Lib.hid hq
        clear hq HD2 h hlt hb0
        generalize beh l f = k at *
        subst hk
        go_wp2
        refine wp_region_ext_lit (by kernel_rfl) (by kernel_rfl) ?_
        intro X _ g hg hg'
        have k0 : ∀ n, (g n).cell? ⟨w.heap.size, 0, none⟩ = some (.slice A l.length c) := fun n => (hg n).cell a0
        repeat (go_big_quiet_step (fail))
        refine wpQuiet_nil ?_
        rintro w' ⟨n, rfl⟩
        have hxg := hg n
        clear hg hg' k0
        go_wp2
        go_ret
        exact ⟨by rw [HQ.out]; rfl, hx.trans hxg⟩
    · have HD2 : Hid (R = true) := Lib.hid (by rw [HD.out, eR, eE]; rfl)
      clear HD
      go_wp2
      go_ret
      exact ⟨by rw [HD2.out]; rfl, hx⟩
end Go.Proofs.Ytdcdnnbijjcfmaa
