/- SliceParts: the walk. -/
import Derived.Test.YtoahjhkfnchdhaaLawSpans
import Derived.Test.YtoahjhkfnchdhaaRefq
namespace Go.Proofs.Ytoahjhkfnchdhaa
open Go.RowKit

theorem firstPts_len (f t u m : Int) (h0 : 0 ≤ m) : ((firstPts f t u m).length : Int) ≤ m := by
  unfold firstPts
  have := List.length_take_le m.toNat (partsL f t u)
  omega
/-- A slice that shows parts. -/
def PtAt (w : World) (A : Option Addr) (l : List Pt) : Prop := ∀ k (hk : k < l.length), ∃ b o, A = some ⟨b, o, none⟩ ∧ w.cell? ⟨b, o + k * 3, none⟩ = some (.int .i64 l[k].no) ∧ w.cell? ⟨b, o + k * 3 + 1, none⟩ = some (.int .i64 l[k].s.f) ∧ w.cell? ⟨b, o + k * 3 + 2, none⟩ = some (.int .i64 l[k].s.t)
theorem PtAt.ext {w w' : World} {A : Option Addr} {l : List Pt} (h : PtAt w A l) (hx : Ext w w') : PtAt w' A l := fun k hk => by
  obtain ⟨b, o, e, p0, p1, p2⟩ := h k hk
  exact ⟨b, o, e, hx.cell p0, hx.cell p1, hx.cell p2⟩
theorem flatPt_get (l : List Pt) (k j : Nat) (h : k < l.length) (hj : j < 3) : (flatPt l)[k * 3 + j]? = (Pt.cells l[k])[j]? := by
  induction l generalizing k with
  | nil => simp at h
  | cons r l ih =>
    have e : flatPt (r :: l) = Pt.cells r ++ flatPt l := by simp [flatPt]
    have hl : (Pt.cells r).length = 3 := rfl
    rw [e]
    rcases k with _ | k
    · rw [List.getElem?_append_left (by rw [hl]; omega)]
      simp
    · rw [List.getElem?_append_right (by rw [hl]; omega), hl, show (k + 1) * 3 + j - 3 = k * 3 + j from by omega, ih k (by simpa using h)]
      simp
theorem ptAt_of_own {w : World} {base : Nat} {e : TypeId} {A : Option Addr} {n c : Nat} {l : List Pt} (h : w.ownsRow base e 3 (.slice A n c) n (flatPt l)) : PtAt w A l := fun k hk => by
  have hn : n = l.length := by have := h.1; rw [flatPt_length] at this; omega
  subst hn
  obtain ⟨g, cap, hv, _, _⟩ := h.form (by omega)
  cases hv
  refine ⟨g, 0, rfl, ?_, ?_, ?_⟩
  all_goals rw [Nat.zero_add]
  · rw [h.cellAt _ (by omega)]; exact (flatPt_get l k 0 hk (by omega)).trans rfl
  · rw [h.cellAt _ (by omega)]; exact (flatPt_get l k 1 hk (by omega)).trans rfl
  · rw [h.cellAt _ (by omega)]; exact (flatPt_get l k 2 hk (by omega)).trans rfl

set_option maxHeartbeats 2000000 in
set_option maxRecDepth 100000 in
theorem lawParts_calls (f t u m : Int) (w : World) :
    Calls Try.prog 4 #[.agg #[.int .i64 f, .int .i64 t], .int .i64 u, .int .i64 m] w fun e w' => e = .returned (.bool true) ∧ Ext w w' := by
  have b0 := heap_alloc_new w (.cells #[.int .i64 f, .int .i64 t] 24)
  have hx0 : Ext w (w.alloc (.cells #[.int .i64 f, .int .i64 t] 24)) := (Ext.refl w).alloc _
  by_cases hg : 0 ≤ m ∧ m ≤ 40
  · obtain ⟨m0, m1⟩ := hg
    have hl := firstPts_len f t u m m0
    have hA := fun W => partsl_calls f t u m m1 W
    have hB := fun W => refparts_calls f t u m m0 m1 W
    generalize firstPts f t u m = L at *
    have HA := Lib.hid hA
    have HB := Lib.hid hB
    clear hA hB
    go_enter Try.func4, Try.ntmps4
    go_wp2_with (first
      | (go_at_call 11; refine (awake_calls _).mono ?_; rintro e w1 ⟨rfl, hx1⟩))
    replace b0 := hx1.block b0
    replace hx0 := hx0.trans hx1
    have c0 : w1.cell? ⟨w.heap.size, 0, none⟩ = some (.int .i64 f) := by rw [cell_of_row _ _ _ _ _ _ b0]; rfl
    have c1 : w1.cell? ⟨w.heap.size, 1, none⟩ = some (.int .i64 t) := by rw [cell_of_row _ _ _ _ _ _ b0]; rfl
    have HE := Lib.hid (Ext.refl w1).drew
    clear b0 hx1
    go_region_held3 (fun w' => w'.cell? ⟨w.heap.size, 0, none⟩ = some (.int .i64 f) ∧ w'.cell? ⟨w.heap.size, 1, none⟩ = some (.int .i64 t))
      ((refine (fun hE => ⟨Ext.cell hE c0, Ext.cell hE c1⟩ : Ext w1 _ → _) ?_
        (first | exact HE.out | exact HE.out.trans hxA | exact (HE.out.trans hxA).trans hxB | exact HE.out.trans hxB)))
      (first
        | (go_at_call 18
           refine (HA.out _).mono ?_
           rintro e w2 ⟨vA, rfl, hA, hxA⟩
           obtain ⟨A1, k1, rfl, _⟩ := own_shape hA
           replace hA := Lib.hid (ptAt_of_own hA))
        | (go_at_call 19
           refine (HB.out _).mono ?_
           rintro e w3 ⟨vB, rfl, hB, hxB⟩
           obtain ⟨A2, k2, rfl, _⟩ := own_shape hB
           replace hB := Lib.hid (ptAt_of_own hB)))
    have hA2 := Lib.hid (hA.out.ext hxB)
    have hxw := ((hx0.trans HE.out).trans hxA).trans hxB
    clear hA HA HB hxA hxB hx0 c0 c1 HE
    go_wp2
    go_loopw [36] (fun i wr => ∃ k : Nat, k ≤ L.length ∧ i = .int .i64 k ∧ Ext w3 wr) (fun i _ => L.length - (intOf i).toNat)
    case atStart => exact ⟨0, Nat.zero_le _, rfl, Ext.refl _⟩
    case round =>
      obtain ⟨k, hk, rfl, hx⟩ := hrel
      by_cases hlt : k < L.length
      · obtain ⟨b1, o1, rfl, p0, p1, p2⟩ := (hA2.out.ext hx) k hlt
        obtain ⟨b2, o2, rfl, q0, q1, q2⟩ := (hB.out.ext hx) k hlt
        generalize L[k] = x at *
        have i1 : (k : Int) < (L.length : Int) := by omega
        have i0 : (0 : Int) ≤ (k : Int) := by omega
        clear hA2 hB
        go_wp2
        refine wp_region_ext_lit (by kernel_rfl) (by kernel_rfl) ?_
        intro X _ g hg hg'
        have k0 : ∀ n, (g n).cell? ⟨b1, o1 + k * 3, none⟩ = some (.int .i64 x.no) := fun n => (hg n).cell p0
        have k1 : ∀ n, (g n).cell? ⟨b1, o1 + k * 3 + 1, none⟩ = some (.int .i64 x.s.f) := fun n => (hg n).cell p1
        have k2 : ∀ n, (g n).cell? ⟨b1, o1 + k * 3 + 2, none⟩ = some (.int .i64 x.s.t) := fun n => (hg n).cell p2
        have k3 : ∀ n, (g n).cell? ⟨b2, o2 + k * 3, none⟩ = some (.int .i64 x.no) := fun n => (hg n).cell q0
        have k4 : ∀ n, (g n).cell? ⟨b2, o2 + k * 3 + 1, none⟩ = some (.int .i64 x.s.f) := fun n => (hg n).cell q1
        have k5 : ∀ n, (g n).cell? ⟨b2, o2 + k * 3 + 2, none⟩ = some (.int .i64 x.s.t) := fun n => (hg n).cell q2
        repeat (go_big_quiet_step (fail))
        refine wpQuiet_nil ?_
        rintro w' ⟨n, rfl⟩
        have hxg := hg n
        clear hg hg' k0 k1 k2 k3 k4 k5
        go_wp2
        go_roundw
        case rel => exact ⟨k + 1, by omega, by go_num, hx.trans hxg⟩
        case measure => simp [intOf]; omega
      · obtain rfl : k = L.length := by omega
        go_wp2
        go_ret
        exact ⟨rfl, hxw.trans hx⟩
  · have h : m < 0 ∨ 40 < m := by omega
    clear hg b0
    rcases h with h | h
    all_goals
      go_enter Try.func4, Try.ntmps4
      go_wp2_with (first
        | (go_at_call 11; refine (awake_calls _).mono ?_; rintro e w1 ⟨rfl, hx1⟩; replace hx0 := hx0.trans hx1))
      go_ret
      exact ⟨rfl, hx0⟩
end Go.Proofs.Ytoahjhkfnchdhaa
