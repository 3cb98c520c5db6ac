/- The contracts of Sketch.Count and Sketch.Add. -/
import Derived.Test.YtmcddajniiaieaaDoorSk
namespace Go.Proofs.YtmcddajniiaieaaDoor
open Go.RowKit

theorem SkAt.ext {w w' : World} {B sb : Nat} {m : Int} (h : SkAt w B sb m) (hx : Ext w w') : SkAt w' B sb m := by
  obtain ⟨⟨R, c, hb, ⟨cs, hR, hrow⟩⟩, h2⟩ := h
  exact ⟨⟨R, c, hx.block hb, cs, hx.block hR, fun i hi => by
    obtain ⟨r, ci, ds, h1, h2, h3, h4⟩ := hrow i hi
    exact ⟨r, ci, ds, h1, h2, hx.block h3, h4⟩⟩, h2⟩
theorem SkAt.kp_ {w w' : World} {B sb : Nat} {m : Int} {B' : Nat} {T : List TypeId} {M : List Nat} (h : SkAt w B sb m) (hk : Kp B' T M w w') (h1 : 100 ∉ T) (h2 : 28 ∉ T) (h3 : 2 ∉ T) : SkAt w' B sb m := by
  obtain ⟨⟨R, c, hb, ⟨cs, hR, hrow⟩⟩, k2⟩ := h
  exact ⟨⟨R, c, hk.cells hb h1, cs, hk.cells hR h2, fun i hi => by
    obtain ⟨r, ci, ds, h1, h2, h4, h5⟩ := hrow i hi
    exact ⟨r, ci, ds, h1, h2, hk.cells h4 h3, h5⟩⟩, k2⟩
theorem SkAt.setR {w : World} {B sb r : Nat} {m : Int} {ds : Array Value} (h : SkAt w B sb m) (hr : w.heap[r]? = some (.cells ds 2 (0, 0))) (j : Nat) (v : Int) : SkAt (w.setCell ⟨r, j, none⟩ (.int .i64 v)) B sb m := by
  obtain ⟨⟨R, c, hb, ⟨cs, hR, hrow⟩⟩, k2⟩ := h
  refine ⟨⟨R, c, (set_far _ (ne_of_ty hb hr (by decide))).trans hb, cs, (set_far _ (ne_of_ty hR hr (by decide))).trans hR, fun i hi => ?_⟩, k2⟩
  obtain ⟨r', ci, ds', h1, h2, h3, h4⟩ := hrow i hi
  by_cases e : r' = r
  · subst e
    rw [hr] at h3
    cases h3
    refine ⟨r', ci, _, h1, h2, set_blk hr _, fun l hl => ?_⟩
    obtain ⟨n, hn⟩ := h4 l hl
    by_cases e2 : j = l
    · subst e2
      exact ⟨v, by rw [Array.getElem?_setIfInBounds]; have := (Array.getElem?_eq_some_iff.1 hn).1; simp [this]⟩
    · exact ⟨n, by rw [Array.getElem?_setIfInBounds, if_neg e2]; exact hn⟩
  · exact ⟨r', ci, ds', h1, h2, (set_far _ e).trans h3, h4⟩
theorem SkAt.setM {w : World} {B sb : Nat} {m : Int} (h : SkAt w B sb m) (n : Int) : SkAt (w.setCell ⟨sb, 2, none⟩ (.int .i64 n)) B sb n := by
  obtain ⟨⟨R, c, hb, ⟨cs, hR, hrow⟩⟩, k2⟩ := h
  refine ⟨⟨R, c, (set_blk hb _).trans rfl, cs, (set_far _ (ne_of_ty hR hb (by decide))).trans hR, fun i hi => ?_⟩, k2⟩
  obtain ⟨r', ci, ds', h1, h2, h3, h4⟩ := hrow i hi
  exact ⟨r', ci, ds', h1, h2, (set_far _ (ne_of_ty h3 hb (by decide))).trans h3, h4⟩
def skTs : List TypeId := [100, 2]

set_option maxHeartbeats 1000000 in
set_option maxRecDepth 100000 in
theorem count_calls (B sb : Nat) (m : Int) (k : Int) (w : World) (h : SkAt w B sb m) (hk : 0 ≤ k ∧ k < 18446744073709551616) :
    Calls Tryd.prog 23 #[.pointer (some ⟨sb, 0, none⟩), .int .u64 k] w fun e w' => (∃ n, e = .returned (.int .i64 n)) ∧ Ext w w' := by
  obtain ⟨R, c, hb, -⟩ := h.ex
  have l0 : w.cell? ⟨sb, 0, none⟩ = some (.slice (some ⟨R, 0, none⟩) 4 c) := blk_cell hb 0 rfl
  have H := Lib.hid h
  have HK := Lib.hid hk
  clear h hb hk
  go_enter Tryd.func23, Tryd.ntmps23
  go_wp2
  go_loopw [5, 13] (fun s i wr => (∃ n, s = .int .i64 n) ∧ (∃ k : Nat, k ≤ 4 ∧ i = .int .i64 k) ∧ Ext w wr) (fun _ i _ => 4 - (intOf i).toNat)
  case atStart => exact ⟨⟨0, rfl⟩, ⟨0, Nat.zero_le _, rfl⟩, Ext.refl w⟩
  case round =>
    obtain ⟨⟨n, rfl⟩, ⟨i, hi, rfl⟩, hx⟩ := hrel
    by_cases hlt : i < 4
    · have HC := Lib.hid (counter_calls B sb m i k wr (H.out.ext hx) hlt HK.out)
      go_wp2_with fail
      refine HC.out.mono ?_
      rintro e w2 ⟨⟨r, j, ds, rfl, hB, hj, hr, n2, hn2⟩, hx2⟩
      have c0 : w2.cell? ⟨r, j, none⟩ = some (.int .i64 n2) := hx2.cell (blk_cell hr j hn2)
      have HX := Lib.hid (hx.trans hx2)
      clear hr hn2 hx hx2 HC
      cases e0 : ((i : Int) == 0)
      · cases e1 : decide (n2 < n)
        · have e2 : ¬ n2 < n := by simpa using e1
          go_wp2
          go_roundw
          case rel => exact ⟨⟨_, rfl⟩, ⟨i + 1, by omega, by go_num⟩, HX.out⟩
          case measure => simp [intOf] <;> omega
        · have e2 : n2 < n := by simpa using e1
          go_wp2
          go_roundw
          case rel => exact ⟨⟨_, rfl⟩, ⟨i + 1, by omega, by go_num⟩, HX.out⟩
          case measure => simp [intOf] <;> omega
      · go_wp2
        go_roundw
        case rel => exact ⟨⟨_, rfl⟩, ⟨i + 1, by omega, by go_num⟩, HX.out⟩
        case measure => simp [intOf] <;> omega
    · obtain rfl : i = 4 := by omega
      go_wp2
      go_ret
      exact ⟨⟨n, rfl⟩, hx⟩

set_option maxHeartbeats 1000000 in
set_option maxRecDepth 100000 in
theorem skadd_calls (B sb : Nat) (m : Int) (k : Int) (w : World) (h : SkAt w B sb m) (hm : 0 ≤ m ∧ m < 16000) (hk : 0 ≤ k ∧ k < 18446744073709551616) :
    Calls Tryd.prog 19 #[.pointer (some ⟨sb, 0, none⟩), .int .u64 k] w fun e w' => e = .returned (.tuple #[]) ∧ SkAt w' B sb (m + 1) ∧ Kp B skTs [] w w' := by
  obtain ⟨R, c, hb, -⟩ := h.ex
  have l0 : w.cell? ⟨sb, 0, none⟩ = some (.slice (some ⟨R, 0, none⟩) 4 c) := blk_cell hb 0 rfl
  have H := Lib.hid h
  have HK := Lib.hid hk
  have HM := Lib.hid hm
  clear h hb hk hm
  go_enter Tryd.func19, Tryd.ntmps19
  go_wp2
  go_loopw [10] (fun i wr => (∃ k : Nat, k ≤ 4 ∧ i = .int .i64 k) ∧ SkAt wr B sb m ∧ Kp B skTs [] w wr) (fun i _ => 4 - (intOf i).toNat)
  case atStart => exact ⟨⟨0, Nat.zero_le _, rfl⟩, H.out, Kp.refl _ _ _ _⟩
  case round =>
    obtain ⟨⟨i, hi, rfl⟩, hs, hkp⟩ := hrel
    by_cases hlt : i < 4
    · have HC := Lib.hid (counter_calls B sb m i k wr hs hlt HK.out)
      have HS := Lib.hid hs
      have HKP := Lib.hid hkp
      clear hs hkp
      go_wp2_with fail
      refine HC.out.mono ?_
      rintro e w2 ⟨⟨r, j, ds, rfl, hB, hj, hr, n2, hn2⟩, hx2⟩
      have hr2 := hx2.block hr
      have c0 : w2.cell? ⟨r, j, none⟩ = some (.int .i64 n2) := blk_cell hr2 j hn2
      have f0 : w2.frozen? ⟨r, j, none⟩ = false := blk_frozen hr2 j
      have HR := Lib.hid hr2
      have HS2 := Lib.hid (HS.out.ext hx2)
      have HKP2 := Lib.hid (HKP.out.ext hx2)
      clear hr hn2 hx2 HC hr2 HS HKP
      obtain ⟨n3, hn3⟩ : ∃ z, IntKind.i64.wrap (n2 + 1) = z := ⟨_, rfl⟩
      go_wp2
      go_roundw
      case rel => exact ⟨⟨i + 1, by omega, by go_num⟩, HS2.out.setR HR.out j _, HKP2.out.set HR.out (by decide) hB _ _⟩
      case measure => simp [intOf] <;> omega
    · obtain rfl : i = 4 := by omega
      obtain ⟨R, c, hb, -⟩ := hs.ex
      have l2 : wr.cell? ⟨sb, 2, none⟩ = some (.int .i64 m) := blk_cell hb 2 rfl
      have l1 : wr.cell? ⟨sb, 1, none⟩ = some (.int .i64 16384) := blk_cell hb 1 rfl
      have f2 : wr.frozen? ⟨sb, 2, none⟩ = false := blk_frozen hb 2
      have HS := Lib.hid (hs.setM (m + 1))
      have HKP := Lib.hid (hkp.set hb (by decide) hs.sb 2 (.int .i64 (m + 1)))
      have hw : IntKind.i64.wrap (m + 1) = m + 1 := IntWalk.i64_in _ (by have := HM.out; omega)
      have hne : (m + 1 == 16384) = false := by have := HM.out; simp; omega
      have hne2 : ¬ m + 1 = 16384 := by have := HM.out; omega
      clear hb hs hkp
      go_wp2
      go_quiet (fail)
      go_wp2
      go_end0
      exact ⟨rfl, HS.out.ext ((Ext.refl _).drewN _), HKP.out.ext ((Ext.refl _).drewN _)⟩
end Go.Proofs.YtmcddajniiaieaaDoor
