/- What no index knows. -/
import Derived.Test.YtgcplndmhlideaaLof
namespace Go.Proofs.Ytgcplndmhlideaa
open Go.RowKit

theorem u64_key (n : Int) : ∃ k : Nat, IntKind.u64.wrap n = (k : Int) ∧ k < 2 ^ 64 := ⟨(IntKind.u64.wrap n).toNat, by rw [IntKind.wrap_u64]; omega, by rw [IntKind.wrap_u64]; omega⟩
theorem ofpost_nil (v : Int) (W : World) : Calls Try.prog 34 #[.pointer none, .int .i64 v] W (OfPost W []) := (of_nil v W W (Ext.refl W)).mono fun _ _ ⟨p, a, b, c⟩ => ⟨p, a, b.ext c, c⟩
set_option maxRecDepth 100000 in
theorem putnil_calls (v n b : Int) (w : World) : Calls Try.prog 17 #[.pointer none, .agg #[.int .i64 v, .int .i64 n], .int .i64 b] w fun e w' => e = .returned (.int .i64 6) ∧ Ext w w' := by
  have hx0 : Ext w (w.alloc (.cells #[.int .i64 v, .int .i64 n] 39)) := (Ext.refl w).alloc _
  go_enter Try.func17, Try.ntmps17
  go_wp2
  go_ret
  exact ⟨rfl, hx0⟩
set_option maxRecDepth 100000 in
theorem versnil_calls (w : World) : Calls Try.prog 26 #[.pointer none] w fun e w' => e = .returned (.slice none 0 0) ∧ Ext w w' := by
  go_enter Try.func26, Try.ntmps26
  go_wp2
  go_ret
  exact ⟨rfl, Ext.refl w⟩
set_option maxHeartbeats 1000000 in
set_option maxRecDepth 100000 in
theorem getnil_calls (v n : Int) (w : World) :
    Calls Try.prog 12 #[.pointer none, .agg #[.int .i64 v, .int .i64 n]] w fun e w' => e = .returned (gotV none) ∧ Ext w w' := by
  obtain ⟨k, hw, hk⟩ := u64_key n
  have hx0 : Ext w (w.alloc (.cells #[.int .i64 v, .int .i64 n] 39)) := (Ext.refl w).alloc _
  have e0 : (w.alloc (.cells #[.int .i64 v, .int .i64 n] 39)).cell? ⟨w.heap.size, 0, none⟩ = some (.int .i64 v) := by simp
  have e1 : (w.alloc (.cells #[.int .i64 v, .int .i64 n] 39)).cell? ⟨w.heap.size, 1, none⟩ = some (.int .i64 n) := by simp
  have hO : ∀ W, Ext (w.alloc (.cells #[.int .i64 v, .int .i64 n] 39)) W → Calls Try.prog 34 #[.pointer none, .int .i64 v] W (OfPost W []) := fun W _ => ofpost_nil v W
  have hG : ∀ W p, ItAt W p [] → Calls Try.prog 35 #[.agg #[.pointer p], .int .u64 k] W fun e w' => e = .returned (It.getV none) ∧ Ext W w' := fun W p hp => itget_calls p [] k W hp hk
  have HO := Lib.hid hO
  have HG := Lib.hid hG
  have HW := Lib.hid hw
  clear hO hG
  obtain ⟨l, hl⟩ : ∃ l : List (Pr It), [] = l := ⟨_, rfl⟩
  rw [hl] at HO HG
  clear hl
  go_enter Try.func12, Try.ntmps12
  go_upto_region 1 with (fail)
  generalize w.alloc (.cells #[.int .i64 v, .int .i64 n] 39) = W at *
  generalize hnb : w.heap.size = nb at *
  have HE := Lib.hid (Ext.refl W)
  have keep : Hid (∀ W', Ext W W' → W'.cell? ⟨nb, 0, none⟩ = some (.int .i64 v) ∧ W'.cell? ⟨nb, 1, none⟩ = some (.int .i64 n)) := Lib.hid fun W' hE => ⟨hE.cell e0, hE.cell e1⟩
  replace HG := Lib.hid (show ∀ W p, ItAt W p l → Calls Try.prog 35 #[.agg #[.pointer p], .int .u64 k] W fun e w' => e = .returned (.tuple #[.agg #[.int .i64 0, .int .i64 0], .bool false]) ∧ Ext W w' from HG.out)
  go_region_held3 (fun w' => w'.cell? ⟨nb, 0, none⟩ = some (.int .i64 v) ∧ w'.cell? ⟨nb, 1, none⟩ = some (.int .i64 n)) (exact keep.out _ (by repeat' (first | (with_reducible exact HE.out) | (with_reducible refine Ext.drew ?_) | (with_reducible refine Ext.alloc ?_ _) | (with_reducible refine Ext.setCell ?_ (by first | exact Nat.le_refl _ | assumption) _))))
    (first
      | (go_at_call 34
         refine (HO.out _ (by repeat' (first | (with_reducible exact HE.out) | (with_reducible refine Ext.drew ?_) | (with_reducible refine Ext.alloc ?_ _)))).mono ?_
         rintro e wa ⟨p, rfl, hit, hx⟩
         replace HE := Lib.hid (Ext.trans (show Ext W _ by repeat' (first | (with_reducible exact HE.out) | (with_reducible refine Ext.drew ?_) | (with_reducible refine Ext.alloc ?_ _))) hx)
         have hsa := HE.out.size
         (try (refine (fun (y0 : wa.heap[W.heap.size]? = some (.cells #[.int .i64 0, .int .i64 0] 91 (0, 0))) => ?_) ?_; rotate_left; · (exact hx.block (heap_alloc_new W _); done)))
         (try (have y1 := frozen_blk y0 0; have y2 := frozen_blk y0 1; have y3 := cell_blk y0 0 rfl; have y4 := cell_blk y0 1 rfl)))
      | (go_at_call 35
         refine (HG.out _ _ (by first | (with_reducible exact hit) | (with_reducible exact hit.ext ((Ext.refl _).alloc _)))).mono ?_
         rintro e wb ⟨rfl, hx⟩
         replace HE := Lib.hid (Ext.trans (show Ext W _ by repeat' (first | (with_reducible exact HE.out) | (with_reducible refine Ext.drew ?_) | (with_reducible refine Ext.alloc ?_ _))) hx)
         have hsb := HE.out.size
         (try (replace y0 := hx.block y0; replace y1 := frozen_blk y0 0; replace y2 := frozen_blk y0 1; replace y3 := cell_blk y0 0 rfl; replace y4 := cell_blk y0 1 rfl))
         (try (refine (fun (y0 : wb.heap[wa.heap.size]? = some (.cells #[.int .i64 0, .int .i64 0] 91 (0, 0))) => ?_) ?_; rotate_left; · (exact hx.block (heap_alloc_new wa _); done)))
         (try (have y1 := frozen_blk y0 0; have y2 := frozen_blk y0 1; have y3 := cell_blk y0 0 rfl; have y4 := cell_blk y0 1 rfl))
         (first | (have yy := y0; clear yy) | have y0 := heap_alloc_new wb (.cells #[.int .i64 0, .int .i64 0] 91))))
  all_goals
    obtain ⟨k0, k1⟩ := set2_cells y0 (.int .i64 0) (.int .i64 0)
    go_wp2_with fail
    go_quiet (fail)
    go_wp2
    refine bodyPost_ret (v := .tuple #[.int .i64 0, .int .i64 0, .bool false]) (by simp [results, Try.results12, go_sem]) rfl ⟨rfl, hx0.trans ?_⟩
    repeat' (first | (with_reducible exact HE.out) | (with_reducible refine Ext.drew ?_) | (with_reducible refine Ext.drewN ?_ _) | (with_reducible refine Ext.alloc ?_ _) | (with_reducible refine Ext.setCell ?_ (by first | exact Nat.le_refl _ | assumption) _))
set_option maxHeartbeats 1000000 in
set_option maxRecDepth 100000 in
theorem dropnil_calls (v n : Int) (w : World) :
    Calls Try.prog 18 #[.pointer none, .agg #[.int .i64 v, .int .i64 n]] w fun e w' => e = .returned (.bool false) ∧ Ext w w' := by
  obtain ⟨k, hw, hk⟩ := u64_key n
  have HGET := Lib.hid (show It.getV (getL k ([] : List (Pr It))) = .tuple #[.agg #[.int .i64 0, .int .i64 0], .bool false] from rfl)
  have hx0 : Ext w (w.alloc (.cells #[.int .i64 v, .int .i64 n] 39)) := (Ext.refl w).alloc _
  have a0 : (w.alloc (.cells #[.int .i64 v, .int .i64 n] 39)).cell? ⟨w.heap.size, 0, none⟩ = some (.int .i64 v) := by simp
  have a1 : (w.alloc (.cells #[.int .i64 v, .int .i64 n] 39)).cell? ⟨w.heap.size, 1, none⟩ = some (.int .i64 n) := by simp
  go_enter Try.func18, Try.ntmps18
  go_wp2_with fail
  generalize w.alloc (.cells #[.int .i64 v, .int .i64 n] 39) = W at *
  generalize hnb : w.heap.size = nb at *
  refine (ofpost_nil v W).mono ?_
  rintro e w3 ⟨pm, rfl, hit, hx1⟩
  replace a0 := hx1.cell a0
  replace a1 := hx1.cell a1
  replace hx0 := hx0.trans hx1
  clear hx1
  have hmb : w.heap.size ≤ w3.heap.size := hx0.size
  have HNW := Lib.hid (show w3.heap.size ≠ nb from by have := block_of_cell a0; dsimp only at this; omega)
  go_upto_region 2 with (fail)
  have hx1 : Ext w3 (w3.alloc (.cells #[.pointer pm] 95)) := (Ext.refl _).alloc _
  have mk := heap_alloc_new w3 (.cells #[.pointer pm] 95)
  have m0 : (w3.alloc (.cells #[.pointer pm] 95)).cell? ⟨w3.heap.size, 0, none⟩ = some (.pointer pm) := cell_blk mk 0 rfl
  replace a0 := hx1.cell a0
  replace a1 := hx1.cell a1
  replace hx0 := hx0.trans hx1
  replace hit := hit.ext hx1
  clear hx1
  generalize (w3.alloc (.cells #[.pointer pm] 95)) = w4 at *
  rw [hnb] at hmb
  have HMN := Lib.hid (show w3.heap.size ≠ nb from HNW.out)
  generalize w3.heap.size = mb at *
  have HI := Lib.hid hit
  have MK := Lib.hid mk
  clear hit mk
  go_wp2_with fail
  refine (itget_calls pm ([]) k w4 HI.out hk).mono ?_
  rw [HGET.out]
  rintro e w5 ⟨rfl, hx1⟩
  replace a0 := hx1.cell a0
  replace a1 := hx1.cell a1
  replace m0 := hx1.cell m0
  replace hx0 := hx0.trans hx1
  replace HI := Lib.hid (HI.out.ext hx1)
  replace MK := Lib.hid (hx1.block MK.out)
  clear hx1 HGET
  clear hw hk m0 MK
  go_wp2
  go_ret
  exact ⟨rfl, hx0.alloc _⟩
set_option maxRecDepth 100000 in
theorem forgnil_calls (v : Int) (w : World) :
    Calls Try.prog 19 #[.pointer none, .int .i64 v] w fun e w' => e = .returned (.int .i64 0) ∧ Ext w w' := by
  have hx0 : Ext w (w.alloc (.cells #[.pointer none] 24)) := (Ext.refl w).alloc _
  have a0 : (w.alloc (.cells #[.pointer none] 24)).cell? ⟨w.heap.size, 0, none⟩ = some (.pointer none) := by simp
  refine (callsIn_wide (n := 5)).1 ?_
  refine callsIn_of_wp_marks Try.func19 rfl trivial ?_ rfl
  simp only [Try.ntmps19, List.size_toArray, List.length_cons, List.length_nil, Nat.reduceAdd, Nat.reduceSub, Array.replicate_succ, Array.replicate_zero, List.push_toArray, List.append_toArray, List.nil_append, List.cons_append]
  refine wpIn_wide.2 ?_
  go_upto_region 1 with (fail)
  generalize w.alloc (.cells #[.pointer none] 24) = W at *
  go_wp2_with fail
  refine (ofpost_nil v W).mono ?_
  rintro e w3 ⟨pm, rfl, hit, hx1⟩
  replace hx0 := hx0.trans hx1
  clear hx1 a0
  go_upto_region 2 with (fail)
  have hx1 : Ext w3 (w3.alloc (.cells #[.pointer pm] 95)) := (Ext.refl _).alloc _
  have m0 : (w3.alloc (.cells #[.pointer pm] 95)).cell? ⟨w3.heap.size, 0, none⟩ = some (.pointer pm) := by simp
  replace hx0 := hx0.trans hx1
  replace hit := hit.ext hx1
  clear hx1
  generalize (w3.alloc (.cells #[.pointer pm] 95)) = w4 at *
  go_wp2_with fail
  refine (itlen_calls pm [] w4 hit).mono ?_
  rintro e w5 ⟨rfl, hx1⟩
  replace hx0 := hx0.trans hx1
  go_wp2
  exact ⟨.int .i64 0, by simp [results, Try.f19, go_sem], rfl, hx0⟩

end Go.Proofs.Ytgcplndmhlideaa
