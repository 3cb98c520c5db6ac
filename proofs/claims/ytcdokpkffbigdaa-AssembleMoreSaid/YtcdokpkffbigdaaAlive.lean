/- The law's example. -/
import Derived.Test.YtcdokpkffbigdaaLsame
namespace Go.Proofs.Ytcdokpkffbigdaa
open Go.RowKit

set_option maxRecDepth 100000 in
theorem mk_calls (a b : Int) (w : World) : Calls Try.prog 33 #[.int .i64 a, .int .i64 b] w fun e w' => e = .returned (.agg #[.int .i64 a, .int .i64 b]) ∧ Ext w w' := by
  go_enter Try.func33, Try.ntmps33
  go_wp2
  refine bodyPost_ret (v := .agg #[.int .i64 a, .int .i64 b]) (by simp [results, Try.results33, go_sem]) rfl ⟨rfl, ?_⟩
  exact (Ext.refl w).alloc _
theorem eqlSpan (a b a' b' : Int) (w : World) : (binOp .eql 37 (.agg #[.int .i64 a, .int .i64 b]) (.agg #[.int .i64 a', .int .i64 b'])).run Try.prog w = .ok (.bool (a == a' && b == b')) w := by
  have h1 : Try.prog.underlying 37 = some (.struct (Try.prog.fieldsOf 37)) := by kernel_rfl
  have h2 : Try.prog.stoodInHeld 37 = false := by kernel_rfl
  rw [run_eql_struct, run_equalIn_agg _ _ _ _ _ h1 h2]
  simp [go_sem]
  by_cases x1 : a = a' <;> by_cases x2 : b = b' <;> simp [x1, x2]
def P0 : List Pt := [⟨[97, 98], 0, 0⟩, ⟨[], 3, 9⟩, ⟨[99], 0, 0⟩]
def P1 : List Pt := [⟨[], 3, 9⟩, ⟨[99], 0, 0⟩]
def P2 : List Pt := [⟨[], 5, 9⟩, ⟨[99], 0, 0⟩]
def S0 : List Sp := [⟨3, 5⟩, ⟨7, 9⟩]
theorem p0_ok : okL P0 = true := by decide
theorem p0_nz : P0.map Pt.nz = P0 := by decide
theorem p0_left : leftS P0 = 9 := by decide
theorem p0_lok : LOk P0 := ⟨by decide, by decide, fun k hk => by
  have : k = 0 ∨ k = 1 := by simp [P0] at hk; omega
  rcases this with rfl | rfl <;> rfl⟩
theorem s0_of : ofS S0 = S0 := by decide
theorem s0_norm : Norm S0 := ⟨by decide, by decide⟩
theorem p0_next : nextS P0 S0 100 = some (⟨[97, 98], 0, 0⟩, P1, 2) := by decide
theorem p1_next : nextS P1 S0 100 = some (⟨[], 3, 5⟩, P2, 2) := by decide
theorem p2_next : nextS P2 S0 100 = none := by decide
theorem p2_at : atS P2 = (5, true) := by decide

set_option maxHeartbeats 8000000 in
set_option maxRecDepth 100000 in
theorem alive_calls (w : World) : Calls Try.prog 9 #[] w fun e w' => e = .returned (.bool true) ∧ Ext w w' := by
  go_enter Try.func9, Try.ntmps9
  go_wp2_with fail
  refine (mk_calls 3 9 _).mono ?_
  rintro e w1 ⟨rfl, hx1⟩
  have hown0 := World.ownsRow_lit (base := w1.heap.size) (size := 3) (e := 40) w1 #[.string ⟨#[97, 98]⟩, .int .i64 0, .int .i64 0, .string ⟨#[]⟩, .int .i64 3, .int .i64 9, .string ⟨#[99]⟩, .int .i64 0, .int .i64 0] 3 (Nat.le_refl _) (by simp [maxLen]) rfl
  have hPA : PAt (w1.alloc (.cells #[.string ⟨#[97, 98]⟩, .int .i64 0, .int .i64 0, .string ⟨#[]⟩, .int .i64 3, .int .i64 9, .string ⟨#[99]⟩, .int .i64 0, .int .i64 0] 40)) (some ⟨w1.heap.size, 0, none⟩) P0 := pat_of_own hown0
  have hx2 := hx1.alloc (.cells #[.string ⟨#[97, 98]⟩, .int .i64 0, .int .i64 0, .string ⟨#[]⟩, .int .i64 3, .int .i64 9, .string ⟨#[99]⟩, .int .i64 0, .int .i64 0] 40)
  have HNW := Lib.hid (new_calls (some ⟨w1.heap.size, 0, none⟩) 3 P0 _ hPA (by decide))
  clear hown0 hPA
  go_wp2_with fail
  generalize (w1.alloc (.cells #[.string ⟨#[97, 98]⟩, .int .i64 0, .int .i64 0, .string ⟨#[]⟩, .int .i64 3, .int .i64 9, .string ⟨#[99]⟩, .int .i64 0, .int .i64 0] 40)) = wd at *
  refine HNW.out.mono ?_
  rintro e wb hNP
  unfold NewPost at hNP
  rw [if_pos p0_ok, p0_nz] at hNP
  obtain ⟨hxb, pb, rfl, hB0⟩ := hNP
  have hx3 := hx2.trans hxb
  have hdb := hxb.size
  have hwd := hx2.size
  clear HNW hx1 hx2 hxb
  have hL := left_calls _ _ _ _ _ _ hB0.out p0_lok
  rw [p0_left] at hL
  have HL := Lib.hid hL
  clear hL
  go_wp2_with fail
  refine HL.out.mono ?_
  rintro e w4 ⟨rfl, hx4⟩
  have hB4 := Lib.hid (hB0.out.ext hx4)
  have hcc := Chg.of_ext (lo := wd.heap.size) (hi := wb.heap.size) hx4
  have hs4 := hx4.size
  clear HL hB0 hx4
  go_wp2_with fail
  refine (mk_calls 3 5 _).mono ?_
  rintro e w5 ⟨rfl, hx5⟩
  go_wp2_with fail
  refine (mk_calls 7 9 _).mono ?_
  rintro e w6 ⟨rfl, hx6⟩
  have hx46 := hx5.trans hx6
  have hown0 := World.ownsRow_lit (base := w6.heap.size) (size := 2) (e := 37) w6 #[.int .i64 3, .int .i64 5, .int .i64 7, .int .i64 9] 2 (Nat.le_refl _) (by simp [maxLen]) rfl
  have hSA : SAt (w6.alloc (.cells #[.int .i64 3, .int .i64 5, .int .i64 7, .int .i64 9] 37)) (some ⟨w6.heap.size, 0, none⟩) S0 := sat_of_own hown0
  have HOF := Lib.hid (of_calls (some ⟨w6.heap.size, 0, none⟩) 2 S0 _ hSA (by decide))
  have hx67 := hx46.alloc (.cells #[.int .i64 3, .int .i64 5, .int .i64 7, .int .i64 9] 37)
  clear hown0 hSA hx5 hx6 hx46
  go_wp2_with fail
  generalize (w6.alloc (.cells #[.int .i64 3, .int .i64 5, .int .i64 7, .int .i64 9] 37)) = w7 at *
  refine HOF.out.mono ?_
  rintro e w8 ⟨A, c, rfl, hS, hNA, hx8⟩
  rw [s0_of] at hS
  have hA8 : OutA wd.heap.size wb.heap.size A := fun b o e => .inr (by have := hNA.out b o e; have := hx67.size; omega)
  have hl2 : (ofS S0).length = 2 := by rw [s0_of]; rfl
  rw [hl2]
  have hx48 := hx67.trans hx8
  have hxa : Ext w8 (w8.alloc (.cells #[.slice A 2 c] 34)) := (Ext.refl _).alloc _
  have ba := heap_alloc_new w8 (.cells #[.slice A 2 c] 34)
  have hB9 := Lib.hid (hB4.out.ext (hx48.trans hxa))
  have hS9 := Lib.hid (hS.out.ext hxa)
  have hs8 := hx48.size
  replace hcc := hcc.trans (Chg.of_ext (hx48.trans hxa))
  have HN1 : Hid (∀ W, BodyAt wd.heap.size wb.heap.size W pb P0 0 → SAt W A S0 → wb.heap.size ≤ W.heap.size → Calls Try.prog 16 #[.pointer (some ⟨pb, 0, none⟩), .agg #[.slice A 2 c], .int .i64 100] W fun e w' => e = .returned (.tuple #[.agg #[.string ⟨#[97, 98]⟩, .int .i64 0, .int .i64 0], .bool true]) ∧ Hid (BodyAt wd.heap.size wb.heap.size w' pb P1 2) ∧ Chg wd.heap.size wb.heap.size W w') := Lib.hid fun W h1 h2 h3 => by
    have h := next_calls wd.heap.size wb.heap.size pb ⟨[97, 98], 0, 0⟩ P1 0 A c S0 100 W h1 h2 s0_norm (by decide) (by decide) (by decide) (by decide) (by decide) (by decide) h3
    rw [show nextS (⟨[97, 98], 0, 0⟩ :: P1) S0 100 = _ from p0_next] at h
    exact h.mono fun e w' h => h
  have HN2 : Hid (∀ W, BodyAt wd.heap.size wb.heap.size W pb P1 2 → SAt W A S0 → wb.heap.size ≤ W.heap.size → Calls Try.prog 16 #[.pointer (some ⟨pb, 0, none⟩), .agg #[.slice A 2 c], .int .i64 100] W fun e w' => e = .returned (.tuple #[.agg #[.string ⟨#[]⟩, .int .i64 3, .int .i64 5], .bool true]) ∧ Hid (BodyAt wd.heap.size wb.heap.size w' pb P2 4) ∧ Chg wd.heap.size wb.heap.size W w') := Lib.hid fun W h1 h2 h3 => by
    have h := next_calls wd.heap.size wb.heap.size pb ⟨[], 3, 9⟩ [⟨[99], 0, 0⟩] 2 A c S0 100 W h1 h2 s0_norm (by decide) (by decide) (by decide) (by decide) (by decide) (by decide) h3
    rw [show nextS (⟨[], 3, 9⟩ :: [⟨[99], 0, 0⟩]) S0 100 = _ from p1_next] at h
    exact h.mono fun e w' h => h
  have HN3 : Hid (∀ W, BodyAt wd.heap.size wb.heap.size W pb P2 4 → SAt W A S0 → wb.heap.size ≤ W.heap.size → Calls Try.prog 16 #[.pointer (some ⟨pb, 0, none⟩), .agg #[.slice A 2 c], .int .i64 100] W fun e w' => e = .returned (.tuple #[.agg #[.string ⟨#[]⟩, .int .i64 0, .int .i64 0], .bool false]) ∧ Ext W w') := Lib.hid fun W h1 h2 h3 => by
    have h := next_calls wd.heap.size wb.heap.size pb ⟨[], 5, 9⟩ [⟨[99], 0, 0⟩] 4 A c S0 100 W h1 h2 s0_norm (by decide) (by decide) (by decide) (by decide) (by decide) (by decide) h3
    rw [show nextS (⟨[], 5, 9⟩ :: [⟨[99], 0, 0⟩]) S0 100 = _ from p2_next] at h
    exact h.mono fun e w' h => h
  have hb4 : wb.heap.size ≤ w8.heap.size := by omega
  have hz9 := hxa.size
  have t4 : (w8.alloc (.cells #[.slice A 2 c] 34)).cell? ⟨w8.heap.size, 0, none⟩ = some (.slice A 2 c) := by rw [cell_of_block ba]; rfl
  have HA8 := Lib.hid hA8
  have HC9 := Lib.hid hcc
  clear HOF hS hNA hx8 hx67 hl2 hB4 hx48 ba hxa hA8 hcc
  go_wp2_with fail
  generalize (w8.alloc (.cells #[.slice A 2 c] 34)) = w9 at *
  refine (HN1.out _ hB9.out hS9.out (by omega)).mono ?_
  rintro e wx ⟨rfl, hB10, hC⟩
  have t4x := hC.cell t4 (.inr hb4)
  have hzx := hC.size
  have HS10 := Lib.hid ((hS9.out.chg hC HA8.out).ext ((Ext.refl wx).alloc (.cells #[.string ⟨#[97, 98]⟩, .int .i64 0, .int .i64 0] 40)))
  replace hB10 := Lib.hid (hB10.out.ext ((Ext.refl wx).alloc (.cells #[.string ⟨#[97, 98]⟩, .int .i64 0, .int .i64 0] 40)))
  have HC10 := Lib.hid ((HC9.out.trans hC).trans (Chg.of_ext ((Ext.refl wx).alloc (.cells #[.string ⟨#[97, 98]⟩, .int .i64 0, .int .i64 0] 40))))
  have p5 : (wx.alloc (.cells #[.string ⟨#[97, 98]⟩, .int .i64 0, .int .i64 0] 40)).cell? ⟨wx.heap.size, 0, none⟩ = some (.string ⟨#[97, 98]⟩) := by rw [cell_of_block (heap_alloc_new _ _)]; rfl
  replace t4x := ((Ext.refl wx).alloc (.cells #[.string ⟨#[97, 98]⟩, .int .i64 0, .int .i64 0] 40)).cell t4x
  have hz10 := ((Ext.refl wx).alloc (.cells #[.string ⟨#[97, 98]⟩, .int .i64 0, .int .i64 0] 40)).size
  have hbx : wb.heap.size ≤ wx.heap.size := by omega
  clear t4 hC HN1 hB9 hS9 HC9
  go_wp2_with fail
  generalize (wx.alloc (.cells #[.string ⟨#[97, 98]⟩, .int .i64 0, .int .i64 0] 40)) = w10 at *
  refine (HN2.out _ hB10.out HS10.out (by omega)).mono ?_
  rintro e wy ⟨rfl, hB11, hC⟩
  have t4y := hC.cell t4x (.inr hb4)
  have hzy := hC.size
  replace p5 := hC.cell p5 (.inr hbx)
  have HS11 := Lib.hid ((HS10.out.chg hC HA8.out).ext ((Ext.refl wy).alloc (.cells #[.string ⟨#[]⟩, .int .i64 3, .int .i64 5] 40)))
  replace hB11 := Lib.hid (hB11.out.ext ((Ext.refl wy).alloc (.cells #[.string ⟨#[]⟩, .int .i64 3, .int .i64 5] 40)))
  have HC11 := Lib.hid ((HC10.out.trans hC).trans (Chg.of_ext ((Ext.refl wy).alloc (.cells #[.string ⟨#[]⟩, .int .i64 3, .int .i64 5] 40))))
  have q1 : (wy.alloc (.cells #[.string ⟨#[]⟩, .int .i64 3, .int .i64 5] 40)).cell? ⟨wy.heap.size, 1, none⟩ = some (.int .i64 3) := by rw [cell_of_block (heap_alloc_new _ _)]; rfl
  have q2 : (wy.alloc (.cells #[.string ⟨#[]⟩, .int .i64 3, .int .i64 5] 40)).cell? ⟨wy.heap.size, 2, none⟩ = some (.int .i64 5) := by rw [cell_of_block (heap_alloc_new _ _)]; rfl
  replace t4y := ((Ext.refl wy).alloc (.cells #[.string ⟨#[]⟩, .int .i64 3, .int .i64 5] 40)).cell t4y
  replace p5 := ((Ext.refl wy).alloc (.cells #[.string ⟨#[]⟩, .int .i64 3, .int .i64 5] 40)).cell p5
  have hz11 := ((Ext.refl wy).alloc (.cells #[.string ⟨#[]⟩, .int .i64 3, .int .i64 5] 40)).size
  clear t4x hC HN2 hB10 HS10 HC10
  go_wp2_with fail
  generalize (wy.alloc (.cells #[.string ⟨#[]⟩, .int .i64 3, .int .i64 5] 40)) = w11 at *
  refine (HN3.out _ hB11.out HS11.out (by omega)).mono ?_
  rintro e wz ⟨rfl, hx⟩
  replace hx := hx.alloc (.cells #[.string ⟨#[]⟩, .int .i64 0, .int .i64 0] 40)
  replace hB11 := Lib.hid (hB11.out.ext hx)
  have HC12 := Lib.hid (HC11.out.trans (Chg.of_ext hx))
  replace p5 := hx.cell p5
  replace q1 := hx.cell q1
  replace q2 := hx.cell q2
  have HAT := Lib.hid (at_calls _ _ _ _ _ _ hB11.out (by decide))
  clear t4y hx HN3 HS11 HC11
  go_wp2_with fail
  generalize (wz.alloc (.cells #[.string ⟨#[]⟩, .int .i64 0, .int .i64 0] 40)) = w12 at *
  refine HAT.out.mono ?_
  rintro e w13 ⟨he, hx⟩
  rw [p2_at] at he
  subst he
  replace hB11 := Lib.hid (hB11.out.ext hx)
  have HC13 := Lib.hid (HC12.out.trans (Chg.of_ext hx))
  replace p5 := hx.cell p5
  replace q1 := hx.cell q1
  replace q2 := hx.cell q2
  clear hx HAT HC12
  go_wp2
  refine wp_region_ext_lit (by kernel_rfl) (by kernel_rfl) ?_
  intro X _ g hg hg'
  have P5 : ∀ n, (g n).cell? ⟨wx.heap.size, 0, none⟩ = some (.string ⟨#[97, 98]⟩) := fun n => (hg n).cell p5
  have Q1 : ∀ n, (g n).cell? ⟨wy.heap.size, 1, none⟩ = some (.int .i64 3) := fun n => (hg n).cell q1
  have Q2 : ∀ n, (g n).cell? ⟨wy.heap.size, 2, none⟩ = some (.int .i64 5) := fun n => (hg n).cell q2
  have hq := eqlSpan 3 5 3 5
  simp only [beq_self_eq_true, Bool.and_self] at hq
  have hg50 := guardSpan
  repeat (go_big_quiet_step (first
    | (go_at_call 33; exact (mk_calls 3 5 _).mono fun e w2 ⟨he, hx⟩ => ⟨he, hg' _ ((hg _).trans hx)⟩)
    | (go_at_call 15; exact (sent_calls _ _ _ _ _ _ (hB11.out.ext (hg _))).mono fun e w2 ⟨he, hx⟩ => ⟨he, hg' _ (by rw [hx]; exact hg _)⟩)))
  refine wpQuiet_nil ?_
  rintro w14 ⟨n, rfl⟩
  have hcf := HC13.out.trans (Chg.of_ext (hg n))
  go_wp2
  go_ret
  exact ⟨rfl, hcf.ext hx3 hwd⟩
end Go.Proofs.Ytcdokpkffbigdaa
