/- The walk of AssembleSeals. -/
import Derived.Test.YtcdokpkffbigdaaPrs
namespace Go.Proofs.Ytcdokpkffbigdaa
open Go.RowKit

theorem u8_bd {n : Int} (h : (Lit.int .u8 n).wf = true) : 0 ≤ n ∧ n ≤ 255 := by
  have e1 : IntKind.u8.min = 0 := by decide
  have e2 : IntKind.u8.max = 255 := by decide
  simp [Lit.wf] at h
  rw [e1, e2] at h
  omega
theorem all_of : ofS [⟨0, 4611686018427387904⟩] = [⟨0, 4611686018427387904⟩] := by decide
theorem all_norm : Norm [⟨0, 4611686018427387904⟩] := ⟨by decide, by decide⟩
theorem all_first (x : Int) (h : 0 ≤ x) (h2 : x < 4611686018427387904) : firstS [⟨0, 4611686018427387904⟩] x = some ⟨x, 4611686018427387904⟩ := by
  have e : beh [⟨0, 4611686018427387904⟩] x = 0 := beh_of (Nat.zero_le _) (fun i _ hi => absurd hi (by omega)) (fun i hi _ => by
    have : i = 0 := by simpa using hi
    subst this
    exact h2)
  unfold firstS
  rw [e]
  simp
  omega
theorem nil_lok : LOk [] := ⟨by decide, by simp, fun k hk => by simp at hk⟩
theorem rest_lok {x : Int} (h : 0 ≤ x) (h2 : x < 4611686018427387904) : LOk [⟨[], x, 4611686018427387904⟩] := ⟨by simp, by simp; omega, fun k hk => by simp at hk⟩
theorem rest_left {x : Int} : leftS [⟨[], x, 4611686018427387904⟩] = -1 := by simp [leftS, Pt.open_]
theorem shut_lok {x e : Int} (h : 0 ≤ x) (h2 : x < e) (h3 : e ≤ 1099511627776) : LOk [⟨[], x, e⟩] := ⟨by simp, by simp; omega, fun k hk => by simp at hk⟩
theorem shut_left {x e : Int} (h3 : e ≤ 1099511627776) : leftS [⟨[], x, e⟩] = e - x := by
  have : ¬ e = 4611686018427387904 := by omega
  simp [leftS, Pt.open_, this, sumS, Pt.size]
theorem seal_one (x e t : Int) : sealS [⟨[], x, t⟩] e = if t = 4611686018427387904 then (if e < 0 ∨ 1099511627776 < e then ([⟨[], x, t⟩], 1) else if e < x then ([⟨[], x, t⟩], 11) else ((if x = e then [] else [⟨[], x, e⟩]), 0)) else ([⟨[], x, t⟩], 6) := by
  have := sealS_snoc [] ⟨[], x, t⟩ e
  simp only [List.nil_append] at this
  rw [this]
  by_cases ht : t = 4611686018427387904 <;> simp [Pt.open_, ht]
theorem seal_early {x e : Int} (h1 : 0 ≤ e) (h2 : e ≤ 1099511627776) (h : e < x) : sealS [⟨[], x, 4611686018427387904⟩] e = ([⟨[], x, 4611686018427387904⟩], 11) := by
  rw [seal_one, if_pos rfl, if_neg (by omega), if_pos h]
theorem seal_at {x : Int} (h1 : 0 ≤ x) (h2 : x ≤ 1099511627776) : sealS [⟨[], x, 4611686018427387904⟩] x = ([], 0) := by
  rw [seal_one, if_pos rfl, if_neg (by omega), if_neg (by omega), if_pos rfl]
theorem seal_late {x e : Int} (h1 : 0 ≤ e) (h2 : e ≤ 1099511627776) (h : x < e) : sealS [⟨[], x, 4611686018427387904⟩] e = ([⟨[], x, e⟩], 0) := by
  rw [seal_one, if_pos rfl, if_neg (by omega), if_neg (by omega), if_neg (by omega)]
theorem seal_shut {x e : Int} (h2 : e ≤ 1099511627776) : sealS [⟨[], x, e⟩] e = ([⟨[], x, e⟩], 6) := by
  rw [seal_one, if_neg (by omega)]
theorem next_span (x t m : Int) (h0 : 0 ≤ x) (h1 : x < t) (h2 : t ≤ 4611686018427387904) (hm : 1 ≤ m) : nextS [⟨[], x, t⟩] [⟨0, 4611686018427387904⟩] m = some (⟨[], x, x + min (t - x) m⟩, restS ⟨[], x + min (t - x) m, t⟩ [], min (t - x) m) := by
  have hc : canS ⟨[], x, t⟩ [⟨0, 4611686018427387904⟩] = t - x := by
    unfold canS
    simp only [if_true]
    rw [all_first x h0 (by omega)]
    simp only [if_true]
    omega
  simp only [nextS, hc]
  rw [if_neg (by omega)]
  rfl
theorem first_next (a : Int) (h0 : 0 ≤ a) (h1 : a ≤ 255) : ROk [⟨[120], 0, 0⟩, ⟨[], a, 4611686018427387904⟩] ∧ (0 ≤ (0 : Int) ∧ 0 + sumS [⟨[120], 0, 0⟩, ⟨[], a, 4611686018427387904⟩] ≤ 9000000000000000000) ∧ nextS [⟨[120], 0, 0⟩, ⟨[], a, 4611686018427387904⟩] [⟨0, 4611686018427387904⟩] 1 = some (⟨[120], 0, 0⟩, [⟨[], a, 4611686018427387904⟩], 1) := by
  refine ⟨⟨by simp, by simp; omega⟩, ⟨Int.le_refl _, by simp [sumS, Pt.size]; omega⟩, ?_⟩
  simp [nextS, canS, cutA, cutB, restS, Pt.isE]
theorem more_next (a n : Int) (h0 : 0 ≤ a) (h1 : a ≤ 255) (h2 : 0 < n) (h3 : n ≤ 255) : ROk [⟨[], a, 4611686018427387904⟩] ∧ (0 ≤ (1 : Int) ∧ 1 + sumS [⟨[], a, 4611686018427387904⟩] ≤ 9000000000000000000) ∧ nextS [⟨[], a, 4611686018427387904⟩] [⟨0, 4611686018427387904⟩] n = some (⟨[], a, a + n⟩, [⟨[], a + n, 4611686018427387904⟩], n) := by
  refine ⟨⟨by simp, by simp; omega⟩, ⟨by omega, by simp [sumS, Pt.size]; omega⟩, ?_⟩
  rw [next_span a _ n h0 (by omega) (Int.le_refl _) (by omega)]
  have hmin : min (4611686018427387904 - a) n = n := by omega
  rw [hmin]
  have : ¬ a + n = 4611686018427387904 := by omega
  simp [restS, Pt.isE, this]
theorem last_next (x e m : Int) (h0 : 0 ≤ x) (h1 : x < e) (h2 : e ≤ 1099511627776) (h3 : 0 ≤ m ∧ m ≤ 1000) : ROk [⟨[], x, e⟩] ∧ (0 ≤ m ∧ m + sumS [⟨[], x, e⟩] ≤ 9000000000000000000) ∧ nextS [⟨[], x, e⟩] [⟨0, 4611686018427387904⟩] 4611686018427387904 = some (⟨[], x, e⟩, [], e - x) := by
  refine ⟨⟨by simp, by simp; omega⟩, ⟨by omega, by simp [sumS, Pt.size]; omega⟩, ?_⟩
  rw [next_span x e _ h0 h1 (by omega) (by omega)]
  have hmin : min (e - x) 4611686018427387904 = e - x := by omega
  have hxe : x + (e - x) = e := by omega
  rw [hmin, hxe]
  simp [restS, Pt.isE]

set_option maxHeartbeats 16000000 in
set_option maxRecDepth 100000 in
theorem lawSeals_calls (a n e : Int) (w : World) (ha0 : (Lit.int .u8 a).wf = true) (hn0 : (Lit.int .u8 n).wf = true) (he0 : (Lit.int .u8 e).wf = true) :
    Calls Try.prog 4 #[.int .u8 a, .int .u8 n, .int .u8 e] w fun e w' => e = .returned (.bool true) ∧ Ext w w' := by
  obtain ⟨ha1, ha2⟩ := u8_bd ha0
  obtain ⟨hn1, hn2⟩ := u8_bd hn0
  obtain ⟨he1, he2⟩ := u8_bd he0
  clear ha0 hn0 he0
  go_enter Try.func4, Try.ntmps4
  go_wp2_with fail
  refine (alive_calls _).mono ?_
  rintro e' w1 ⟨rfl, hx1⟩
  have hown0 := World.ownsRow_lit (base := w1.heap.size) (size := 3) (e := 40) w1 #[.string ⟨#[120]⟩, .int .i64 0, .int .i64 0, .string ⟨#[]⟩, .int .i64 a, .int .i64 4611686018427387904] 2 (Nat.le_refl _) (by simp [maxLen]) rfl
  have hPA : PAt (w1.alloc (.cells #[.string ⟨#[120]⟩, .int .i64 0, .int .i64 0, .string ⟨#[]⟩, .int .i64 a, .int .i64 4611686018427387904] 40)) (some ⟨w1.heap.size, 0, none⟩) [⟨[120], 0, 0⟩, ⟨[], a, 4611686018427387904⟩] := pat_of_own hown0
  have hx2 := hx1.alloc (.cells #[.string ⟨#[120]⟩, .int .i64 0, .int .i64 0, .string ⟨#[]⟩, .int .i64 a, .int .i64 4611686018427387904] 40)
  have HNW := Lib.hid (new_calls (some ⟨w1.heap.size, 0, none⟩) 2 [⟨[120], 0, 0⟩, ⟨[], a, 4611686018427387904⟩] _ hPA (by simp))
  clear hown0 hPA
  go_wp2_with fail
  generalize (w1.alloc (.cells #[.string ⟨#[120]⟩, .int .i64 0, .int .i64 0, .string ⟨#[]⟩, .int .i64 a, .int .i64 4611686018427387904] 40)) = wd at *
  refine HNW.out.mono ?_
  rintro e' wb hNP
  unfold NewPost at hNP
  have hok : okL [⟨[120], 0, 0⟩, ⟨[], a, 4611686018427387904⟩] = true := by
    have h1 : ¬ a = 4611686018427387904 := by omega
    simp [okL, Pt.okB, rightB, h1]
    omega
  rw [if_pos hok] at hNP
  obtain ⟨hxb, pb, rfl, hB0⟩ := hNP
  have hx0 := hx2.trans hxb
  have hdb := hxb.size
  have hwd := hx2.size
  have hlok : LOk [⟨[120], 0, 0⟩, ⟨[], a, 4611686018427387904⟩] := ⟨by simp, by simp; omega, fun k hk => by
    have : k = 0 := by simp at hk; omega
    subst this
    rfl⟩
  clear HNW hx1 hx2 hxb hok
  have hL := left_calls _ _ _ _ _ _ hB0.out hlok.map
  have hl1 : leftS [⟨[120], 0, 0⟩, ⟨[], a, 4611686018427387904⟩] = -1 := by simp [leftS, Pt.open_]
  rw [leftS_nz, hl1] at hL
  have HL := Lib.hid hL
  clear hL hlok hl1
  go_wp2_with fail
  refine HL.out.mono ?_
  rintro e' w4 ⟨rfl, hx4⟩
  have hB4 := Lib.hid (hB0.out.ext hx4)
  have hcc := Chg.of_ext (lo := wd.heap.size) (hi := wb.heap.size) hx4
  have hs4 := hx4.size
  have hown1 := World.ownsRow_lit (base := w4.heap.size) (size := 2) (e := 37) w4 #[.int .i64 0, .int .i64 4611686018427387904] 1 (Nat.le_refl _) (by simp [maxLen]) rfl
  have hSA : SAt (w4.alloc (.cells #[.int .i64 0, .int .i64 4611686018427387904] 37)) (some ⟨w4.heap.size, 0, none⟩) [⟨0, 4611686018427387904⟩] := sat_of_own hown1
  have HOF := Lib.hid (of_calls (some ⟨w4.heap.size, 0, none⟩) 1 [⟨0, 4611686018427387904⟩] _ hSA (by decide))
  have hx47 := (Ext.refl w4).alloc (.cells #[.int .i64 0, .int .i64 4611686018427387904] 37)
  clear HL hB0 hx4 hown1 hSA
  go_wp2_with fail
  generalize (w4.alloc (.cells #[.int .i64 0, .int .i64 4611686018427387904] 37)) = w7 at *
  refine HOF.out.mono ?_
  rintro e' w8 ⟨A, c, rfl, hS, hNA, hx8⟩
  rw [all_of] at hS
  have HA : Hid (OutA wd.heap.size wb.heap.size A) := Lib.hid fun b o e => .inr (by have := hNA.out b o e; have := hx47.size; omega)
  have hl2 : (ofS [⟨0, 4611686018427387904⟩]).length = 1 := by rw [all_of]; rfl
  rw [hl2]
  have hx48 := hx47.trans hx8
  have hxa : Ext w8 (w8.alloc (.cells #[.slice A 1 c] 34)) := (Ext.refl _).alloc _
  have hB9 := Lib.hid (hB4.out.ext (hx48.trans hxa))
  have HS := Lib.hid (hS.out.ext hxa)
  have hbx : wb.heap.size ≤ w8.heap.size := by have := hx48.size; omega
  have hz : wb.heap.size ≤ (w8.alloc (.cells #[.slice A 1 c] 34)).heap.size := Nat.le_trans hbx hxa.size
  have HC := Lib.hid (hcc.trans (Chg.of_ext (hx48.trans hxa)))
  have t12 : (w8.alloc (.cells #[.slice A 1 c] 34)).cell? ⟨w8.heap.size, 0, none⟩ = some (.slice A 1 c) := by rw [cell_of_block (heap_alloc_new _ _)]; rfl
  clear HOF hS hNA hx8 hx47 hl2 hB4 hx48 hcc hxa
  have FSTN := Lib.hid (first_next a ha1 ha2)
  have HNX : Hid (Calls Try.prog 16 #[.pointer (some ⟨pb, 0, none⟩), .agg #[.slice A 1 c], .int .i64 1] (w8.alloc (.cells #[.slice A 1 c] 34)) fun e0 w' => e0 = .returned (.tuple #[.agg #[.string ⟨#[120]⟩, .int .i64 0, .int .i64 0], .bool true]) ∧ Hid (BodyAt wd.heap.size wb.heap.size w' pb (([⟨[], a, 4611686018427387904⟩] : List Pt).map Pt.nz) (0 + 1)) ∧ Chg wd.heap.size wb.heap.size (w8.alloc (.cells #[.slice A 1 c] 34)) w') := Lib.hid (by
    have h := nx_calls wd.heap.size wb.heap.size pb [⟨[120], 0, 0⟩, ⟨[], a, 4611686018427387904⟩] 0 A c [⟨0, 4611686018427387904⟩] 1 (w8.alloc (.cells #[.slice A 1 c] 34)) hB9.out HS.out all_norm (by decide) FSTN.out.1 FSTN.out.2.1 (by omega)
    rw [FSTN.out.2.2] at h
    exact h.mono fun e0 w' h => h)
  go_wp2_with fail
  generalize (w8.alloc (.cells #[.slice A 1 c] 34)) = w8a at *
  refine HNX.out.mono ?_
  rintro e' w9 ⟨rfl, hBx, hC⟩
  replace t12 := hC.cell t12 (.inr hbx)
  replace HS := Lib.hid (HS.out.chg hC HA.out)
  replace HC := Lib.hid (HC.out.trans hC)
  replace hz := Nat.le_trans hz hC.size
  clear hC HNX hB9
  rw [show (0 : Int) + 1 = 1 from rfl] at hBx
  clear FSTN
  rcases Int.lt_or_le 0 n with hn | hnn
  · have MORN := Lib.hid (more_next a n ha1 ha2 hn hn2)
    have HNX : Hid (Calls Try.prog 16 #[.pointer (some ⟨pb, 0, none⟩), .agg #[.slice A 1 c], .int .i64 n] w9 fun e0 w' => e0 = .returned (.tuple #[.agg #[.string ⟨#[]⟩, .int .i64 a, .int .i64 (a + n)], .bool true]) ∧ Hid (BodyAt wd.heap.size wb.heap.size w' pb (([⟨[], a + n, 4611686018427387904⟩] : List Pt).map Pt.nz) (1 + n)) ∧ Chg wd.heap.size wb.heap.size w9 w') := Lib.hid (by
      have h := nx_calls wd.heap.size wb.heap.size pb [⟨[], a, 4611686018427387904⟩] 1 A c [⟨0, 4611686018427387904⟩] n w9 hBx.out HS.out all_norm (by decide) MORN.out.1 MORN.out.2.1 (by omega)
      rw [MORN.out.2.2] at h
      exact h.mono fun e0 w' h => h)
    go_wp2_with fail
    refine HNX.out.mono ?_
    rintro e' w10 ⟨rfl, hB10, hC⟩
    replace t12 := hC.cell t12 (.inr hbx)
    replace HS := Lib.hid (HS.out.chg hC HA.out)
    replace HC := Lib.hid (HC.out.trans hC)
    replace hz := Nat.le_trans hz hC.size
    clear hC HNX hBx
    clear MORN
    cases e11 : decide (e < a + n)
    case true =>
      have e12 : e < a + n := of_decide_eq_true e11
      have hse : sealS [⟨[], a + n, 4611686018427387904⟩] e = ([⟨[], a + n, 4611686018427387904⟩], 11) := seal_early (by omega) (by omega) e12
      have hsl := sl_calls wd.heap.size wb.heap.size pb [⟨[], a + n, 4611686018427387904⟩] (1 + n) e w10 hB10.out (by simp)
      rw [hse] at hsl
      have HSL := Lib.hid hsl
      clear hsl
      go_wp2_with fail
      refine HSL.out.mono ?_
      rintro e' w11 ⟨rfl, hB11, hC⟩
      replace t12 := hC.cell t12 (.inr hbx)
      replace HS := Lib.hid (HS.out.chg hC HA.out)
      replace HC := Lib.hid (HC.out.trans hC)
      replace hz := Nat.le_trans hz hC.size
      clear hC HSL hB10
      have hlf := left_calls _ _ _ _ _ _ hB11.out (rest_lok (by omega) (by omega)).map
      rw [leftS_nz, rest_left] at hlf
      have HLF := Lib.hid hlf
      clear hlf hse
      go_wp2_with fail
      refine HLF.out.mono ?_
      rintro e' w12 ⟨rfl, hx⟩
      replace HC := Lib.hid (HC.out.trans (Chg.of_ext hx))
      go_wp2
      go_ret
      exact ⟨rfl, HC.out.ext hx0 hwd⟩
    case false =>
      have e12 : ¬ e < a + n := of_decide_eq_false e11
      rcases Decidable.em (e = a + n) with e13 | e13
      · obtain rfl : e = a + n := e13
        have hse : sealS [⟨[], a + n, 4611686018427387904⟩] (a + n) = ([], 0) := seal_at (by omega) (by omega)
        have hd : decide (([] : List Pt) = []) = true := rfl
        have e14 : a + n - a - n = 0 := by omega
        have e16 : 1 + (a + n) - a = 1 + n := by omega
        clear e12 e11 hd
        have hsl := sl_calls wd.heap.size wb.heap.size pb [⟨[], a + n, 4611686018427387904⟩] (1 + n) (a + n) w10 hB10.out (by simp)
        rw [hse] at hsl
        have HSL := Lib.hid hsl
        clear hsl
        go_wp2_with fail
        refine HSL.out.mono ?_
        rintro e' w11 ⟨rfl, hB11, hC⟩
        replace t12 := hC.cell t12 (.inr hbx)
        replace HS := Lib.hid (HS.out.chg hC HA.out)
        replace HC := Lib.hid (HC.out.trans hC)
        replace hz := Nat.le_trans hz hC.size
        clear hC HSL hB10
        have hs2 : sealS [] (a + n) = ([], 6) := rfl
        have hsl := sl_calls wd.heap.size wb.heap.size pb [] (1 + n) (a + n) w11 hB11.out (by simp)
        rw [hs2] at hsl
        have HSL := Lib.hid hsl
        clear hsl
        go_wp2_with fail
        refine HSL.out.mono ?_
        rintro e' w12 ⟨rfl, hB12, hC⟩
        replace t12 := hC.cell t12 (.inr hbx)
        replace HS := Lib.hid (HS.out.chg hC HA.out)
        replace HC := Lib.hid (HC.out.trans hC)
        replace hz := Nat.le_trans hz hC.size
        clear hC HSL hB11
        have HLF := Lib.hid (left_calls _ _ _ _ _ _ hB12.out (nil_lok : LOk (([] : List Pt).map Pt.nz)))
        go_wp2_with fail
        refine HLF.out.mono ?_
        rintro e' w13 ⟨rfl, hx⟩
        replace HC := Lib.hid (HC.out.trans (Chg.of_ext hx))
        replace t12 := hx.cell t12
        replace HS := Lib.hid (HS.out.ext hx)
        replace hz := Nat.le_trans hz hx.size
        have hB13 := Lib.hid (hB12.out.ext hx)
        have hl0 : leftS (([] : List Pt).map Pt.nz) = 0 := rfl
        rw [hl0]
        clear hx HLF hB12 hl0
        go_wp2_with fail
        refine (done_calls _ _ _ _ _ _ hB13.out).mono ?_
        rintro e' w14 ⟨rfl, rfl⟩
        have hdd : decide ((([] : List Pt).map Pt.nz) = []) = true := rfl
        rw [hdd]
        go_wp2_with fail
        refine (nx_calls wd.heap.size wb.heap.size pb [] (1 + n) A c [⟨0, 4611686018427387904⟩] 4611686018427387904 _ hB13.out HS.out all_norm (by decide) ⟨by decide, by simp⟩ ⟨by omega, by simp [sumS]; omega⟩ (by omega)).mono ?_
        rintro e' w15 h
        obtain ⟨rfl, hx⟩ : e' = _ ∧ Ext _ w15 := h
        replace HC := Lib.hid (HC.out.trans (Chg.of_ext hx))
        have hB15 := Lib.hid (hB13.out.ext hx)
        clear hx hB13
        go_wp2_with (first | (go_at_call 17; refine (done_calls _ _ _ _ _ _ hB15.out).mono ?_; rintro e' w16 ⟨rfl, rfl⟩; rw [hdd]) | (go_at_call 15; refine (sent_calls _ _ _ _ _ _ hB15.out).mono ?_; rintro e' w17 ⟨rfl, rfl⟩))
        go_ret
        exact ⟨by first | rfl | simp [*], HC.out.ext hx0 hwd⟩
      · have hlt : a + n < e := by omega
        have hse : sealS [⟨[], a + n, 4611686018427387904⟩] e = ([⟨[], a + n, e⟩], 0) := seal_late (by omega) (by omega) hlt
        have hsl := sl_calls wd.heap.size wb.heap.size pb [⟨[], a + n, 4611686018427387904⟩] (1 + n) e w10 hB10.out (by simp)
        rw [hse] at hsl
        have HSL := Lib.hid hsl
        clear hsl
        go_wp2_with fail
        refine HSL.out.mono ?_
        rintro e' w11 ⟨rfl, hB11, hC⟩
        replace t12 := hC.cell t12 (.inr hbx)
        replace HS := Lib.hid (HS.out.chg hC HA.out)
        replace HC := Lib.hid (HC.out.trans hC)
        replace hz := Nat.le_trans hz hC.size
        clear hC HSL hB10
        have hs2 : sealS [⟨[], a + n, e⟩] e = ([⟨[], a + n, e⟩], 6) := seal_shut (by omega)
        have hsl := sl_calls wd.heap.size wb.heap.size pb [⟨[], a + n, e⟩] (1 + n) e w11 hB11.out (by simp)
        rw [hs2] at hsl
        have HSL := Lib.hid hsl
        clear hsl
        go_wp2_with fail
        refine HSL.out.mono ?_
        rintro e' w12 ⟨rfl, hB12, hC⟩
        replace t12 := hC.cell t12 (.inr hbx)
        replace HS := Lib.hid (HS.out.chg hC HA.out)
        replace HC := Lib.hid (HC.out.trans hC)
        replace hz := Nat.le_trans hz hC.size
        clear hC HSL hB11
        have hlf := left_calls _ _ _ _ _ _ hB12.out (shut_lok (by omega) hlt (by omega)).map
        rw [leftS_nz, shut_left (by omega)] at hlf
        have HLF := Lib.hid hlf
        clear hlf
        go_wp2_with fail
        refine HLF.out.mono ?_
        rintro e' w13 ⟨rfl, hx⟩
        replace HC := Lib.hid (HC.out.trans (Chg.of_ext hx))
        replace t12 := hx.cell t12
        replace HS := Lib.hid (HS.out.ext hx)
        replace hz := Nat.le_trans hz hx.size
        have hB13 := Lib.hid (hB12.out.ext hx)
        have e14 : e - (a + n) = e - a - n := by omega
        rw [e14]
        clear hx HLF hB12 e14
        go_wp2_with fail
        refine (done_calls _ _ _ _ _ _ hB13.out).mono ?_
        rintro e' w14 ⟨rfl, rfl⟩
        have e17 : (e == a + n) = false := by simpa using e13
        have hdd : decide ((([⟨[], a + n, e⟩] : List Pt).map Pt.nz) = []) = false := by simp
        rw [hdd]
        have LASTN := Lib.hid (last_next (a + n) e (1 + n) (by omega) hlt (by omega) (by omega))
        have HNX : Hid (Calls Try.prog 16 #[.pointer (some ⟨pb, 0, none⟩), .agg #[.slice A 1 c], .int .i64 4611686018427387904] w14 fun e0 w' => e0 = .returned (.tuple #[.agg #[.string ⟨#[]⟩, .int .i64 (a + n), .int .i64 e], .bool true]) ∧ Hid (BodyAt wd.heap.size wb.heap.size w' pb (([] : List Pt).map Pt.nz) (1 + n + (e - (a + n)))) ∧ Chg wd.heap.size wb.heap.size w14 w') := Lib.hid (by
          have h := nx_calls wd.heap.size wb.heap.size pb [⟨[], a + n, e⟩] (1 + n) A c [⟨0, 4611686018427387904⟩] 4611686018427387904 w14 hB13.out HS.out all_norm (by decide) LASTN.out.1 LASTN.out.2.1 (by omega)
          rw [LASTN.out.2.2] at h
          exact h.mono fun e0 w' h => h)
        go_wp2_with fail
        refine HNX.out.mono ?_
        rintro e' w15 ⟨rfl, hB15, hC⟩
        replace t12 := hC.cell t12 (.inr hbx)
        replace HS := Lib.hid (HS.out.chg hC HA.out)
        replace HC := Lib.hid (HC.out.trans hC)
        replace hz := Nat.le_trans hz hC.size
        clear hC HNX hB13
        have hd2 : decide ((([] : List Pt).map Pt.nz) = []) = true := rfl
        have e18 : 1 + n + (e - (a + n)) = 1 + e - a := by omega
        rw [e18] at hB15
        clear e18 LASTN
        go_wp2_with (first | (go_at_call 17; refine (done_calls _ _ _ _ _ _ hB15.out).mono ?_; rintro e' w16 ⟨rfl, rfl⟩; rw [hd2]) | (go_at_call 15; refine (sent_calls _ _ _ _ _ _ hB15.out).mono ?_; rintro e' w17 ⟨rfl, rfl⟩))
        go_ret
        exact ⟨by first | rfl | simp [*], HC.out.ext hx0 hwd⟩
  · have hn3 : n = 0 := by omega
    have hB10 : Hid (BodyAt wd.heap.size wb.heap.size w9 pb (([⟨[], a + n, 4611686018427387904⟩] : List Pt).map Pt.nz) (1 + n)) := Lib.hid (by rw [show a + n = a by omega, show 1 + n = 1 by omega]; exact hBx.out)
    clear hBx hn3
    cases e11 : decide (e < a + n)
    case true =>
      have e12 : e < a + n := of_decide_eq_true e11
      have hse : sealS [⟨[], a + n, 4611686018427387904⟩] e = ([⟨[], a + n, 4611686018427387904⟩], 11) := seal_early (by omega) (by omega) e12
      have hsl := sl_calls wd.heap.size wb.heap.size pb [⟨[], a + n, 4611686018427387904⟩] (1 + n) e w9 hB10.out (by simp)
      rw [hse] at hsl
      have HSL := Lib.hid hsl
      clear hsl
      go_wp2_with fail
      refine HSL.out.mono ?_
      rintro e' w11 ⟨rfl, hB11, hC⟩
      replace t12 := hC.cell t12 (.inr hbx)
      replace HS := Lib.hid (HS.out.chg hC HA.out)
      replace HC := Lib.hid (HC.out.trans hC)
      replace hz := Nat.le_trans hz hC.size
      clear hC HSL hB10
      have hlf := left_calls _ _ _ _ _ _ hB11.out (rest_lok (by omega) (by omega)).map
      rw [leftS_nz, rest_left] at hlf
      have HLF := Lib.hid hlf
      clear hlf hse
      go_wp2_with fail
      refine HLF.out.mono ?_
      rintro e' w12 ⟨rfl, hx⟩
      replace HC := Lib.hid (HC.out.trans (Chg.of_ext hx))
      go_wp2
      go_ret
      exact ⟨rfl, HC.out.ext hx0 hwd⟩
    case false =>
      have e12 : ¬ e < a + n := of_decide_eq_false e11
      rcases Decidable.em (e = a + n) with e13 | e13
      · obtain rfl : e = a + n := e13
        have hse : sealS [⟨[], a + n, 4611686018427387904⟩] (a + n) = ([], 0) := seal_at (by omega) (by omega)
        have hd : decide (([] : List Pt) = []) = true := rfl
        have e14 : a + n - a - n = 0 := by omega
        have e16 : 1 + (a + n) - a = 1 + n := by omega
        clear e12 e11 hd
        have hsl := sl_calls wd.heap.size wb.heap.size pb [⟨[], a + n, 4611686018427387904⟩] (1 + n) (a + n) w9 hB10.out (by simp)
        rw [hse] at hsl
        have HSL := Lib.hid hsl
        clear hsl
        go_wp2_with fail
        refine HSL.out.mono ?_
        rintro e' w11 ⟨rfl, hB11, hC⟩
        replace t12 := hC.cell t12 (.inr hbx)
        replace HS := Lib.hid (HS.out.chg hC HA.out)
        replace HC := Lib.hid (HC.out.trans hC)
        replace hz := Nat.le_trans hz hC.size
        clear hC HSL hB10
        have hs2 : sealS [] (a + n) = ([], 6) := rfl
        have hsl := sl_calls wd.heap.size wb.heap.size pb [] (1 + n) (a + n) w11 hB11.out (by simp)
        rw [hs2] at hsl
        have HSL := Lib.hid hsl
        clear hsl
        go_wp2_with fail
        refine HSL.out.mono ?_
        rintro e' w12 ⟨rfl, hB12, hC⟩
        replace t12 := hC.cell t12 (.inr hbx)
        replace HS := Lib.hid (HS.out.chg hC HA.out)
        replace HC := Lib.hid (HC.out.trans hC)
        replace hz := Nat.le_trans hz hC.size
        clear hC HSL hB11
        have HLF := Lib.hid (left_calls _ _ _ _ _ _ hB12.out (nil_lok : LOk (([] : List Pt).map Pt.nz)))
        go_wp2_with fail
        refine HLF.out.mono ?_
        rintro e' w13 ⟨rfl, hx⟩
        replace HC := Lib.hid (HC.out.trans (Chg.of_ext hx))
        replace t12 := hx.cell t12
        replace HS := Lib.hid (HS.out.ext hx)
        replace hz := Nat.le_trans hz hx.size
        have hB13 := Lib.hid (hB12.out.ext hx)
        have hl0 : leftS (([] : List Pt).map Pt.nz) = 0 := rfl
        rw [hl0]
        clear hx HLF hB12 hl0
        go_wp2_with fail
        refine (done_calls _ _ _ _ _ _ hB13.out).mono ?_
        rintro e' w14 ⟨rfl, rfl⟩
        have hdd : decide ((([] : List Pt).map Pt.nz) = []) = true := rfl
        rw [hdd]
        go_wp2_with fail
        refine (nx_calls wd.heap.size wb.heap.size pb [] (1 + n) A c [⟨0, 4611686018427387904⟩] 4611686018427387904 _ hB13.out HS.out all_norm (by decide) ⟨by decide, by simp⟩ ⟨by omega, by simp [sumS]; omega⟩ (by omega)).mono ?_
        rintro e' w15 h
        obtain ⟨rfl, hx⟩ : e' = _ ∧ Ext _ w15 := h
        replace HC := Lib.hid (HC.out.trans (Chg.of_ext hx))
        have hB15 := Lib.hid (hB13.out.ext hx)
        clear hx hB13
        go_wp2_with (first | (go_at_call 17; refine (done_calls _ _ _ _ _ _ hB15.out).mono ?_; rintro e' w16 ⟨rfl, rfl⟩; rw [hdd]) | (go_at_call 15; refine (sent_calls _ _ _ _ _ _ hB15.out).mono ?_; rintro e' w17 ⟨rfl, rfl⟩))
        go_ret
        exact ⟨by first | rfl | simp [*], HC.out.ext hx0 hwd⟩
      · have hlt : a + n < e := by omega
        have hse : sealS [⟨[], a + n, 4611686018427387904⟩] e = ([⟨[], a + n, e⟩], 0) := seal_late (by omega) (by omega) hlt
        have hsl := sl_calls wd.heap.size wb.heap.size pb [⟨[], a + n, 4611686018427387904⟩] (1 + n) e w9 hB10.out (by simp)
        rw [hse] at hsl
        have HSL := Lib.hid hsl
        clear hsl
        go_wp2_with fail
        refine HSL.out.mono ?_
        rintro e' w11 ⟨rfl, hB11, hC⟩
        replace t12 := hC.cell t12 (.inr hbx)
        replace HS := Lib.hid (HS.out.chg hC HA.out)
        replace HC := Lib.hid (HC.out.trans hC)
        replace hz := Nat.le_trans hz hC.size
        clear hC HSL hB10
        have hs2 : sealS [⟨[], a + n, e⟩] e = ([⟨[], a + n, e⟩], 6) := seal_shut (by omega)
        have hsl := sl_calls wd.heap.size wb.heap.size pb [⟨[], a + n, e⟩] (1 + n) e w11 hB11.out (by simp)
        rw [hs2] at hsl
        have HSL := Lib.hid hsl
        clear hsl
        go_wp2_with fail
        refine HSL.out.mono ?_
        rintro e' w12 ⟨rfl, hB12, hC⟩
        replace t12 := hC.cell t12 (.inr hbx)
        replace HS := Lib.hid (HS.out.chg hC HA.out)
        replace HC := Lib.hid (HC.out.trans hC)
        replace hz := Nat.le_trans hz hC.size
        clear hC HSL hB11
        have hlf := left_calls _ _ _ _ _ _ hB12.out (shut_lok (by omega) hlt (by omega)).map
        rw [leftS_nz, shut_left (by omega)] at hlf
        have HLF := Lib.hid hlf
        clear hlf
        go_wp2_with fail
        refine HLF.out.mono ?_
        rintro e' w13 ⟨rfl, hx⟩
        replace HC := Lib.hid (HC.out.trans (Chg.of_ext hx))
        replace t12 := hx.cell t12
        replace HS := Lib.hid (HS.out.ext hx)
        replace hz := Nat.le_trans hz hx.size
        have hB13 := Lib.hid (hB12.out.ext hx)
        have e14 : e - (a + n) = e - a - n := by omega
        rw [e14]
        clear hx HLF hB12 e14
        go_wp2_with fail
        refine (done_calls _ _ _ _ _ _ hB13.out).mono ?_
        rintro e' w14 ⟨rfl, rfl⟩
        have e17 : (e == a + n) = false := by simpa using e13
        have hdd : decide ((([⟨[], a + n, e⟩] : List Pt).map Pt.nz) = []) = false := by simp
        rw [hdd]
        have LASTN := Lib.hid (last_next (a + n) e (1 + n) (by omega) hlt (by omega) (by omega))
        have HNX : Hid (Calls Try.prog 16 #[.pointer (some ⟨pb, 0, none⟩), .agg #[.slice A 1 c], .int .i64 4611686018427387904] w14 fun e0 w' => e0 = .returned (.tuple #[.agg #[.string ⟨#[]⟩, .int .i64 (a + n), .int .i64 e], .bool true]) ∧ Hid (BodyAt wd.heap.size wb.heap.size w' pb (([] : List Pt).map Pt.nz) (1 + n + (e - (a + n)))) ∧ Chg wd.heap.size wb.heap.size w14 w') := Lib.hid (by
          have h := nx_calls wd.heap.size wb.heap.size pb [⟨[], a + n, e⟩] (1 + n) A c [⟨0, 4611686018427387904⟩] 4611686018427387904 w14 hB13.out HS.out all_norm (by decide) LASTN.out.1 LASTN.out.2.1 (by omega)
          rw [LASTN.out.2.2] at h
          exact h.mono fun e0 w' h => h)
        go_wp2_with fail
        refine HNX.out.mono ?_
        rintro e' w15 ⟨rfl, hB15, hC⟩
        replace t12 := hC.cell t12 (.inr hbx)
        replace HS := Lib.hid (HS.out.chg hC HA.out)
        replace HC := Lib.hid (HC.out.trans hC)
        replace hz := Nat.le_trans hz hC.size
        clear hC HNX hB13
        have hd2 : decide ((([] : List Pt).map Pt.nz) = []) = true := rfl
        have e18 : 1 + n + (e - (a + n)) = 1 + e - a := by omega
        rw [e18] at hB15
        clear e18 LASTN
        go_wp2_with (first | (go_at_call 17; refine (done_calls _ _ _ _ _ _ hB15.out).mono ?_; rintro e' w16 ⟨rfl, rfl⟩; rw [hd2]) | (go_at_call 15; refine (sent_calls _ _ _ _ _ _ hB15.out).mono ?_; rintro e' w17 ⟨rfl, rfl⟩))
        go_ret
        exact ⟨by first | rfl | simp [*], HC.out.ext hx0 hwd⟩
end Go.Proofs.Ytcdokpkffbigdaa
