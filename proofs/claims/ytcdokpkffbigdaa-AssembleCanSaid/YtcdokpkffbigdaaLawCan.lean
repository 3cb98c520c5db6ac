/- The walk of AssembleCan. -/
import Derived.Test.YtcdokpkffbigdaaCan2
import Derived.Test.YtcdokpkffbigdaaLawSeals
namespace Go.Proofs.Ytcdokpkffbigdaa
open Go.RowKit

set_option maxHeartbeats 16000000 in
set_option maxRecDepth 100000 in
theorem lawCan_calls (A : Option Addr) (c : Nat) (L : List Pt) (B : Option Addr) (d : Nat) (hs : List Sp) (k : Int) (w : World) (hP : PartsIn w A c L) (hH : SAt w B hs ∧ hs.length ≤ d ∧ hs.length ≤ 9223372036854775807) (hk : (Lit.int .u8 k).wf = true) :
    Calls Try.prog 6 #[.slice A L.length c, .slice B hs.length d, .int .u8 k] w fun e w' => e = .returned (.bool true) ∧ Ext w w' := by
  obtain ⟨hH1, hH2, hH3⟩ := hH
  obtain ⟨hk1, hk2⟩ := u8_bd hk
  have HS := Lib.hid (fun W (hx : Ext w W) => hH1.ext hx)
  clear hH1 hH2 hk
  obtain ⟨hP1, hPc, hP3, hP4⟩ := hP
  have HP := Lib.hid (fun W (hx : Ext w W) => hP1.ext hx)
  have HP3 := Lib.hid hP3
  have HP4 := Lib.hid hP4
  clear hP1 hP3 hP4
  go_enter Try.func6, Try.ntmps6
  go_wp2_with fail
  refine (alive_calls _).mono ?_
  rintro e w1 ⟨rfl, hx1⟩
  go_wp2_with fail
  refine (small_calls A c L _ (HP.out _ hx1) HP3.out HP4.out).mono ?_
  rintro e w2 ⟨rfl, hx⟩
  have hx2 := hx1.trans hx
  clear hx hx1 HP3 HP4
  cases hsm : smallB L
  case false =>
    go_wp2
    go_ret
    exact ⟨rfl, hx2⟩
  case true =>
  have hlen : L.length ≤ 30 := by
    unfold smallB at hsm
    simp only [Bool.and_eq_true, decide_eq_true_eq] at hsm
    exact hsm.2
  have HSM := Lib.hid hsm
  clear hsm
  cases hg0 : decide ((20 : Int) < hs.length)
  case true =>
    go_wp2
    go_ret
    exact ⟨rfl, hx2⟩
  case false =>
  have hb0 : hs.length ≤ 20 := by have := of_decide_eq_false hg0; omega
  have hown0 := World.ownsRow_lit (base := w2.heap.size) (size := 3) (e := 40) w2 #[] 0 (Nat.le_refl _) (by simp [maxLen]) rfl
  have hxa : Ext w2 (w2.alloc (.cells #[] 40)) := (Ext.refl w2).alloc _
  have hR := (HP.out _ (hx2.trans hxa)).reads
  go_wp2_with (at_builtin; refine wpList_append_src _ rfl _ _ 22 rfl w2.heap.size 40 _ 3 32 Try.underlying22 infoPart rfl (by omega) (.slice (some ⟨w2.heap.size, 0, none⟩) 0 0) 0 [] rfl hown0 _ _ _ _ _ rfl hR (pts_plain _) (by simp [maxLen]; omega) (by omega) hxa.size ?_; intro v3 wd hown hm3; have hx3 := ext_moved hxa hown0 hm3; rw [Nat.zero_add, List.nil_append] at hown; obtain ⟨A3, c3, rfl, _⟩ := own_shape hown)
  have hx02 := hx2.trans hx3
  have HNW := Lib.hid (new_calls A3 c3 L _ (pat_of_own hown) (by omega))
  have hwd := hx02.size
  clear hown0 hxa hR hown hm3 hx3 hx2
  refine HNW.out.mono ?_
  rintro e wb hNP
  unfold NewPost at hNP
  clear HNW
  cases hok : okL L
  case false =>
    rw [hok, if_neg (by simp)] at hNP
    obtain ⟨hxb, rfl⟩ := hNP
    have hx0 := hx02.trans hxb
    have HRN := Lib.hid (rnew_calls A c L _ (HP.out _ hx0) (by omega))
    clear HP
    go_wp2_with fail
    refine HRN.out.mono ?_
    rintro e w5 ⟨hx5, he⟩
    rw [hok, if_neg (by simp)] at he
    subst he
    go_wp2
    go_ret
    exact ⟨rfl, (hx0.trans hx5).alloc _⟩
  case true =>
  rw [if_pos hok] at hNP
  obtain ⟨hxb, pb, rfl, hB0⟩ := hNP
  have HOK := Lib.hid (lok_of HSM.out hok)
  have HOL := Lib.hid hok
  have hx0 := hx02.trans hxb
  have hdb := hxb.size
  clear HSM hok hxb hx02
  have HRN := Lib.hid (rnew_calls A c L _ (HP.out _ hx0) (by omega))
  go_wp2_with fail
  refine HRN.out.mono ?_
  rintro e w5 ⟨hx5, he⟩
  rw [HOL.out, if_pos rfl] at he
  subst he
  have hm7 := heap_alloc_new w5 (.cells #[.slice A L.length c, .int .i64 0] 51)
  have hx7 := hx5.alloc (.cells #[.slice A L.length c, .int .i64 0] 51)
  have HB := Lib.hid (hB0.out.ext hx7)
  have HX := Lib.hid (hx0.trans hx7)
  have HPA := Lib.hid (HP.out _ (hx0.trans hx7))
  have m0 : (w5.alloc (.cells #[.slice A L.length c, .int .i64 0] 51)).cell? ⟨w5.heap.size, 0, none⟩ = some (.slice A L.length c) := by rw [cell_of_block hm7]; rfl
  have m1 : (w5.alloc (.cells #[.slice A L.length c, .int .i64 0] 51)).cell? ⟨w5.heap.size, 1, none⟩ = some (.int .i64 0) := by rw [cell_of_block hm7]; rfl
  have hofl := of_length hs
  have HNO := Lib.hid (norm_of hs)
  obtain ⟨SS, hSS⟩ : ∃ SS, ofS hs = SS := ⟨_, rfl⟩
  rw [hSS] at hofl HNO
  have hSL : SS.length ≤ 20 := by omega
  have HROF : Hid (∀ W, SAt W B hs → Calls Try.prog 24 #[.slice B hs.length d] W fun e w' => ∃ A c, e = .returned (.slice A SS.length c) ∧ Hid (SAt w' A SS) ∧ Ext W w') := Lib.hid fun W h => (refOf_calls B d hs W h (by omega)).mono fun e w' ⟨A, c, he, h1, h2⟩ => by
    rw [hSS] at he h1
    exact ⟨A, c, he, h1, h2⟩
  have HPOF : Hid (∀ W, SAt W B hs → Calls Try.prog 13 #[.slice B hs.length d] W fun e w' => ∃ A c, e = .returned (.agg #[.slice A SS.length c]) ∧ Hid (SAt w' A SS) ∧ Hid (NewA W A) ∧ Ext W w') := Lib.hid fun W h => (of_calls B d hs W h (by omega)).mono fun e w' ⟨A, c, he, h1, hn, h2⟩ => by
    rw [hSS] at he h1
    exact ⟨A, c, he, h1, hn, h2⟩
  obtain ⟨WL, hWL⟩ : ∃ WL, rcanL SS L = WL := ⟨_, rfl⟩
  have hWP : pcanL SS (L.map Pt.nz) = WL := by rw [← hWL]; exact pcan_rcan HOK.out.rok
  have hWn : WL.length ≤ 30 := by rw [← hWL]; have := rcanL_length SS L; omega
  have HRC : Hid (∀ W A c A2 c2, PAt W A L → L.length ≤ c → SAt W A2 SS → Calls Try.prog 23 #[.agg #[.slice A L.length c, .int .i64 0], .slice A2 SS.length c2] W (PRowPost W WL)) := Lib.hid fun W A c A2 c2 h1 h2 h3 => by
    have h := rcanall_calls A c L 0 A2 c2 SS W h1 h2 h3 HNO.out (by omega) HOK.out.rok ⟨Int.le_refl _, by have := lok_sum HOK.out; omega⟩
    rw [hWL] at h
    exact h
  have HLC : Hid (∀ W lo hi A2 c2, BodyAt lo hi W pb (L.map Pt.nz) 0 → SAt W A2 SS → Calls Try.prog 21 #[.pointer (some ⟨pb, 0, none⟩), .agg #[.slice A2 SS.length c2]] W (PRowPost W WL)) := Lib.hid fun W lo hi A2 c2 h1 h2 => by
    have h := lcan_calls lo hi pb (L.map Pt.nz) 0 A2 c2 SS W h1 (by rw [List.length_map]; omega) h2 HNO.out (by omega)
    rw [hWP] at h
    exact h
  have HWP := Lib.hid hWP
  clear HRN hm7 hx5 hx7 hB0 HP hx0 hofl hSS hWL hWP HOL
  go_wp2_with fail
  generalize (w5.alloc (.cells #[.slice A L.length c, .int .i64 0] 51)) = w6 at *
  have hdd : Ext w6 w6.drew := (Ext.refl _).drew
  replace HB := Lib.hid (HB.out.ext hdd)
  replace HPA := Lib.hid (HPA.out.ext hdd)
  replace HX := Lib.hid (HX.out.trans hdd)
  replace m0 := hdd.cell m0
  replace m1 := hdd.cell m1
  clear hdd
  go_region_held3 (fun w' => w'.cell? ⟨w5.heap.size, 0, none⟩ = some (.slice A L.length c) ∧ w'.cell? ⟨w5.heap.size, 1, none⟩ = some (.int .i64 0)) (exact ⟨m0, m1⟩)
    (first
      | (go_at_call 24
         (with_reducible refine (HROF.out _ (HS.out _ HX.out)).mono ?_)
         rintro e w7 ⟨A7, c7, rfl, hS7, hx⟩
         replace HB := Lib.hid (HB.out.ext hx)
         replace HPA := Lib.hid (HPA.out.ext hx)
         replace HX := Lib.hid (HX.out.trans hx)
         replace m0 := hx.cell m0
         replace m1 := hx.cell m1
         clear hx)
      | (go_at_call 23
         (with_reducible refine (HRC.out _ A c A7 c7 HPA.out hPc hS7.out).mono ?_)
         rintro e w8 ⟨v8, rfl, hown, hx⟩
         obtain ⟨A8, c8, rfl, _⟩ := own_shape hown.out
         have hP8 := Lib.hid (pat_of_own hown.out)
         replace HB := Lib.hid (HB.out.ext hx)
         replace HPA := Lib.hid (HPA.out.ext hx)
         replace HX := Lib.hid (HX.out.trans hx)
         replace m0 := hx.cell m0
         replace m1 := hx.cell m1
         clear hx hown))
  clear hS7 HROF HRC
  go_wp2_with fail
  refine (HPOF.out _ (HS.out _ HX.out)).mono ?_
  rintro e w9 ⟨A9, c9, rfl, hS9, _, hx⟩
  replace HB := Lib.hid (HB.out.ext hx)
  replace HPA := Lib.hid (HPA.out.ext hx)
  replace HX := Lib.hid (HX.out.trans hx)
  replace hP8 := Lib.hid (hP8.out.ext hx)
  replace m0 := hx.cell m0
  replace m1 := hx.cell m1
  clear hx
  go_wp2_with fail
  refine (HLC.out _ _ _ A9 c9 HB.out hS9.out).mono ?_
  rintro e w10 ⟨v10, rfl, hown, hx⟩
  obtain ⟨A10, c10, rfl, _⟩ := own_shape hown.out
  have hP10 := pat_of_own hown.out
  replace HB := Lib.hid (HB.out.ext hx)
  replace HPA := Lib.hid (HPA.out.ext hx)
  replace HX := Lib.hid (HX.out.trans hx)
  replace hP8 := Lib.hid (hP8.out.ext hx)
  replace m0 := hx.cell m0
  replace m1 := hx.cell m1
  have HSM := Lib.hid (rsame_calls A10 A8 c10 c8 WL _ hP10 hP8.out (by omega))
  clear hx hown hP10 HLC hS9
  go_wp2_with fail
  refine HSM.out.mono ?_
  rintro e w11 ⟨rfl, hx⟩
  replace HB := Lib.hid (HB.out.ext hx)
  replace HPA := Lib.hid (HPA.out.ext hx)
  replace HX := Lib.hid (HX.out.trans hx)
  replace m0 := hx.cell m0
  replace m1 := hx.cell m1
  have HS2 := Lib.hid (same_calls _ _ pb L 0 A c _ HB.out HPA.out HOK.out)
  clear hx HSM hP8
  go_wp2_with fail
  refine HS2.out.mono ?_
  rintro e w12 ⟨rfl, hx⟩
  replace HB := Lib.hid (HB.out.ext hx)
  replace HX := Lib.hid (HX.out.trans hx)
  clear hx HS2 m0 m1 HPA
  rcases Nat.eq_zero_or_pos WL.length with hz | hz
  · have e1 : ((WL.length : Int) == 0) = true := by simpa using hz
    have HZ := Lib.hid hz
    clear hz
    go_wp2
    go_ret
    exact ⟨rfl, HX.out⟩
  · have e1 : ((WL.length : Int) == 0) = false := beq_eq_false_iff_ne.2 (by omega)
    have hw12 : w.heap.size ≤ w12.heap.size := HX.out.size
    have hr0 : 0 ≤ k % (WL.length : Int) := Int.emod_nonneg _ (by omega)
    have hr1 : k % (WL.length : Int) < WL.length := Int.emod_lt_of_pos _ (by omega)
    go_wp2_with fail
    have hmf : ∀ (fn : Fn) (first cap : Array Value) (w : World), (Instr.makeFunc fn first cap).run Try.prog w = .ok (.func fn first cap) w := fun _ _ _ _ => rfl
    have hm1 : 1 ≤ 1 + k % (WL.length : Int) := by omega
    have hm2 : 1 + k % (WL.length : Int) ≤ WL.length := by omega
    generalize 1 + k % (WL.length : Int) = m at *
    have hx13 : Ext w12 ((w12.alloc (.cells #[.int .i64 m] 3)).alloc (.cells #[.int .i64 0] 3)) := ((Ext.refl w12).alloc _).alloc _
    have ha := ((Ext.refl _).alloc (.cells #[.int .i64 0] 3)).block (heap_alloc_new w12 (.cells #[.int .i64 m] 3))
    have hb : ((w12.alloc (.cells #[.int .i64 m] 3)).alloc (.cells #[.int .i64 0] 3)).heap[w12.heap.size + 1]? = some (.cells #[.int .i64 0] 3 (0, 0)) := by
      have := heap_alloc_new (w12.alloc (.cells #[.int .i64 m] 3)) (.cells #[.int .i64 0] 3)
      simpa using this
    generalize ((w12.alloc (.cells #[.int .i64 m] 3)).alloc (.cells #[.int .i64 0] 3)) = w13 at *
    replace HB := Lib.hid (HB.out.ext hx13)
    replace HX := Lib.hid (HX.out.trans hx13)
    have HCN : Hid (Cnt (w12.heap.size + 1) w12.heap.size m 0 w13) := Lib.hid ⟨hb, ha⟩
    have hb13 : w12.heap.size + 1 < w13.heap.size := (Array.getElem?_eq_some_iff.1 hb).1
    clear hx13 ha hb hr0 hr1
    refine (HPOF.out _ (HS.out _ HX.out)).mono ?_
    rintro e w14 ⟨A14, c14, rfl, hS14, hN14, hx⟩
    have h14 := hx.size
    replace HB := Lib.hid (HB.out.ext hx)
    replace HX := Lib.hid (HX.out.trans hx)
    replace HCN := Lib.hid (HCN.out.ext hx)
    have HCC := Lib.hid (can_calls _ _ pb (L.map Pt.nz) 0 A14 c14 SS _ HB.out (by rw [List.length_map]; omega))
    clear hx HPOF
    go_wp2_with fail
    refine HCC.out.mono ?_
    rintro e w15 ⟨bl, bh, A15, c15, rfl, hcp, hx⟩
    obtain ⟨g1, g2, g3, g4, g5, g6⟩ := hcp.out
    replace HX := Lib.hid (HX.out.trans hx)
    replace HCN := Lib.hid (HCN.out.ext hx)
    have h15 := hx.size
    have hi1 := (Array.getElem?_eq_some_iff.1 g1).1
    have hi2 := (Array.getElem?_eq_some_iff.1 g2).1
    have HIT := Lib.hid (iter2_calls 27 (w12.heap.size + 1) w12.heap.size w15.heap.size bl bh (fun args w => by simp [go_sem]) (L.map Pt.nz) A15 c15 A14 c14 SS
      (fun l w => Cnt (w12.heap.size + 1) w12.heap.size m l.length w ∧ (l.length : Int) < m) (fun l w => Cnt (w12.heap.size + 1) w12.heap.size m l.length w ∧ (l.length : Int) = m) (fun _ _ => False) (by omega)
      (fun L a b g hj hx hr => hr.elim) (fun L a b hj hx => ⟨hj.1.ext hx, hj.2⟩) HNO.out (by omega)
      (fun l q W hj hp hn => by
        have hl := hp.length_le
        rw [HWP.out] at hl
        simp only [List.length_append, List.length_singleton] at hl
        refine (count_calls (w12.heap.size + 1) w12.heap.size w15.heap.size m l.length q W hj.1 (by omega) (by omega) (by omega) hn).mono fun e w' ⟨he, hk, hc⟩ => ?_
        refine ⟨_, he, hk, fun hr => ⟨by rw [List.length_append]; exact hc, ?_⟩, fun hr => ⟨by rw [List.length_append]; exact hc, ?_⟩⟩
        · have := of_decide_eq_true hr
          rw [List.length_append, List.length_singleton]
          omega
        · have := of_decide_eq_false hr
          have h2 := hj.2
          rw [List.length_append, List.length_singleton]
          omega)
      w15 (Nat.le_refl _) g1 g2 ⟨hi1, by omega⟩ ⟨hi2, by omega⟩ g3
      (fun h0 b o' e => by
        have hb6 := g6 b o' e
        obtain ⟨b', o'', e', p0, _⟩ := g3 0 h0
        rw [e] at e'
        cases e'
        exact ⟨block_of_cell p0, by omega⟩)
      (hS14.out.ext hx)
      (fun h0 b o' e => by
        have hb6 := hN14.out b o' e
        obtain ⟨b', o'', e', p0, _⟩ := hS14.out 0 h0
        rw [e] at e'
        cases e'
        have := block_of_cell p0
        simp only at this
        exact ⟨by omega, by omega⟩) (by rw [List.length_map]; omega) ⟨HCN.out, by simp; omega⟩)
    rw [HWP.out] at HIT
    clear HCC hcp g1 g2 g3 g4 g5 g6 hS14 hN14 hx HCN HB
    go_wp2_with fail
    refine HIT.out.mono ?_
    rintro e w16 ⟨rfl, hk, hE⟩
    have hxf : Ext w w16 := ⟨hk.os.trans HX.out.os, hk.tape.trans HX.out.tape, hk.output.trans HX.out.output, Nat.le_trans HX.out.size hk.size, fun j hj => (hk.block j (Nat.lt_of_lt_of_le hj HX.out.size) (by omega)).trans (Below.block HX.out j hj)⟩
    rcases hE with ⟨_, hJ⟩ | ⟨l, _, hc, hl⟩
    · exact absurd hJ (by omega)
    · have o0 : w16.cell? ⟨w12.heap.size + 1, 0, none⟩ = some (.int .i64 m) := by rw [cell_of_block hc.1]; rw [← hl]; rfl
      have o1 : w16.cell? ⟨w12.heap.size, 0, none⟩ = some (.int .i64 m) := by rw [cell_of_block hc.2]; rfl
      clear hc hk HIT
      go_wp2
      go_ret
      exact ⟨by first | rfl | simp, hxf⟩
end Go.Proofs.Ytcdokpkffbigdaa
