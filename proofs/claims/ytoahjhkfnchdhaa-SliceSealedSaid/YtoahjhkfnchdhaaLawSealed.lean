/- SliceSealed: the walk. -/
import Derived.Test.YtoahjhkfnchdhaaLawTurned
namespace Go.Proofs.Ytoahjhkfnchdhaa
open Go.RowKit

theorem splice_part {n : Nat} (cs : List UInt8) (h : cs.length ≤ n) : (splice (List.replicate n (0 : UInt8)) 0 cs).take cs.length = cs := by
  unfold splice
  simp
/-- What lies behind the first Put of an object whose length isn't told. -/
def partB (u n f t y : Int) (O : List UInt8) : Bf := ⟨u, n, f, t, splice (List.replicate u.toNat 0) 0 ((O.drop f.toNat).take (y - f).toNat), [⟨f, y⟩]⟩
theorem open_ok {no u : Int} (h0 : 0 ≤ no) (h1 : no ≤ 255) (hu : u = 8) : spanOk no u (-1) = true ∧ cutE no u (-1) = no * u + u := by
  subst hu
  have hc : cutE no 8 (-1) = no * 8 + 8 := by unfold cutE; rw [if_pos rfl]; omega
  refine ⟨?_, hc⟩
  unfold spanOk lengthB
  rw [hc]
  simp only [Bool.and_eq_true, decide_eq_true_eq]
  exact ⟨by decide, ⟨by omega, by omega⟩, h0, by omega, by omega⟩
theorem first_none {f y n : Int} (h : y ≤ n) : (firstS [⟨f, y⟩] n).isSome = false := by
  unfold firstS beh
  rw [List.takeWhile_cons]
  simp [h]
theorem put_open {no : Int} {O : List UInt8} (h0 : 0 ≤ no) (h1 : no ≤ 255) (hl : no * 8 < O.length) :
    (newB no 8 (-1)).put 0 O = partB 8 (-1) (no * 8) (no * 8 + 8) (min (O.length : Int) (no * 8 + 8)) O ∧ (newB no 8 (-1)).putE 0 O = 0 ∧ (newB no 8 (-1)).putN 0 O = min (O.length : Int) (no * 8 + 8) - no * 8 := by
  obtain ⟨e1, e2⟩ := open_ok (u := 8) h0 h1 rfl
  obtain ⟨q1, q2, q3⟩ := put_first (new_ok e1 (by decide)) rfl O (show no * 8 < O.length from hl)
  have ht : (newB no 8 (-1)).t = no * 8 + 8 := e2
  rw [ht] at q1 q3
  refine ⟨?_, q2, q3⟩
  rw [q1]
  unfold newB partB
  rw [e2, show no * 8 + 8 - no * 8 = 8 by omega]
theorem seal_open {f n y : Int} {O : List UInt8} (hf : 0 ≤ f) (hn : f < n) (hm : n ≤ 1099511627776) (hy : y = min n (f + 8)) :
    (partB 8 (-1) f (f + 8) y O).sealE n = 0 ∧ (partB 8 (-1) f (f + 8) y O).seal n = partB 8 n f y y O := by
  have he : (partB 8 (-1) f (f + 8) y O).sealE n = 0 := by
    unfold Bf.sealE
    have h1 : (partB 8 (-1) f (f + 8) y O).f = f := rfl
    have h2 : (partB 8 (-1) f (f + 8) y O).hs = [⟨f, y⟩] := rfl
    have h3 : (partB 8 (-1) f (f + 8) y O).n = -1 := rfl
    rw [h1, h2, h3, first_none (by omega), if_neg (by omega)]
    simp
  refine ⟨he, ?_⟩
  unfold Bf.seal
  rw [if_pos he]
  show (⟨8, n, f, min (f + 8) n, _, _⟩ : Bf) = _
  rw [show min (f + 8) n = y by omega]
  rfl
theorem seal_twice {B : Bf} {n : Int} (h : B.n = n) (hf : 0 ≤ B.f) (hn : B.f < n) (hm : n ≤ 1099511627776) (ht : B.t ≤ n) {y : Int} (hs : B.hs = [⟨B.f, y⟩]) (hy : y ≤ n) : B.sealE n = 0 ∧ B.seal n = B := by
  have he : B.sealE n = 0 := by
    unfold Bf.sealE
    rw [hs, first_none hy, h, if_neg (by omega)]
    simp
  refine ⟨he, ?_⟩
  unfold Bf.seal
  rw [if_pos he, show min B.t n = B.t by omega, ← h]
theorem seal_other {B : Bf} {n m : Int} (h : B.n = n) (hn : n ≠ -1) (hm : m ≠ n) : (B.sealE m = 1 ∨ B.sealE m = 11) ∧ B.seal m = B := by
  have he : B.sealE m = 1 ∨ B.sealE m = 11 := by
    unfold Bf.sealE
    split
    · exact .inl rfl
    · split
      · exact .inl rfl
      · rw [if_pos ⟨by rw [h]; exact hn, by rw [h]; exact fun e => hm e.symm⟩]
        exact .inr rfl
  refine ⟨he, ?_⟩
  unfold Bf.seal
  rw [if_neg (by omega)]

theorem spanOk_small {no n : Int} (h0 : 0 ≤ no) (h1 : no ≤ 255) (h2 : 0 ≤ n) (h3 : n ≤ 100) : spanOk no 8 n = decide (8 * no < n) := by
  have hc : cutE no 8 n = min (no * 8 + 8) n := by unfold cutE; rw [if_neg (by omega)]; omega
  unfold spanOk lengthB
  rw [hc]
  rw [Bool.eq_iff_iff]
  simp only [Bool.and_eq_true, decide_eq_true_eq]
  constructor
  · rintro ⟨_, _, _, _, h⟩; omega
  · intro h
    exact ⟨by decide, ⟨by omega, by omega⟩, h0, by omega, by omega⟩
theorem part_whole {f y n : Int} {O : List UInt8} (h0 : 0 ≤ f) (h1 : f < y) (h2 : y ≤ f + 8) (h3 : y ≤ O.length) :
    holdsS (partB 8 n f y y O).hs (partB 8 n f y y O).f (partB 8 n f y y O).t = (decide (y ≤ 4611686018427387904)) ∧ (partB 8 n f y y O).bs.take ((partB 8 n f y y O).t - (partB 8 n f y y O).f).toNat = (O.drop f.toNat).take (y - f).toNat := by
  have hl : ((O.drop f.toNat).take (y - f).toNat).length = (y - f).toNat := by simp; omega
  constructor
  · by_cases hy : y ≤ 4611686018427387904
    · rw [decide_eq_true hy]
      exact holds_one ⟨h0, h1, hy⟩ (Int.le_refl _) h1
    · rw [decide_eq_false hy]
      unfold holdsS
      have : rightB f y = false := by unfold rightB; simp only [Bool.and_eq_false_iff, decide_eq_false_iff_not]; omega
      rw [show (partB 8 n f y y O).f = f from rfl, show (partB 8 n f y y O).t = y from rfl, this]
      rfl
  · have := splice_part (n := 8) ((O.drop f.toNat).take (y - f).toNat) (by omega)
    rw [hl] at this
    exact this

set_option maxHeartbeats 4000000 in
set_option maxRecDepth 100000 in
theorem lawSealed_calls (no : Int) (A : Option Addr) (c : Nat) (O : List UInt8) (other : Int) (w : World) (hno : (Lit.int .u8 no).wf = true) (hO : BytesAt w A O ∧ O.length ≤ c) :
    Calls Try.prog 8 #[.int .u8 no, .slice A O.length c, .int .i64 other] w fun e w' => e = .returned (.bool true) ∧ Ext w w' := by
  obtain ⟨hb, hcap⟩ := hO
  obtain ⟨n0, n1⟩ := u8_wf hno
  clear hno
  by_cases hl : 100 < O.length
  · go_enter Try.func8, Try.ntmps8
    go_wp2_with (go_at_call 11; refine (awake_calls _).mono ?_; rintro e w1 ⟨rfl, hx1⟩)
    go_ret
    exact ⟨rfl, Ext.trans ‹Ext w _› hx1⟩
  · obtain ⟨eA, cA⟩ := open_ok (u := 8) n0 n1 rfl
    have hnA := fun W => new2_calls no 8 (-1) (by decide) W
    have hnC := fun W => new2_calls no 8 O.length (by decide) W
    unfold NewPost2 at hnA hnC
    simp only [eA, if_true] at hnA
    have eC := spanOk_small n0 n1 (show (0 : Int) ≤ O.length by omega) (by omega)
    have h8 : IntKind.i64.wrap (8 * no) = 8 * no := IntWalk.i64_in _ (by omega)
    by_cases hlt : 8 * no < O.length
    · rw [decide_eq_true hlt] at eC
      simp only [eC, if_true] at hnC
      have hokA := new_ok eA (by decide)
      have hokC := new_ok eC (by decide)
      obtain ⟨pA1, pA2, pA3⟩ := put_open n0 n1 (O := O) (by omega)
      obtain ⟨pC1, pC2, pC3⟩ := put_new eC (by decide)
      have hcC : cutE no 8 O.length = min (O.length : Int) (no * 8 + 8) := by unfold cutE; rw [if_neg (by omega)]; omega
      rw [hcC] at pC1 pC3
      obtain ⟨f, hf⟩ : ∃ f, no * 8 = f := ⟨_, rfl⟩
      obtain ⟨y, hy⟩ : ∃ y, min (O.length : Int) (no * 8 + 8) = y := ⟨_, rfl⟩
      rw [hy, hf] at pA1 pA3 pC1 pC3
      rw [hf] at hy
      obtain ⟨sA1, sA2⟩ := seal_open (f := f) (n := O.length) (y := y) (O := O) (by omega) (by omega) (by omega) hy.symm
      obtain ⟨sB1, sB2⟩ := seal_twice (B := partB 8 O.length f y y O) (n := O.length) rfl (show 0 ≤ f by omega) (show f < _ by omega) (by omega) (show y ≤ _ by omega) (y := y) rfl (by omega)
      obtain ⟨sC1, sC2⟩ := seal_twice (B := fullB 8 O.length f y O) (n := O.length) rfl (show 0 ≤ f by omega) (show f < _ by omega) (by omega) (show y ≤ _ by omega) (y := y) rfl (by omega)
      have hokA1 := put_ok hokA 0 O
      rw [pA1] at hokA1
      have hokA2 := seal_ok hokA1 O.length
      rw [sA2] at hokA2
      have hokC1 := put_ok hokC 0 O
      rw [pC1] at hokC1
      obtain ⟨wA1, wA2⟩ := part_whole (f := f) (y := y) (n := O.length) (O := O) (by omega) (by omega) (by omega) (by omega)
      rw [decide_eq_true (by omega)] at wA1
      have wC1 : holdsS (fullB 8 O.length f y O).hs (fullB 8 O.length f y O).f (fullB 8 O.length f y O).t = true := holds_one ⟨by show 0 ≤ f; omega, by show f < y; omega, by show y ≤ _; omega⟩ (Int.le_refl _) (show f < y by omega)
      have hfl : ((O.drop f.toNat).take (y - f).toNat).length = (y - f).toNat := by simp; omega
      have wC2 : (fullB 8 O.length f y O).bs.take ((fullB 8 O.length f y O).t - (fullB 8 O.length f y O).f).toNat = (O.drop f.toNat).take (y - f).toNat := List.take_of_length_le (by show ((O.drop f.toNat).take (y - f).toNat).length ≤ (y - f).toNat; omega)
      have hwA := fun Z lo hi pb W h => whole_calls (Z := Z) lo hi pb (partB 8 O.length f y y O) W h hokA2
      have hwC := fun Z lo hi pb W h => whole_calls (Z := Z) lo hi pb (fullB 8 O.length f y O) W h hokC1
      unfold WholePost at hwA hwC
      simp only [wA1, wA2, if_true] at hwA
      simp only [wC1, wC2, if_true] at hwC
      have hoA := fun (h : other ≠ (O.length : Int)) => seal_other (B := partB 8 O.length f y y O) (n := O.length) (m := other) rfl (by omega) h
      have hoC := fun (h : other ≠ (O.length : Int)) => seal_other (B := fullB 8 O.length f y O) (n := O.length) (m := other) rfl (by omega) h
      have hA0 : ∀ Z lo hi W pb, BufZ Z lo hi W pb ⟨8, -1, no * 8, cutE no 8 (-1), List.replicate (cutE no 8 (-1) - no * 8).toNat 0, []⟩ → BufZ Z lo hi W pb (newB no 8 (-1)) := fun _ _ _ _ _ h => h
      have hC0 : ∀ Z lo hi W pb, BufZ Z lo hi W pb ⟨8, O.length, no * 8, cutE no 8 O.length, List.replicate (cutE no 8 O.length - no * 8).toNat 0, []⟩ → BufZ Z lo hi W pb (newB no 8 O.length) := fun _ _ _ _ _ h => h
      generalize newB no 8 (-1) = bA0 at *
      generalize newB no 8 O.length = bC0 at *
      generalize partB 8 (-1) f (f + 8) y O = bA1 at *
      generalize hA2 : partB 8 O.length f y y O = bA2 at *
      generalize hC1 : fullB 8 O.length f y O = bC1 at *
      have htA : (bA2.t - bA2.f).toNat = (y - f).toNat := by rw [← hA2]; rfl
      have htC : (bC1.t - bC1.f).toNat = (y - f).toNat := by rw [← hC1]; rfl
      simp only [htA] at hwA
      simp only [htC] at hwC
      obtain ⟨k, hk⟩ : ∃ k, (y - f).toNat = k := ⟨_, rfl⟩
      obtain ⟨S, hS⟩ : ∃ S, (O.drop f.toNat).take (y - f).toNat = S := ⟨_, rfl⟩
      rw [hS] at hfl hwA hwC
      rw [hk] at hfl hwA hwC
      have hgt : (8 * no < (O.length : Int)) := hlt
      have HNA := Lib.hid hnA
      have HNC := Lib.hid hnC
      have HI := Lib.hid (And.intro hA0 hC0)
      have HPA := Lib.hid (And.intro pA1 (And.intro pA2 pA3))
      have HPC := Lib.hid (And.intro pC1 (And.intro pC2 pC3))
      have HSA := Lib.hid (And.intro sA1 (And.intro sA2 (And.intro sB1 sB2)))
      have HSC := Lib.hid (And.intro sC1 sC2)
      have HO := Lib.hid (And.intro hoA hoC)
      have HOK := Lib.hid (And.intro hokA (And.intro hokA1 (And.intro hokA2 (And.intro hokC hokC1))))
      have HWA := Lib.hid hwA
      have HWC := Lib.hid hwC
      have HFL := Lib.hid hfl
      clear hnA hnC hA0 hC0 pA1 pA2 pA3 pC1 pC2 pC3 sA1 sA2 sB1 sB2 sC1 sC2 hoA hoC hokA hokA1 hokA2 hokC hokC1 hwA hwC wA1 wA2 wC1 wC2 hfl htA htC hA2 hC1 hcC hS hk hy hf eA cA eC
      go_enter Try.func8, Try.ntmps8
      go_wp2_with (go_at_call 11; refine (awake_calls _).mono ?_; rintro e w1 ⟨rfl, hx1⟩)
      go_wp2_with fail
      refine (HNA.out _).mono ?_
      rintro e w2 ⟨hx2, pa, rfl, hbA⟩
      go_wp2_with fail
      refine (HNC.out _).mono ?_
      rintro e w3 ⟨hx3, pc, rfl, hbC⟩
      have hz2 := hx2.size
      have hz3 := hx3.size
      have hBA : BufZ (OutW w1.heap.size w3.heap.size) w1.heap.size w2.heap.size w3 pa bA0 := (HI.out.1 _ _ _ _ _ (hbA.out _ _ _ (Nat.le_refl _) (Nat.le_refl _))).ext hx3
      have hBC : BufZ (OutW w1.heap.size w3.heap.size) w2.heap.size w3.heap.size w3 pc bC0 := HI.out.2 _ _ _ _ _ (hbC.out _ _ _ (Nat.le_refl _) (Nat.le_refl _))
      have hxw : Ext w w3 := (hx1.trans hx2).trans hx3
      have hlo := hx1.size
      have hzA : ∀ b, OutW w1.heap.size w3.heap.size b → OutW w1.heap.size w2.heap.size b := fun b h => h.elim .inl (fun h => .inr (by omega))
      have hzC : ∀ b, OutW w1.heap.size w3.heap.size b → OutW w2.heap.size w3.heap.size b := fun b h => h.elim (fun h => .inl (by omega)) .inr
      have HZ := Lib.hid (And.intro hzA hzC)
      clear hbA hbC HNA HNC HI hx2 hx3 hzA hzC
      have hown0 := World.ownsRow_lit (base := w3.heap.size) (size := 1) (e := 5) w3 #[] 0 (Nat.le_refl _) (by simp [maxLen]) rfl
      have hxa : Ext w3 (w3.alloc (.cells #[] 5)) := (Ext.refl w3).alloc _
      have hR := bytes_reads (hb.ext (hxw.trans hxa))
      go_wp2_with (at_builtin; refine wpList_append_src _ rfl _ _ 43 rfl w3.heap.size 5 _ 1 1 Try.underlying43 infoByte rfl (by omega) (.slice (some ⟨w3.heap.size, 0, none⟩) 0 0) 0 [] rfl hown0 _ _ _ _ _ rfl hR (bytes_plain O) (by simp [maxLen]; omega) (by omega) hxa.size ?_; intro v4 w4 hown hm; have hxn := ext_moved hxa hown0 hm; rw [Nat.zero_add, List.nil_append] at hown; obtain ⟨A4, c4, rfl, hcn⟩ := own_shape hown)
      refine (putZ_calls _ w1.heap.size w2.heap.size pa bA0 0 A4 c4 O w4 (hBA.ext hxn) HZ.out.1 (fun b h => .inr (Nat.le_trans hxn.size h)) HOK.out.1 (by have := hxn.size; omega) (bytes_of_own hown) hcn (by omega) (by decide) (by decide) (fun b o e => .inr (by have := newA_of hown (Nat.le_refl _) b o e; omega))).mono ?_
      rw [HPA.out.1, HPA.out.2.1, HPA.out.2.2]
      rintro e w5 ⟨rfl, hbA, hc5⟩
      replace hBC := (hBC.ext hxn).chg hc5 (.inr (Nat.le_refl _)) HZ.out.1
      replace hxw := ((Chg.of_ext hxn).trans hc5).ext hxw hlo
      have hz5 := Nat.le_trans hxn.size hc5.size
      clear hBA hown hm hc5 hxn hxa hown0 hR HPA
      have hown0 := World.ownsRow_lit (base := w5.heap.size) (size := 1) (e := 5) w5 #[] 0 (Nat.le_refl _) (by simp [maxLen]) rfl
      have hxa : Ext w5 (w5.alloc (.cells #[] 5)) := (Ext.refl w5).alloc _
      have hR := bytes_reads (hb.ext (hxw.trans hxa))
      go_wp2_with (at_builtin; refine wpList_append_src _ rfl _ _ 43 rfl w5.heap.size 5 _ 1 1 Try.underlying43 infoByte rfl (by omega) (.slice (some ⟨w5.heap.size, 0, none⟩) 0 0) 0 [] rfl hown0 _ _ _ _ _ rfl hR (bytes_plain O) (by simp [maxLen]; omega) (by omega) hxa.size ?_; intro v6 w6 hown hm; have hxn := ext_moved hxa hown0 hm; rw [Nat.zero_add, List.nil_append] at hown; obtain ⟨A6, c6, rfl, hcn⟩ := own_shape hown)
      refine (putZ_calls _ w2.heap.size w3.heap.size pc bC0 0 A6 c6 O w6 (hBC.ext hxn) HZ.out.2 (fun b h => .inr (by have := hxn.size; omega)) HOK.out.2.2.2.1 (by have := hxn.size; omega) (bytes_of_own hown) hcn (by omega) (by decide) (by decide) (fun b o e => .inr (by have := newA_of hown (Nat.le_refl _) b o e; omega))).mono ?_
      rw [HPC.out.1, HPC.out.2.1, HPC.out.2.2]
      rintro e w7 ⟨rfl, hbC, hc7⟩
      have hBA := (hbA.out.ext hxn).chg hc7 (.inl (Nat.le_refl _)) HZ.out.2
      replace hBC := hbC.out
      replace hxw := ((Chg.of_ext hxn).trans hc7).ext hxw (by omega)
      have hz7 := Nat.le_trans hxn.size hc7.size
      clear hbA hbC hown hm hc7 hxn hxa hown0 hR HPC
      by_cases ho : other = (O.length : Int)
      · subst ho
        have b1 : ((O.length : Int) != (O.length : Int)) = false := by simp
        go_wp2_with fail
        refine (sealZ_calls _ w1.heap.size w2.heap.size pa bA1 (O.length : Int) _ hBA HZ.out.1 HOK.out.2.1 (by omega)).mono ?_
        rw [HSA.out.1, HSA.out.2.1]
        rintro e w8 ⟨rfl, hbA', hcs⟩
        replace hBA := hbA'.out
        replace hBC := hBC.chg hcs (.inr (Nat.le_refl _)) HZ.out.1
        replace hxw := hcs.ext hxw (by omega)
        have hz8 := hcs.size
        clear hbA' hcs
        go_wp2_with fail
        refine (sealZ_calls _ w1.heap.size w2.heap.size pa bA2 (O.length : Int) _ hBA HZ.out.1 HOK.out.2.2.1 (by omega)).mono ?_
        rw [HSA.out.2.2.1, HSA.out.2.2.2]
        rintro e w9 ⟨rfl, hbA', hcs⟩
        replace hBA := hbA'.out
        replace hBC := hBC.chg hcs (.inr (Nat.le_refl _)) HZ.out.1
        replace hxw := hcs.ext hxw (by omega)
        have hz9 := hcs.size
        clear hbA' hcs
        go_wp2_with fail
        refine (sealZ_calls _ w2.heap.size w3.heap.size pc bC1 (O.length : Int) _ hBC HZ.out.2 HOK.out.2.2.2.2 (by omega)).mono ?_
        rw [HSC.out.1, HSC.out.2]
        rintro e w10 ⟨rfl, hbC', hcs⟩
        replace hBC := hbC'.out
        replace hBA := hBA.chg hcs (.inl (Nat.le_refl _)) HZ.out.2
        replace hxw := hcs.ext hxw (by omega)
        have hz10 := hcs.size
        clear hbC' hcs
        go_wp2_with fail
        refine (HWA.out _ _ _ _ _ hBA).mono ?_
        rintro e wa ⟨hxa, Aa, ca, rfl, hoa⟩
        replace hBC := hBC.ext hxa
        have hBa := bytes_of_own (l := S) hoa.out
        replace hxw := hxw.trans hxa
        clear hoa hBA
        go_wp2_with fail
        refine (HWC.out _ _ _ _ _ hBC).mono ?_
        rintro e wb ⟨hxb, Ab, cb, rfl, hob⟩
        have hBb := bytes_of_own (l := S) hob.out
        have cv1 : (convert 43 9 (.slice Aa k ca)).run Try.prog wb = .ok (.string ⟨S.toArray⟩) wb := by
          have := conv_bytes wb Aa S ca (hBa.ext hxb)
          rw [HFL.out] at this
          exact this
        have cv2 : (convert 43 9 (.slice Ab k cb)).run Try.prog wb = .ok (.string ⟨S.toArray⟩) wb := by
          have := conv_bytes wb Ab S cb hBb
          rw [HFL.out] at this
          exact this
        replace hxw := hxw.trans hxb
        clear hob hBC hBa hBb HFL
        generalize (⟨S.toArray⟩ : ByteArray) = str at *
        go_wp2
        go_ret
        exact ⟨rfl, hxw⟩
      · have b1 : (other != (O.length : Int)) = true := by simpa using ho
        obtain ⟨hE, hA9⟩ := HO.out.1 ho
        obtain ⟨hF, hA8⟩ := HO.out.2 ho
        obtain ⟨EA, hE1⟩ : ∃ EA, bA2.sealE other = EA := ⟨_, rfl⟩
        obtain ⟨EC, hE3⟩ : ∃ EC, bC1.sealE other = EC := ⟨_, rfl⟩
        rw [hE1] at hE
        rw [hE3] at hF
        have b2 : (EA == 0) = false := beq_eq_false_iff_ne.2 (by omega)
        have b3 : (EC == 0) = false := beq_eq_false_iff_ne.2 (by omega)
        have HE1 := Lib.hid (And.intro hE1 (And.intro hA9 (And.intro hE3 hA8)))
        clear hE hF HO ho hE1 hE3 hA9 hA8
        go_wp2_with fail
        refine (sealZ_calls _ w1.heap.size w2.heap.size pa bA1 (O.length : Int) _ hBA HZ.out.1 HOK.out.2.1 (by omega)).mono ?_
        rw [HSA.out.1, HSA.out.2.1]
        rintro e w8 ⟨rfl, hbA', hcs⟩
        replace hBA := hbA'.out
        replace hBC := hBC.chg hcs (.inr (Nat.le_refl _)) HZ.out.1
        replace hxw := hcs.ext hxw (by omega)
        have hz8 := hcs.size
        clear hbA' hcs
        go_wp2_with fail
        refine (sealZ_calls _ w1.heap.size w2.heap.size pa bA2 (O.length : Int) _ hBA HZ.out.1 HOK.out.2.2.1 (by omega)).mono ?_
        rw [HSA.out.2.2.1, HSA.out.2.2.2]
        rintro e w9 ⟨rfl, hbA', hcs⟩
        replace hBA := hbA'.out
        replace hBC := hBC.chg hcs (.inr (Nat.le_refl _)) HZ.out.1
        replace hxw := hcs.ext hxw (by omega)
        have hz9 := hcs.size
        clear hbA' hcs
        go_wp2_with fail
        refine (sealZ_calls _ w2.heap.size w3.heap.size pc bC1 (O.length : Int) _ hBC HZ.out.2 HOK.out.2.2.2.2 (by omega)).mono ?_
        rw [HSC.out.1, HSC.out.2]
        rintro e w10 ⟨rfl, hbC', hcs⟩
        replace hBC := hbC'.out
        replace hBA := hBA.chg hcs (.inl (Nat.le_refl _)) HZ.out.2
        replace hxw := hcs.ext hxw (by omega)
        have hz10 := hcs.size
        clear hbC' hcs
        go_wp2_with fail
        refine (sealZ_calls _ w1.heap.size w2.heap.size pa bA2 other _ hBA HZ.out.1 HOK.out.2.2.1 (by omega)).mono ?_
        rw [HE1.out.1, HE1.out.2.1]
        rintro e w11 ⟨rfl, hbA', hcs⟩
        replace hBA := hbA'.out
        replace hBC := hBC.chg hcs (.inr (Nat.le_refl _)) HZ.out.1
        replace hxw := hcs.ext hxw (by omega)
        have hz11 := hcs.size
        clear hbA' hcs
        go_wp2_with fail
        refine (sealZ_calls _ w2.heap.size w3.heap.size pc bC1 other _ hBC HZ.out.2 HOK.out.2.2.2.2 (by omega)).mono ?_
        rw [HE1.out.2.2.1, HE1.out.2.2.2]
        rintro e w12 ⟨rfl, hbC', hcs⟩
        replace hBC := hbC'.out
        replace hBA := hBA.chg hcs (.inl (Nat.le_refl _)) HZ.out.2
        replace hxw := hcs.ext hxw (by omega)
        have hz12 := hcs.size
        clear hbC' hcs
        go_wp2_with fail
        refine (HWA.out _ _ _ _ _ hBA).mono ?_
        rintro e wa ⟨hxa, Aa, ca, rfl, hoa⟩
        replace hBC := hBC.ext hxa
        have hBa := bytes_of_own (l := S) hoa.out
        replace hxw := hxw.trans hxa
        clear hoa hBA
        go_wp2_with fail
        refine (HWC.out _ _ _ _ _ hBC).mono ?_
        rintro e wb ⟨hxb, Ab, cb, rfl, hob⟩
        have hBb := bytes_of_own (l := S) hob.out
        have cv1 : (convert 43 9 (.slice Aa k ca)).run Try.prog wb = .ok (.string ⟨S.toArray⟩) wb := by
          have := conv_bytes wb Aa S ca (hBa.ext hxb)
          rw [HFL.out] at this
          exact this
        have cv2 : (convert 43 9 (.slice Ab k cb)).run Try.prog wb = .ok (.string ⟨S.toArray⟩) wb := by
          have := conv_bytes wb Ab S cb hBb
          rw [HFL.out] at this
          exact this
        replace hxw := hxw.trans hxb
        clear hob hBC hBa hBb HFL
        generalize (⟨S.toArray⟩ : ByteArray) = str at *
        go_wp2
        go_ret
        exact ⟨rfl, hxw⟩
    · rw [decide_eq_false hlt] at eC
      simp only [eC] at hnC
      have HNA := Lib.hid hnA
      have HNC := Lib.hid fun W => (hnC W).mono fun e w' h => (show Ext W w' ∧ e = .returned (.tuple #[.pointer none, .int .i64 1]) from ⟨h.1, by simpa using h.2⟩)
      have hgt : ¬ 8 * no < (O.length : Int) := hlt
      have b1 : decide (8 * no < (O.length : Int)) = false := decide_eq_false hlt
      clear hnA hnC eA eC cA hlt
      go_enter Try.func8, Try.ntmps8
      go_wp2_with (go_at_call 11; refine (awake_calls _).mono ?_; rintro e w1 ⟨rfl, hx1⟩)
      go_wp2_with fail
      refine (HNA.out _).mono ?_
      rintro e w2 ⟨hx2, pa, rfl, hbA⟩
      go_wp2_with fail
      refine (HNC.out _).mono ?_
      rintro e w3 ⟨hx3, rfl⟩
      go_wp2
      go_ret
      exact ⟨rfl, (hx1.trans hx2).trans hx3⟩
end Go.Proofs.Ytoahjhkfnchdhaa
