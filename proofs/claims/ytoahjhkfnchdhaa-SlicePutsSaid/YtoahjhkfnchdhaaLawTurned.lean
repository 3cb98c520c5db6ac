/- SliceTurned: the walk. -/
import Derived.Test.YtoahjhkfnchdhaaLawSpans
import Derived.Test.YtoahjhkfnchdhaaLawP
import Derived.Test.YtoahjhkfnchdhaaOpen
namespace Go.Proofs.Ytoahjhkfnchdhaa
open Go.RowKit

theorem u8_wf {n : Int} (h : (Lit.int .u8 n).wf = true) : 0 ≤ n ∧ n ≤ 255 := by
  obtain ⟨b, rfl⟩ := byte_of_wf h
  have := b.toNat_lt
  omega
set_option maxRecDepth 100000 in
theorem refhas_calls (f t a : Int) (h : rightB f t = true) (w : World) :
    Calls Try.prog 33 #[.agg #[.int .i64 f, .int .i64 t], .int .i64 a] w fun e w' => e = .returned (.bool (decide (f ≤ a) && decide (a < t))) ∧ Ext w w' := by
  have hR := fun W => refright_calls f t W
  rw [h] at hR
  have HR := Lib.hid hR
  have b0 := heap_alloc_new w (.cells #[.int .i64 f, .int .i64 t] 24)
  have hx0 : Ext w (w.alloc (.cells #[.int .i64 f, .int .i64 t] 24)) := (Ext.refl w).alloc _
  clear hR h
  cases e1 : decide (f ≤ a)
  all_goals
    go_enter Try.func33, Try.ntmps33
    go_wp2_with (go_at_call 40; refine (HR.out _).mono ?_; rintro e w1 ⟨rfl, hx⟩; replace b0 := hx.block b0; replace hx0 := hx0.trans hx; have c0 : w1.cell? ⟨w.heap.size, 0, none⟩ = some (.int .i64 f) := (by rw [cell_of_row _ _ _ _ _ _ b0]; rfl); have c1 : w1.cell? ⟨w.heap.size, 1, none⟩ = some (.int .i64 t) := (by rw [cell_of_row _ _ _ _ _ _ b0]; rfl))
    go_ret
    exact ⟨by simp [*], hx0⟩

set_option maxHeartbeats 4000000 in
set_option maxRecDepth 100000 in
theorem lawTurned_calls (no : Int) (A : Option Addr) (c : Nat) (O : List UInt8) (at' : Int) (w : World) (hno : (Lit.int .u8 no).wf = true) (hO : BytesAt w A O ∧ O.length ≤ c) (hat : (Lit.int .u8 at').wf = true) :
    Calls Try.prog 7 #[.int .u8 no, .slice A O.length c, .int .u8 at'] w fun e w' => e = .returned (.bool true) ∧ Ext w w' := by
  obtain ⟨hb, hcap⟩ := hO
  obtain ⟨n0, n1⟩ := u8_wf hno
  obtain ⟨a0, a1⟩ := u8_wf hat
  clear hno hat
  by_cases hl : 100 < O.length
  · go_enter Try.func7, Try.ntmps7
    go_wp2_with (go_at_call 11; refine (awake_calls _).mono ?_; rintro e w1 ⟨rfl, hx1⟩)
    go_ret
    exact ⟨rfl, Ext.trans ‹Ext w _› hx1⟩
  · have hnw := fun W => new_calls no 8 O.length (by decide) W
    unfold NewPost at hnw
    cases eO : spanOk no 8 O.length
    · rw [eO] at hnw
      have HN := Lib.hid hnw
      clear hnw hb eO
      go_enter Try.func7, Try.ntmps7
      go_wp2_with (first
        | (go_at_call 11; refine (awake_calls _).mono ?_; rintro e w1 ⟨rfl, hx1⟩)
        | (go_at_call 21; refine (HN.out _).mono ?_; rintro e w2 ⟨hx2, hp⟩; rw [if_neg (by decide)] at hp; subst hp))
      go_ret
      exact ⟨rfl, hx1.trans hx2⟩
    · rw [eO] at hnw
      have HN := Lib.hid hnw
      obtain ⟨c0, c1, c2, c3, c4, c5, _⟩ := cut_bounds eO
      have c4' := c4 (by omega)
      have hok0 := new_ok eO (by decide)
      obtain ⟨p1, p2, p3⟩ := put_new eO (by decide)
      have hokF := full_new_ok eO (by decide)
      have hrs := fun W => refspan_calls no 8 O.length W
      have hsp : spanS no 8 O.length = ⟨no * 8, cutE no 8 O.length⟩ := by unfold spanS; rw [if_pos eO]
      rw [hsp] at hrs
      generalize hB0 : newB no 8 O.length = B0 at *
      have hnB : ∀ W lo hi pb, BufAt lo hi W pb ⟨8, O.length, no * 8, cutE no 8 O.length, List.replicate (cutE no 8 O.length - no * 8).toNat 0, []⟩ → BufAt lo hi W pb B0 := fun W lo hi pb h => by rw [← hB0]; exact h
      generalize no * 8 = F at *
      generalize cutE no 8 O.length = T at *
      obtain ⟨k, hk⟩ : ∃ k : Nat, at' % (O.length : Int) = k := ⟨(at' % (O.length : Int)).toNat, by have := Int.emod_nonneg at' (show (O.length : Int) ≠ 0 by omega); omega⟩
      have hkl : k < O.length := by have := Int.emod_lt_of_pos at' (show 0 < (O.length : Int) by omega); omega
      have hkt : at'.tmod (O.length : Int) = k := by rw [Int.tmod_eq_emod_of_nonneg a0]; exact hk
      have hz : ((O.length : Int) == 0) = false := beq_eq_false_iff_ne.2 (by omega)
      obtain ⟨t1, t2, t3⟩ := put_turned hokF c4' (P := O.set k (O[k] + 1)) (by simp) k hkl (fun z hz => by rw [List.getElem?_set_ne (Ne.symm hz)]) (by rw [List.getElem?_set_self hkl, List.getElem?_eq_getElem hkl]; exact fun h => next_ne _ (Option.some.inj h))
      have hhas := fun W => refhas_calls F T k (by unfold rightB; simp only [Bool.and_eq_true, decide_eq_true_eq]; exact ⟨⟨c0, Int.le_of_lt c1⟩, by omega⟩) W
      have HP := Lib.hid (And.intro p1 (And.intro p2 p3))
      have HT := Lib.hid (And.intro t1 (And.intro t2 t3))
      have HRS := Lib.hid hrs
      have HHas := Lib.hid hhas
      have HnB := Lib.hid hnB
      have HOK := Lib.hid (And.intro hok0 hokF)
      have hlen100 : O.length ≤ 100 := by omega
      clear hnw p1 p2 p3 t1 t2 t3 hrs hhas hnB hok0 hokF hB0 hsp c4
      obtain ⟨b, o, rfl, hbc⟩ := hb.at_ (by omega)
      go_enter Try.func7, Try.ntmps7
      go_wp2_with (go_at_call 11; refine (awake_calls _).mono ?_; rintro e w1 ⟨rfl, hx1⟩)
      go_wp2_with fail
      refine (HN.out _).mono ?_
      rintro e w2 ⟨hx2, hp⟩
      simp only [if_true] at hp
      obtain ⟨pb, rfl, hbu⟩ := hp
      have hB := HnB.out _ _ _ _ hbu.out
      have hx02 := hx1.trans hx2
      have hlo := hx1.size
      have hhi := hx2.size
      clear hbu HN HnB
      have hown0 := World.ownsRow_lit (base := w2.heap.size) (size := 1) (e := 5) w2 #[] 0 (Nat.le_refl _) (by simp [maxLen]) rfl
      have hxa : Ext w2 (w2.alloc (.cells #[] 5)) := (Ext.refl w2).alloc _
      have hR := bytes_reads (hb.ext (hx02.trans hxa))
      go_wp2_with (at_builtin; refine wpList_append_src _ rfl _ _ 43 rfl w2.heap.size 5 _ 1 1 Try.underlying43 infoByte rfl (by omega) (.slice (some ⟨w2.heap.size, 0, none⟩) 0 0) 0 [] rfl hown0 _ _ _ _ _ rfl hR (bytes_plain O) (by simp [maxLen]; omega) (by omega) hxa.size ?_; intro v3 w3 hown hm; have hx3 := ext_moved hxa hown0 hm; rw [Nat.zero_add, List.nil_append] at hown; obtain ⟨A3, c3', rfl, hc3⟩ := own_shape hown)
      have hP1 := put_calls w1.heap.size w2.heap.size pb B0 0 A3 c3' O w3 (hB.ext hx3) HOK.out.1 hx3.size (bytes_of_own hown) hc3 (by omega) (by decide) (by decide) ((newA_of hown (Nat.le_refl _)).out (Nat.le_refl _))
      rw [HP.out.1, HP.out.2.1, HP.out.2.2] at hP1
      refine hP1.mono ?_
      rintro e w4 ⟨rfl, hb4, hc4⟩
      have hxw4 : Ext w w4 := ((Chg.of_ext hx3).trans hc4).ext hx02 hlo
      have hh4 : w2.heap.size ≤ w4.heap.size := Nat.le_trans hx3.size hc4.size
      clear hP1 HP hown hm hc4 hx3 hxa hB hR hown0
      go_wp2_with fail
      refine (HRS.out _).mono ?_
      rintro e w5 ⟨rfl, hx5⟩
      have b9 := heap_alloc_new w5 (.cells #[.int .i64 F, .int .i64 T] 24)
      have hx6 : Ext w4 (w5.alloc (.cells #[.int .i64 F, .int .i64 T] 24)) := hx5.alloc _
      have hn9 : w2.heap.size ≤ w5.heap.size := Nat.le_trans hh4 hx5.size
      go_upto_region 9 with (fail)
      generalize hw6 : w5.alloc (.cells #[.int .i64 F, .int .i64 T] 24) = w6 at *
      generalize w5.heap.size = n9 at *
      clear hw6 hx5 HRS
      have hown0 := World.ownsRow_lit (base := w6.heap.size) (size := 1) (e := 5) w6 #[] 0 (Nat.le_refl _) (by simp [maxLen]) rfl
      have hxa : Ext w6 (w6.alloc (.cells #[] 5)) := (Ext.refl w6).alloc _
      have hR := bytes_reads (hb.ext ((hxw4.trans hx6).trans hxa))
      have hk0 : (0 : Int) ≤ (k : Int) := by omega
      have hk1 : (k : Int) < (O.length : Int) := by omega
      have hq : (bytesL O)[k]? = some (.int .u8 (O[k].toNat : Int)) := by simp [bytesL, hkl]
      have hnx := wrap_next O[k]
      have hset := bytesL_set O k (O[k] + 1)
      generalize O[k] = x at *
      have HSET := Lib.hid hset
      clear hset
      go_wp2_with (at_builtin; refine wpList_append_src _ rfl _ _ 43 rfl w6.heap.size 5 _ 1 1 Try.underlying43 infoByte rfl (by omega) (.slice (some ⟨w6.heap.size, 0, none⟩) 0 0) 0 [] rfl hown0 _ _ _ _ _ rfl hR (bytes_plain O) (by simp [maxLen]; omega) (by omega) hxa.size ?_; intro v3 w7 hown hm; have hx7 := ext_moved hxa hown0 hm; rw [Nat.zero_add, List.nil_append] at hown; obtain ⟨g7, c7, hv7, hg7, _⟩ := hown.form (by omega); subst hv7; have qk : w7.cell? ⟨g7, k, none⟩ = some (.int .u8 (x.toNat : Int)) := (by rw [hown.cellAt _ (by omega)]; exact hq); have fk : w7.frozen? ⟨g7, k, none⟩ = false := hown.frozenAt _)
      have hv : ((x.toNat : Int) + 1) % 256 = ((x + 1).toNat : Int) := hnx
      rw [hv]
      obtain ⟨hst, _⟩ := hown.stored k (.int .u8 ((x + 1).toNat : Int))
      rw [HSET.out] at hst
      have hx8 : Ext w6 (w7.setCell ⟨g7, k, none⟩ (.int .u8 ((x + 1).toNat : Int))) := hx7.setCell (p := ⟨g7, k, none⟩) hg7 _
      have hPl : (O.set k (x + 1)).length = O.length := by simp
      have hc7 : O.length ≤ c7 := by obtain ⟨A', c', e, h⟩ := own_shape hst; cases e; exact h
      generalize w7.setCell ⟨g7, k, none⟩ (.int .u8 ((x + 1).toNat : Int)) = w8 at *
      have hP1 := put_calls w1.heap.size w2.heap.size pb (fullB 8 O.length F T O) 0 (some ⟨g7, 0, none⟩) c7 (O.set k (x + 1)) w8 (hb4.out.ext (hx6.trans hx8)) HOK.out.2 (Nat.le_trans hh4 (hx6.trans hx8).size) (bytes_of_own hst) (by omega) (by omega) (by decide) (by decide) (fun b o e => by cases e; exact .inr (Nat.le_trans (Nat.le_trans hh4 hx6.size) hg7))
      rw [HT.out.1, HT.out.2.1, HT.out.2.2, hPl] at hP1
      have hHas := HHas.out
      have hwh := fun W h => whole_calls (Z := OutW w1.heap.size w2.heap.size) w1.heap.size w2.heap.size pb (fullB 8 O.length F T O) W h HOK.out.2
      unfold WholePost at hwh
      have hho : holdsS (fullB 8 O.length F T O).hs (fullB 8 O.length F T O).f (fullB 8 O.length F T O).t = true := holds_one ⟨c0, c1, by show T ≤ _; omega⟩ (Int.le_refl _) c1
      rw [hho] at hwh
      have hfl : ((O.drop F.toNat).take (T - F).toNat).length = (T - F).toNat := by simp; omega
      have htk : (fullB 8 O.length F T O).bs.take ((fullB 8 O.length F T O).t - (fullB 8 O.length F T O).f).toNat = (O.drop F.toNat).take (T - F).toNat := List.take_of_length_le (by show ((O.drop F.toNat).take (T - F).toNat).length ≤ (T - F).toNat; omega)
      rw [htk] at hwh
      obtain ⟨fN, hfN⟩ : ∃ fN : Nat, F = fN := ⟨F.toNat, by omega⟩
      obtain ⟨dN, hdN⟩ : ∃ dN : Nat, T - F = dN := ⟨(T - F).toNat, by omega⟩
      have e1 : (decide (F ≤ (k : Int)) && decide ((k : Int) < T)) = decide (F ≤ (k : Int) ∧ (k : Int) < T) := by simp
      rw [e1] at hHas
      obtain ⟨E, hE⟩ : ∃ E : Bool, decide (F ≤ (k : Int) ∧ (k : Int) < T) = E := ⟨_, rfl⟩
      obtain ⟨EV, hE2⟩ : ∃ EV, (if F ≤ (k : Int) ∧ (k : Int) < T then (12 : Int) else 0) = EV := ⟨_, rfl⟩
      have hEE : (E = true ∧ EV = 12) ∨ (E = false ∧ EV = 0) := by
        by_cases h : F ≤ (k : Int) ∧ (k : Int) < T
        · rw [if_pos h] at hE2
          rw [decide_eq_true h] at hE
          exact .inl ⟨hE.symm, hE2.symm⟩
        · rw [if_neg h] at hE2
          rw [decide_eq_false h] at hE
          exact .inr ⟨hE.symm, hE2.symm⟩
      have HEE := Lib.hid hEE
      clear hEE
      rw [hE] at hHas
      rw [hE2] at hP1
      have HW := Lib.hid hwh
      have HH := Lib.hid hHas
      have HP1 := Lib.hid hP1
      have HFL := Lib.hid (And.intro hfl (And.intro hfN hdN))
      clear hwh hHas hP1 hho htk e1 hE hE2 hfl hfN hdN HHas HT hown hm hst HSET hnx hv qk fk hx7 hR hown0 hq hxa
      refine HP1.out.mono ?_
      rintro e w9 ⟨rfl, hb9, hc9⟩
      replace b9 := hc9.keep (hx8.block b9) (.inr hn9)
      have hxw9 : Ext w w9 := ((((Chg.of_ext (hx6.trans hx8)).trans hc9)).ext hxw4 hlo)
      clear HP1 hc9 hx8
      go_wp2_with fail
      refine (HW.out _ hb9.out).mono ?_
      rintro e w10 ⟨hx10, hp⟩
      simp only [if_true] at hp
      obtain ⟨A9, c9, rfl, hw9⟩ := hp
      replace b9 := hx10.block b9
      have hxw10 := hxw9.trans hx10
      have hb10 := hb.ext hxw10
      have ht10 : ((fullB 8 O.length F T O).t - (fullB 8 O.length F T O).f).toNat = (T - F).toNat := rfl
      rw [ht10]
      have hB9 : BytesAt w10 A9 ((O.drop F.toNat).take (T - F).toNat) := bytes_of_own hw9.out
      obtain ⟨hfl, hfN, hdN⟩ := HFL.out
      have hsl : BytesAt w10 (some ⟨b, o + fN, none⟩) ((O.drop F.toNat).take (T - F).toNat) := fun j hj => by
        refine ⟨b, o + fN, rfl, ?_⟩
        obtain ⟨b', o', e, hcell⟩ := hb10 (fN + j) (by omega)
        cases e
        rw [List.getElem_take, List.getElem_drop]
        have e2 : F.toNat = fN := by omega
        simp only [e2]
        rw [Nat.add_assoc]
        exact hcell
      have cv1 : ∀ W, Ext w10 W → (convert 43 9 (.slice A9 dN c9)).run Try.prog W = .ok (.string ⟨((O.drop F.toNat).take (T - F).toNat).toArray⟩) W := fun W h => by
        have := conv_bytes W A9 _ c9 (hB9.ext h)
        rw [hfl, show (T - F).toNat = dN by omega] at this
        rw [show (T - F).toNat = dN by omega]
        exact this
      have cv2 : ∀ W, Ext w10 W → (convert 43 9 (.slice (some ⟨b, o + fN, none⟩) dN (c - fN))).run Try.prog W = .ok (.string ⟨((O.drop F.toNat).take (T - F).toNat).toArray⟩) W := fun W h => by
        have := conv_bytes W (some ⟨b, o + fN, none⟩) _ (c - fN) (hsl.ext h)
        rw [hfl, show (T - F).toNat = dN by omega] at this
        rw [show (T - F).toNat = dN by omega]
        exact this
      rw [show (T - F).toNat = dN by omega]
      generalize (⟨((O.drop F.toNat).take (T - F).toNat).toArray⟩ : ByteArray) = str at *
      have y0 : w10.cell? ⟨n9, 0, none⟩ = some (.int .i64 F) := by rw [cell_of_row _ _ _ _ _ _ b9]; rfl
      have y1 : w10.cell? ⟨n9, 1, none⟩ = some (.int .i64 T) := by rw [cell_of_row _ _ _ _ _ _ b9]; rfl
      obtain ⟨tN, htN⟩ : ∃ tN : Nat, T = tN := ⟨T.toNat, by omega⟩
      have z1 : tN - fN = dN := by omega
      have z2 : fN ≤ tN := by omega
      have z3 : tN ≤ c := by omega
      have z4 : ¬ c = fN := by omega
      have z5 : (fN : Int) ≤ (tN : Int) := by omega
      have z6 : (tN : Int) ≤ (c : Int) := by omega
      subst hfN
      subst htN
      clear hdN hB9 hsl hb10 hw9 HW HFL b9 hx10
      have HC := Lib.hid (And.intro cv1 cv2)
      clear cv1 cv2
      go_wp2
      refine wp_region_ext_lit (by kernel_rfl) (by kernel_rfl) ?_
      intro X _ g hg hg'
      have k0 : ∀ n, (g n).cell? ⟨n9, 0, none⟩ = some (.int .i64 fN) := fun n => (hg n).cell y0
      have k1 : ∀ n, (g n).cell? ⟨n9, 1, none⟩ = some (.int .i64 tN) := fun n => (hg n).cell y1
      have k2 : ∀ n, (convert 43 9 (.slice A9 dN c9)).run Try.prog (g n) = .ok (.string str) (g n) := fun n => HC.out.1 _ (hg n)
      have k3 : ∀ n, (convert 43 9 (.slice (some ⟨b, o + fN, none⟩) dN (c - fN))).run Try.prog (g n) = .ok (.string str) (g n) := fun n => HC.out.2 _ (hg n)
      repeat (go_big_quiet_step (fail))
      refine wpQuiet_nil ?_
      rintro w' ⟨n, rfl⟩
      have hxg := hg n
      replace y0 := hxg.cell y0
      replace y1 := hxg.cell y1
      clear hg hg' k0 k1 k2 k3 HC
      generalize g n = wg at *
      have hxF := hxw10.trans hxg
      rcases HEE.out with ⟨rfl, rfl⟩ | ⟨rfl, rfl⟩
      all_goals
        go_wp2_with (go_at_call 33; refine (HH.out _).mono ?_; rintro e w11 ⟨rfl, hx11⟩)
        go_ret
        exact ⟨rfl, hxF.trans hx11⟩
end Go.Proofs.Ytoahjhkfnchdhaa
