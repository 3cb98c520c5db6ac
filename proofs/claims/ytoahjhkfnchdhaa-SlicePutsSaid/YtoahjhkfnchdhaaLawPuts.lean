/- SlicePuts: the walk. -/
import Derived.Test.YtoahjhkfnchdhaaOpenp
import Derived.Test.YtoahjhkfnchdhaaRwhole
import Derived.Test.YtoahjhkfnchdhaaRseal
import Derived.Test.YtoahjhkfnchdhaaAwake
namespace Go.Proofs.Ytoahjhkfnchdhaa
open Go.RowKit

theorem ne_out {rb b : Nat} (h : b ≠ rb) : OutW rb (rb + 1) b := by unfold OutW; omega

set_option maxHeartbeats 8000000 in
set_option maxRecDepth 100000 in
theorem lawPuts_calls (x0 x1 x2 : Int) (A : Option Addr) (c : Nat) (l : List Ap) (w : World) (hA : ActsAt w A l) :
    Calls Try.prog 5 #[.agg #[.int .i64 x0, .int .i64 x1, .int .i64 x2], .slice A l.length c] w fun e w' => e = .returned (.bool true) ∧ Ext w w' := by
  have b0 := heap_alloc_new w (.cells #[.int .i64 x0, .int .i64 x1, .int .i64 x2] 33)
  have hx0 : Ext w (w.alloc (.cells #[.int .i64 x0, .int .i64 x1, .int .i64 x2] 33)) := (Ext.refl w).alloc _
  go_enter Try.func5, Try.ntmps5
  go_wp2_with (go_at_call 11; refine (awake_calls _).mono ?_; rintro e w1 ⟨rfl, hx1⟩; replace b0 := hx1.block b0; replace hx0 := hx0.trans hx1; have y0 : w1.cell? ⟨w.heap.size, 0, none⟩ = some (.int .i64 x0) := (by rw [cell_of_row _ _ _ _ _ _ b0]; rfl); have y1 : w1.cell? ⟨w.heap.size, 1, none⟩ = some (.int .i64 x1) := (by rw [cell_of_row _ _ _ _ _ _ b0]; rfl); have y2 : w1.cell? ⟨w.heap.size, 2, none⟩ = some (.int .i64 x2) := (by rw [cell_of_row _ _ _ _ _ _ b0]; rfl))
  refine (great_calls x1 A c l _ (hA.ext hx0)).mono ?_
  rintro e w2 ⟨g, rfl, hx2, hg⟩
  replace hx0 := hx0.trans hx2
  replace y0 := hx2.cell y0
  replace y1 := hx2.cell y1
  replace y2 := hx2.cell y2
  cases g
  case true =>
    clear hg b0 hx1 hA
    go_wp2_with (go_at_call 11; refine (awake_calls _).mono ?_; rintro e w3 ⟨rfl, hx3⟩)
    go_ret
    exact ⟨rfl, hx0.trans hx3⟩
  case false =>
    obtain ⟨g1, g2, g3⟩ := hg rfl
    clear hg b0 hx1
    have hnP := fun W => new2_calls x0 x1 x2 g1 W
    have hnR := fun W => refnew_calls x0 x1 x2 g1 W
    unfold NewPost2 at hnP
    unfold RefNewPost at hnR
    cases eO : spanOk x0 x1 x2
    · simp only [eO] at hnP hnR
      have HNP := Lib.hid fun W => (hnP W).mono fun e w' h => (show Ext W w' ∧ e = .returned (.tuple #[.pointer none, .int .i64 1]) from ⟨h.1, by simpa using h.2⟩)
      have HNR := Lib.hid fun W => (hnR W).mono fun e w' h => (show Ext W w' ∧ e = .returned (.tuple #[.pointer none, .bool false]) from ⟨h.1, by simpa using h.2⟩)
      clear hnP hnR eO g3 hA
      go_wp2_with fail
      refine (HNP.out _).mono ?_
      rintro e w3 ⟨hx3, rfl⟩
      replace y0 := hx3.cell y0
      replace y1 := hx3.cell y1
      replace y2 := hx3.cell y2
      go_wp2_with fail
      refine (HNR.out _).mono ?_
      rintro e w4 ⟨hx4, rfl⟩
      go_wp2
      go_ret
      exact ⟨rfl, (hx0.trans hx3).trans hx4⟩
    · simp only [eO, if_true] at hnP hnR
      have hrel := rel_new eO g1
      have hB0 : ∀ Z lo hi W pb, BufZ Z lo hi W pb ⟨x1, x2, x0 * x1, cutE x0 x1 x2, List.replicate (cutE x0 x1 x2 - x0 * x1).toNat 0, []⟩ → BufZ Z lo hi W pb (newB x0 x1 x2) := fun _ _ _ _ _ h => h
      generalize newB x0 x1 x2 = B0 at *
      have HNP := Lib.hid hnP
      have HNR := Lib.hid hnR
      have HB0 := Lib.hid hB0
      have HR0 := Lib.hid hrel
      have HA := Lib.hid hA
      have HG3 := Lib.hid g3
      clear hnP hnR eO hrel hB0 hA g3
      go_wp2_with fail
      refine (HNP.out _).mono ?_
      rintro e w3 ⟨hx3, pb, rfl, hbu⟩
      replace y0 := hx3.cell y0
      replace y1 := hx3.cell y1
      replace y2 := hx3.cell y2
      go_wp2_with fail
      refine (HNR.out _).mono ?_
      rintro e w4 ⟨hx4, rb, rfl, hrb, hrbl⟩
      have hbz : BufZ (fun b => OutW w2.heap.size w3.heap.size b ∧ b ≠ rb) w2.heap.size w3.heap.size w4 pb B0 := (HB0.out _ _ _ _ _ (hbu.out _ _ _ (Nat.le_refl _) (Nat.le_refl _))).ext hx4
      have hxw4 := (hx0.trans hx3).trans hx4
      have hlo := hx0.size
      have hhi := hx3.size
      have h34 := hx4.size
      have hrlo : w3.heap.size ≤ rb := by obtain ⟨_, _, _, h, _⟩ := hrb.out; exact h
      have hrhi : rb < w4.heap.size := by obtain ⟨_, _, h, _⟩ := hrb.out; exact (Array.getElem?_eq_some_iff.1 h).1
      have HBZ := Lib.hid hbz
      clear hbu HNP HNR HB0 y0 y1 y2 hx0 hx2 hx3 hx4 hbz
      go_wp2_with fail
      go_loopw [74] (fun i wr => ∃ (k : Nat) (B : Bf) (R : Rb), k ≤ l.length ∧ i = .int .i64 k ∧ Hid (Rel B R) ∧ Hid (BufZ (fun b => OutW w2.heap.size w3.heap.size b ∧ b ≠ rb) w2.heap.size w3.heap.size wr pb B) ∧ Hid (RbAt w3.heap.size wr rb R) ∧ Ext w wr ∧ w4.heap.size ≤ wr.heap.size) (fun i _ => l.length - (intOf i).toNat)
      case atStart => exact ⟨0, B0, _, Nat.zero_le _, rfl, HR0, HBZ, hrb, hxw4, Nat.le_refl _⟩
      case round =>
        clear HR0 HBZ hrb hxw4
        obtain ⟨k, B, R, hk, rfl, hr, hbz, hrb, hxw, hsz⟩ := hrel
        by_cases hlt : k < l.length
        · obtain ⟨b1, o1, hA1, p0, p1, p2, p3, p4, p5⟩ := HA.out.ext hxw k hlt
          have p3' : BytesAt w l[k].A l[k].b := by obtain ⟨_, _, _, _, _, _, h, _⟩ := HA.out k hlt; exact h
          have hb100 := HG3.out k hlt
          have i0 : (0 : Int) ≤ (k : Int) := by omega
          have i1 : (k : Int) < (l.length : Int) := by omega
          have HAC := Lib.hid hA1
          generalize l[k] = a at *
          subst hA1
          have ba := heap_alloc_new wr (.cells #[.int .i64 a.k, .int .i64 a.n, .slice a.A a.b.length a.c] 45)
          have hxa : Ext wr (wr.alloc (.cells #[.int .i64 a.k, .int .i64 a.n, .slice a.A a.b.length a.c] 45)) := (Ext.refl wr).alloc _
          go_upto_region 11 with (fail)
          generalize hwa : wr.alloc (.cells #[.int .i64 a.k, .int .i64 a.n, .slice a.A a.b.length a.c] 45) = wa at *
          obtain ⟨xa, hxaa⟩ : ∃ xa, wr.heap.size = xa := ⟨_, rfl⟩
          rw [hxaa] at ba ⊢
          have hbz2 := hbz.out.ext hxa
          have hrb2 := hrb.out.ext hxa
          have hxw2 := hxw.trans hxa
          have hza := hxa.size
          have hpb := p3.ext hxa
          have q1 : wa.cell? ⟨xa, 1, none⟩ = some (.int .i64 a.n) := by rw [cell_of_row _ _ _ _ _ _ ba]; rfl
          have q2 : wa.cell? ⟨xa, 2, none⟩ = some (.slice a.A a.b.length a.c) := by rw [cell_of_row _ _ _ _ _ _ ba]; rfl
          have HBZ := Lib.hid hbz2
          have HRB := Lib.hid hrb2
          have hxl : xa < wa.heap.size := (Array.getElem?_eq_some_iff.1 ba).1
          have HPB := Lib.hid hpb
          clear hwa hxa hbz hrb p0 p1 p2 p3 hxw hbz2 hrb2 hpb
          by_cases h1 : a.k = 1
          · have e1 : (a.k == 1) = true := by simpa using h1
            have hz2w : ∀ b, wa.heap.size ≤ b → OutW w2.heap.size w3.heap.size b ∧ b ≠ rb := fun b h => ⟨.inr (by omega), by omega⟩
            have hPut := fun A3 c3 W h1 h2 h3 h4 h5 h6 h7 => putZ_calls (fun b => OutW w2.heap.size w3.heap.size b ∧ b ≠ rb) w2.heap.size w3.heap.size pb B a.n A3 c3 a.b W h1 (fun b h => h.1) h2 hr.out.ok h3 h4 h5 (by omega) p4 (by omega) h7
            have hRPut := fun W h1 h2 h3 => refput_calls w3.heap.size rb B R hr.out a.n a.A a.c a.b W h1 h2 h3 hb100 p4 p5
            have HPUT := Lib.hid hPut
            have HRPUT := Lib.hid hRPut
            have HZ2 := Lib.hid hz2w
            have hownD : ((wa.alloc (.cells #[] 5)).drew).ownsRow wa.heap.size 5 1 (.slice (some ⟨wa.heap.size, 0, none⟩) 0 0) 0 [] := (World.ownsRow_lit (base := wa.heap.size) (size := 1) (e := 5) wa #[] 0 (Nat.le_refl _) (by simp [maxLen]) rfl).drew
            have hxD : Ext wa (wa.alloc (.cells #[] 5)).drew := ((Ext.refl wa).alloc _).drew
            have hR := bytes_reads (HPB.out.ext hxD)
            have HE := Lib.hid (Ext.refl wa).drew
            have hhi4 : w3.heap.size ≤ wa.heap.size := by omega
            have hxi : w3.heap.size ≤ xa := by omega
            have keep : Hid (∀ W, Ext wa W → W.cell? ⟨xa, 1, none⟩ = some (.int .i64 a.n) ∧ W.cell? ⟨xa, 2, none⟩ = some (.slice a.A a.b.length a.c)) := Lib.hid fun W hE => ⟨hE.cell q1, hE.cell q2⟩
            obtain ⟨nb, hnb⟩ : ∃ nb, a.b.length = nb := ⟨_, rfl⟩
            obtain ⟨news, hnews⟩ : ∃ news, bytesL a.b = news := ⟨_, rfl⟩
            have hpl : ∀ u ∈ news, u.oneCell' = true := by rw [← hnews]; exact bytes_plain _
            rw [hnews] at hR
            rw [hnb] at HPUT HRPUT hR q2 keep hb100
            have HNEWS := Lib.hid (And.intro hnews hnb)
            clear hPut hRPut h1 hz2w hnews hnb
            go_wp2
            go_region_held3 (fun w' => w'.cell? ⟨xa, 1, none⟩ = some (.int .i64 a.n) ∧ w'.cell? ⟨xa, 2, none⟩ = some (.slice a.A nb a.c))
              ((first
                | exact keep.out _ HE.out
                | exact keep.out _ hxD
                | exact keep.out _ hx5
                | exact ⟨hc6.cell (hx5.cell q1) (.inr hxi), hc6.cell (hx5.cell q2) (.inr hxi)⟩))
              (first
                | (refine step_append_src _ (by rfl) _ _ _ (by rfl) wa.heap.size 5 _ 1 1 Try.underlying43 infoByte rfl (by omega) (.slice (some ⟨wa.heap.size, 0, none⟩) 0 0) 0 [] (by rfl) hownD _ _ _ _ news (by rfl) hR hpl (by simp [maxLen] <;> omega) (by omega) hxD.size ?_
                   intro v5 w5 hown5 hm5
                   have hx5 := ext_moved hxD hownD hm5
                   rw [Nat.zero_add, List.nil_append, ← HNEWS.out.1] at hown5
                   obtain ⟨A3, c3, rfl, hc3⟩ := own_shape hown5
                   have HOWN5 := Lib.hid hown5)
                | (go_at_call 23
                   with_reducible refine (HPUT.out A3 c3 w5 (HBZ.out.ext hx5) (fun b h => HZ2.out b (Nat.le_trans hx5.size h)) (Nat.le_trans hhi4 hx5.size) (bytes_of_own HOWN5.out) (by have := HNEWS.out.2; omega) (by omega) ((newA_of HOWN5.out (Nat.le_refl _)).out hhi4)).mono ?_
                   rintro e w6 ⟨rfl, hb6, hc6⟩))
            have hrb6 := (HRB.out.ext hx5).chg hc6 (Nat.le_refl _)
            have hxw6 := ((Chg.of_ext hx5).trans hc6).ext hxw2 hlo
            have hz6 := Nat.le_trans hx5.size hc6.size
            have hpb6 : BytesAt w6 a.A a.b := p3'.ext hxw6
            have y1 := hc6.cell (hx5.cell q1) (.inr hxi)
            have y2 := hc6.cell (hx5.cell q2) (.inr hxi)
            clear HPUT hownD hxD hR HE keep HNEWS HOWN5 hx5 hm5 hc6 HRB HBZ HPB q1 q2 ba HZ2 hpl hown5
            go_wp2_with fail
            refine (HRPUT.out w6 hrb6 (by omega) hpb6).mono ?_
            rintro e w7 ⟨bs', ⟨rfl, hrb7, hc7⟩, hrel7⟩
            have hbz7 := hb6.out.chg hc7 (.inl hrlo) (fun b h => ne_out h.2)
            have hxn := hc7.ext hxw6 (by omega)
            have hzn : w4.heap.size ≤ w7.heap.size := by have := hc7.size; omega
            obtain ⟨B2, hB2⟩ : ∃ B2, B.put a.n a.b = B2 := ⟨_, rfl⟩
            obtain ⟨PN, hPN⟩ : ∃ PN, B.putN a.n a.b = PN := ⟨_, rfl⟩
            obtain ⟨PE, hPE⟩ : ∃ PE, B.putE a.n a.b = PE := ⟨_, rfl⟩
            rw [hB2] at hrel7 hbz7
            rw [hPN, hPE]
            obtain ⟨R2, hR2⟩ : ∃ R2 : Rb, { R with bs := bs' } = R2 := ⟨_, rfl⟩
            rw [hR2] at hrel7 hrb7
            have HBZ := Lib.hid hbz7
            have HRB := hrb7
            replace hr := Lib.hid hrel7
            clear HRPUT hrb6 hpb6 hb6 hbz7 hrb7 hrel7 hc7 hR2 hPN hPE hB2 y1 y2 hxw6
            revert hr HBZ HRB
            generalize B2 = B
            generalize R2 = R
            intro HBZ HRB hr
            have hwh := fun W h => whole_calls (Z := (fun b => OutW w2.heap.size w3.heap.size b ∧ b ≠ rb)) w2.heap.size w3.heap.size pb B W h hr.out.ok
            have hrw := fun W h => rwhole_calls w3.heap.size rb B R hr.out W h
            unfold WholePost at hwh hrw
            have hbl := hr.out.ok.len
            have hft := hr.out.ok.ft
            have hSl : (B.bs.take (B.t - B.f).toNat).length = (B.t - B.f).toNat := by rw [List.length_take]; omega
            generalize B.bs.take (B.t - B.f).toNat = S at *
            generalize (B.t - B.f).toNat = nn at *
            clear hbl hft
            cases hH : holdsS B.hs B.f B.t
            · simp only [hH] at hwh hrw
              have HW := Lib.hid fun W h => (hwh W h).mono fun e w' h => (show Ext W w' ∧ e = .returned (.tuple #[.slice none 0 0, .bool false]) from ⟨h.1, by simpa using h.2⟩)
              have HRW := Lib.hid fun W h => (hrw W h).mono fun e w' h => (show Ext W w' ∧ e = .returned (.tuple #[.slice none 0 0, .bool false]) from ⟨h.1, by simpa using h.2⟩)
              clear hwh hrw hH hSl
              go_wp2_with fail
              refine (HW.out _ HBZ.out).mono ?_
              rintro e wA ⟨hxA, rfl⟩
              have hrbA := HRB.out.ext hxA
              have hbzA := HBZ.out.ext hxA
              go_wp2_with fail
              refine (HRW.out _ hrbA).mono ?_
              rintro e wB ⟨hxB, rfl⟩
              have HRB2 := Lib.hid (hrbA.ext hxB)
              have HBZ2 := Lib.hid (hbzA.ext hxB)
              have hxw5 := (hxn.trans hxA).trans hxB
              have hz5 := Nat.le_trans (Nat.le_trans hzn hxA.size) hxB.size
              clear hrbA hbzA HRB HBZ HW HRW
              go_wp2_with (first
                | (go_at_call 29; refine (samebytes_calls none none 0 0 0 [] rfl _ (fun j hj => by simp at hj) (fun j hj => by simp at hj)).mono ?_; rintro e wC ⟨rfl, rfl⟩)
                | (go_at_call 31; refine (has_calls _ _ pb B _ HBZ2.out hr.out.ok.hlen).mono ?_; rintro e wD ⟨vD, rfl, hoD, hxD⟩; obtain ⟨AD, cD, rfl, _⟩ := own_shape hoD; have hSD := Lib.hid (sat_of_own hoD))
                | (go_at_call 32; refine (rhas_calls _ rb B R hr.out _ (HRB2.out.ext hxD)).mono ?_; rintro e wE ⟨vE, rfl, hoE, hxE⟩; obtain ⟨AE, cE, rfl, _⟩ := own_shape hoE; have hSE := Lib.hid (sat_of_own hoE))
                | (go_at_call 30; refine (samespans_calls AD AE cD cE B.hs _ (hSD.out.ext hxE) hSE.out (by have := hr.out.ok.hlen; omega)).mono ?_; rintro e wF ⟨rfl, hxF⟩))
              have hxt := (hxD.trans hxE).trans hxF
              go_roundw
              case rel => exact ⟨k + 1, B, R, by omega, by go_num, hr, Lib.hid (HBZ2.out.ext hxt), Lib.hid (HRB2.out.ext hxt), hxw5.trans hxt, Nat.le_trans hz5 hxt.size⟩
              case measure => simp [intOf]; omega
            · simp only [hH, if_true] at hwh hrw
              have HW := Lib.hid hwh
              have HRW := Lib.hid hrw
              have HSL := Lib.hid hSl
              clear hwh hrw hH hSl
              go_wp2_with fail
              refine (HW.out _ HBZ.out).mono ?_
              rintro e wA ⟨hxA, AA, cA, rfl, hoA⟩
              have hBA := Lib.hid (bytes_of_own (l := S) hoA.out)
              have hrbA := HRB.out.ext hxA
              have hbzA := HBZ.out.ext hxA
              go_wp2_with fail
              refine (HRW.out _ hrbA).mono ?_
              rintro e wB ⟨hxB, AB, cB, rfl, hoB⟩
              have hBB := Lib.hid (bytes_of_own (l := S) hoB.out)
              have HRB2 := Lib.hid (hrbA.ext hxB)
              have HBZ2 := Lib.hid (hbzA.ext hxB)
              have hxw5 := (hxn.trans hxA).trans hxB
              have hz5 := Nat.le_trans (Nat.le_trans hzn hxA.size) hxB.size
              clear hrbA hbzA HRB HBZ HW HRW
              go_wp2_with (first
                | (go_at_call 29; refine (samebytes_calls AA AB cA cB nn S HSL.out _ (hBA.out.ext hxB) hBB.out).mono ?_; rintro e wC ⟨rfl, rfl⟩)
                | (go_at_call 31; refine (has_calls _ _ pb B _ HBZ2.out hr.out.ok.hlen).mono ?_; rintro e wD ⟨vD, rfl, hoD, hxD⟩; obtain ⟨AD, cD, rfl, _⟩ := own_shape hoD; have hSD := Lib.hid (sat_of_own hoD))
                | (go_at_call 32; refine (rhas_calls _ rb B R hr.out _ (HRB2.out.ext hxD)).mono ?_; rintro e wE ⟨vE, rfl, hoE, hxE⟩; obtain ⟨AE, cE, rfl, _⟩ := own_shape hoE; have hSE := Lib.hid (sat_of_own hoE))
                | (go_at_call 30; refine (samespans_calls AD AE cD cE B.hs _ (hSD.out.ext hxE) hSE.out (by have := hr.out.ok.hlen; omega)).mono ?_; rintro e wF ⟨rfl, hxF⟩))
              have hxt := (hxD.trans hxE).trans hxF
              go_roundw
              case rel => exact ⟨k + 1, B, R, by omega, by go_num, hr, Lib.hid (HBZ2.out.ext hxt), Lib.hid (HRB2.out.ext hxt), hxw5.trans hxt, Nat.le_trans hz5 hxt.size⟩
              case measure => simp [intOf]; omega
          · by_cases h2 : a.k = 2
            · have e1 : (a.k == 1) = false := by simpa using h1
              have e2 : (a.k == 2) = true := by simpa using h2
              have hSeal := fun W h1 h2 => sealZ_calls (fun b => OutW w2.heap.size w3.heap.size b ∧ b ≠ rb) w2.heap.size w3.heap.size pb B a.n W h1 (fun b h => h.1) hr.out.ok h2
              have hRSeal := fun W h => rseal_calls w3.heap.size rb B R hr.out a.n W h
              unfold RefSealPost at hRSeal
              obtain ⟨BS, hBS⟩ : ∃ BS, B.seal a.n = BS := ⟨_, rfl⟩
              obtain ⟨SE, hSE⟩ : ∃ x, B.sealE a.n = x := ⟨_, rfl⟩
              simp only [hBS, hSE] at hSeal hRSeal
              obtain ⟨R2, hR2⟩ : ∃ R2 : Rb, { R with n := BS.n } = R2 := ⟨_, rfl⟩
              simp only [hR2] at hRSeal
              have HSEAL := Lib.hid hSeal
              have HRSEAL := Lib.hid hRSeal
              have HE := Lib.hid (Ext.refl wa).drew
              have hhi4 : w3.heap.size ≤ wa.heap.size := by omega
              have hxi : w3.heap.size ≤ xa := by omega
              have hrx : rb + 1 ≤ xa := by omega
              have keep : Hid (∀ W, Ext wa W → W.cell? ⟨xa, 1, none⟩ = some (.int .i64 a.n)) := Lib.hid fun W hE => hE.cell q1
              clear hSeal hRSeal h1 h2 HPB q2 ba hBS hSE hR2
              go_wp2
              go_region_held3 (fun w' => w'.cell? ⟨xa, 1, none⟩ = some (.int .i64 a.n))
                ((first
                  | exact keep.out _ (Ext.refl _)
                  | exact keep.out _ HE.out
                  | exact hc5.cell (keep.out _ HE.out) (.inr hxi)
                  | exact hc6.cell (hc5.cell (keep.out _ HE.out) (.inr hxi)) (.inr hrx)))
                (first
                  | (go_at_call 25
                     with_reducible refine (HSEAL.out _ (HBZ.out.ext HE.out) (Nat.le_trans hhi4 HE.out.size)).mono ?_
                     rintro e w5 ⟨rfl, hb5, hc5⟩)
                  | (go_at_call 26
                     with_reducible refine (HRSEAL.out _ ((HRB.out.ext HE.out).chg hc5 (Nat.le_refl _))).mono ?_
                     rintro e w6 ⟨⟨rfl, hrb6, hc6⟩, hrel6⟩))
              have hb6 := hb5.out.chg hc6 (.inl hrlo) (fun b h => ne_out h.2)
              have hxn := hc6.ext (((Chg.of_ext HE.out).trans hc5).ext hxw2 hlo) (by omega)
              have hzn : w4.heap.size ≤ w6.heap.size := by have := hc5.size; have := hc6.size; have := HE.out.size; omega
              have HBZ := Lib.hid hb6
              have HRB := hrb6
              replace hr := Lib.hid hrel6
              clear HSEAL HRSEAL hb5 hb6 hrb6 hrel6 hc5 hc6 HE keep q1
              revert hr HBZ HRB
              generalize BS = B
              generalize R2 = R
              intro HBZ HRB hr
              have hwh := fun W h => whole_calls (Z := (fun b => OutW w2.heap.size w3.heap.size b ∧ b ≠ rb)) w2.heap.size w3.heap.size pb B W h hr.out.ok
              have hrw := fun W h => rwhole_calls w3.heap.size rb B R hr.out W h
              unfold WholePost at hwh hrw
              have hbl := hr.out.ok.len
              have hft := hr.out.ok.ft
              have hSl : (B.bs.take (B.t - B.f).toNat).length = (B.t - B.f).toNat := by rw [List.length_take]; omega
              generalize B.bs.take (B.t - B.f).toNat = S at *
              generalize (B.t - B.f).toNat = nn at *
              clear hbl hft
              cases hH : holdsS B.hs B.f B.t
              · simp only [hH] at hwh hrw
                have HW := Lib.hid fun W h => (hwh W h).mono fun e w' h => (show Ext W w' ∧ e = .returned (.tuple #[.slice none 0 0, .bool false]) from ⟨h.1, by simpa using h.2⟩)
                have HRW := Lib.hid fun W h => (hrw W h).mono fun e w' h => (show Ext W w' ∧ e = .returned (.tuple #[.slice none 0 0, .bool false]) from ⟨h.1, by simpa using h.2⟩)
                clear hwh hrw hH hSl
                go_wp2_with fail
                refine (HW.out _ HBZ.out).mono ?_
                rintro e wA ⟨hxA, rfl⟩
                have hrbA := HRB.out.ext hxA
                have hbzA := HBZ.out.ext hxA
                go_wp2_with fail
                refine (HRW.out _ hrbA).mono ?_
                rintro e wB ⟨hxB, rfl⟩
                have HRB2 := Lib.hid (hrbA.ext hxB)
                have HBZ2 := Lib.hid (hbzA.ext hxB)
                have hxw5 := (hxn.trans hxA).trans hxB
                have hz5 := Nat.le_trans (Nat.le_trans hzn hxA.size) hxB.size
                clear hrbA hbzA HRB HBZ HW HRW
                go_wp2_with (first
                  | (go_at_call 29; refine (samebytes_calls none none 0 0 0 [] rfl _ (fun j hj => by simp at hj) (fun j hj => by simp at hj)).mono ?_; rintro e wC ⟨rfl, rfl⟩)
                  | (go_at_call 31; refine (has_calls _ _ pb B _ HBZ2.out hr.out.ok.hlen).mono ?_; rintro e wD ⟨vD, rfl, hoD, hxD⟩; obtain ⟨AD, cD, rfl, _⟩ := own_shape hoD; have hSD := Lib.hid (sat_of_own hoD))
                  | (go_at_call 32; refine (rhas_calls _ rb B R hr.out _ (HRB2.out.ext hxD)).mono ?_; rintro e wE ⟨vE, rfl, hoE, hxE⟩; obtain ⟨AE, cE, rfl, _⟩ := own_shape hoE; have hSE := Lib.hid (sat_of_own hoE))
                  | (go_at_call 30; refine (samespans_calls AD AE cD cE B.hs _ (hSD.out.ext hxE) hSE.out (by have := hr.out.ok.hlen; omega)).mono ?_; rintro e wF ⟨rfl, hxF⟩))
                have hxt := (hxD.trans hxE).trans hxF
                go_roundw
                case rel => exact ⟨k + 1, B, R, by omega, by go_num, hr, Lib.hid (HBZ2.out.ext hxt), Lib.hid (HRB2.out.ext hxt), hxw5.trans hxt, Nat.le_trans hz5 hxt.size⟩
                case measure => simp [intOf]; omega
              · simp only [hH, if_true] at hwh hrw
                have HW := Lib.hid hwh
                have HRW := Lib.hid hrw
                have HSL := Lib.hid hSl
                clear hwh hrw hH hSl
                go_wp2_with fail
                refine (HW.out _ HBZ.out).mono ?_
                rintro e wA ⟨hxA, AA, cA, rfl, hoA⟩
                have hBA := Lib.hid (bytes_of_own (l := S) hoA.out)
                have hrbA := HRB.out.ext hxA
                have hbzA := HBZ.out.ext hxA
                go_wp2_with fail
                refine (HRW.out _ hrbA).mono ?_
                rintro e wB ⟨hxB, AB, cB, rfl, hoB⟩
                have hBB := Lib.hid (bytes_of_own (l := S) hoB.out)
                have HRB2 := Lib.hid (hrbA.ext hxB)
                have HBZ2 := Lib.hid (hbzA.ext hxB)
                have hxw5 := (hxn.trans hxA).trans hxB
                have hz5 := Nat.le_trans (Nat.le_trans hzn hxA.size) hxB.size
                clear hrbA hbzA HRB HBZ HW HRW
                go_wp2_with (first
                  | (go_at_call 29; refine (samebytes_calls AA AB cA cB nn S HSL.out _ (hBA.out.ext hxB) hBB.out).mono ?_; rintro e wC ⟨rfl, rfl⟩)
                  | (go_at_call 31; refine (has_calls _ _ pb B _ HBZ2.out hr.out.ok.hlen).mono ?_; rintro e wD ⟨vD, rfl, hoD, hxD⟩; obtain ⟨AD, cD, rfl, _⟩ := own_shape hoD; have hSD := Lib.hid (sat_of_own hoD))
                  | (go_at_call 32; refine (rhas_calls _ rb B R hr.out _ (HRB2.out.ext hxD)).mono ?_; rintro e wE ⟨vE, rfl, hoE, hxE⟩; obtain ⟨AE, cE, rfl, _⟩ := own_shape hoE; have hSE := Lib.hid (sat_of_own hoE))
                  | (go_at_call 30; refine (samespans_calls AD AE cD cE B.hs _ (hSD.out.ext hxE) hSE.out (by have := hr.out.ok.hlen; omega)).mono ?_; rintro e wF ⟨rfl, hxF⟩))
                have hxt := (hxD.trans hxE).trans hxF
                go_roundw
                case rel => exact ⟨k + 1, B, R, by omega, by go_num, hr, Lib.hid (HBZ2.out.ext hxt), Lib.hid (HRB2.out.ext hxt), hxw5.trans hxt, Nat.le_trans hz5 hxt.size⟩
                case measure => simp [intOf]; omega
            · have e1 : (a.k == 1) = false := by simpa using h1
              have e2 : (a.k == 2) = false := by simpa using h2
              have hxn := hxw2
              have hzn := Nat.le_trans hsz hza
              clear h1 h2 HPB q1 q2 ba
              have hwh := fun W h => whole_calls (Z := (fun b => OutW w2.heap.size w3.heap.size b ∧ b ≠ rb)) w2.heap.size w3.heap.size pb B W h hr.out.ok
              have hrw := fun W h => rwhole_calls w3.heap.size rb B R hr.out W h
              unfold WholePost at hwh hrw
              have hbl := hr.out.ok.len
              have hft := hr.out.ok.ft
              have hSl : (B.bs.take (B.t - B.f).toNat).length = (B.t - B.f).toNat := by rw [List.length_take]; omega
              generalize B.bs.take (B.t - B.f).toNat = S at *
              generalize (B.t - B.f).toNat = nn at *
              clear hbl hft
              cases hH : holdsS B.hs B.f B.t
              · simp only [hH] at hwh hrw
                have HW := Lib.hid fun W h => (hwh W h).mono fun e w' h => (show Ext W w' ∧ e = .returned (.tuple #[.slice none 0 0, .bool false]) from ⟨h.1, by simpa using h.2⟩)
                have HRW := Lib.hid fun W h => (hrw W h).mono fun e w' h => (show Ext W w' ∧ e = .returned (.tuple #[.slice none 0 0, .bool false]) from ⟨h.1, by simpa using h.2⟩)
                clear hwh hrw hH hSl
                go_wp2_with fail
                refine (HW.out _ HBZ.out).mono ?_
                rintro e wA ⟨hxA, rfl⟩
                have hrbA := HRB.out.ext hxA
                have hbzA := HBZ.out.ext hxA
                go_wp2_with fail
                refine (HRW.out _ hrbA).mono ?_
                rintro e wB ⟨hxB, rfl⟩
                have HRB2 := Lib.hid (hrbA.ext hxB)
                have HBZ2 := Lib.hid (hbzA.ext hxB)
                have hxw5 := (hxn.trans hxA).trans hxB
                have hz5 := Nat.le_trans (Nat.le_trans hzn hxA.size) hxB.size
                clear hrbA hbzA HRB HBZ HW HRW
                go_wp2_with (first
                  | (go_at_call 29; refine (samebytes_calls none none 0 0 0 [] rfl _ (fun j hj => by simp at hj) (fun j hj => by simp at hj)).mono ?_; rintro e wC ⟨rfl, rfl⟩)
                  | (go_at_call 31; refine (has_calls _ _ pb B _ HBZ2.out hr.out.ok.hlen).mono ?_; rintro e wD ⟨vD, rfl, hoD, hxD⟩; obtain ⟨AD, cD, rfl, _⟩ := own_shape hoD; have hSD := Lib.hid (sat_of_own hoD))
                  | (go_at_call 32; refine (rhas_calls _ rb B R hr.out _ (HRB2.out.ext hxD)).mono ?_; rintro e wE ⟨vE, rfl, hoE, hxE⟩; obtain ⟨AE, cE, rfl, _⟩ := own_shape hoE; have hSE := Lib.hid (sat_of_own hoE))
                  | (go_at_call 30; refine (samespans_calls AD AE cD cE B.hs _ (hSD.out.ext hxE) hSE.out (by have := hr.out.ok.hlen; omega)).mono ?_; rintro e wF ⟨rfl, hxF⟩))
                have hxt := (hxD.trans hxE).trans hxF
                go_roundw
                case rel => exact ⟨k + 1, B, R, by omega, by go_num, hr, Lib.hid (HBZ2.out.ext hxt), Lib.hid (HRB2.out.ext hxt), hxw5.trans hxt, Nat.le_trans hz5 hxt.size⟩
                case measure => simp [intOf]; omega
              · simp only [hH, if_true] at hwh hrw
                have HW := Lib.hid hwh
                have HRW := Lib.hid hrw
                have HSL := Lib.hid hSl
                clear hwh hrw hH hSl
                go_wp2_with fail
                refine (HW.out _ HBZ.out).mono ?_
                rintro e wA ⟨hxA, AA, cA, rfl, hoA⟩
                have hBA := Lib.hid (bytes_of_own (l := S) hoA.out)
                have hrbA := HRB.out.ext hxA
                have hbzA := HBZ.out.ext hxA
                go_wp2_with fail
                refine (HRW.out _ hrbA).mono ?_
                rintro e wB ⟨hxB, AB, cB, rfl, hoB⟩
                have hBB := Lib.hid (bytes_of_own (l := S) hoB.out)
                have HRB2 := Lib.hid (hrbA.ext hxB)
                have HBZ2 := Lib.hid (hbzA.ext hxB)
                have hxw5 := (hxn.trans hxA).trans hxB
                have hz5 := Nat.le_trans (Nat.le_trans hzn hxA.size) hxB.size
                clear hrbA hbzA HRB HBZ HW HRW
                go_wp2_with (first
                  | (go_at_call 29; refine (samebytes_calls AA AB cA cB nn S HSL.out _ (hBA.out.ext hxB) hBB.out).mono ?_; rintro e wC ⟨rfl, rfl⟩)
                  | (go_at_call 31; refine (has_calls _ _ pb B _ HBZ2.out hr.out.ok.hlen).mono ?_; rintro e wD ⟨vD, rfl, hoD, hxD⟩; obtain ⟨AD, cD, rfl, _⟩ := own_shape hoD; have hSD := Lib.hid (sat_of_own hoD))
                  | (go_at_call 32; refine (rhas_calls _ rb B R hr.out _ (HRB2.out.ext hxD)).mono ?_; rintro e wE ⟨vE, rfl, hoE, hxE⟩; obtain ⟨AE, cE, rfl, _⟩ := own_shape hoE; have hSE := Lib.hid (sat_of_own hoE))
                  | (go_at_call 30; refine (samespans_calls AD AE cD cE B.hs _ (hSD.out.ext hxE) hSE.out (by have := hr.out.ok.hlen; omega)).mono ?_; rintro e wF ⟨rfl, hxF⟩))
                have hxt := (hxD.trans hxE).trans hxF
                go_roundw
                case rel => exact ⟨k + 1, B, R, by omega, by go_num, hr, Lib.hid (HBZ2.out.ext hxt), Lib.hid (HRB2.out.ext hxt), hxw5.trans hxt, Nat.le_trans hz5 hxt.size⟩
                case measure => simp [intOf]; omega
        · obtain rfl : k = l.length := by omega
          go_wp2
          go_ret
          exact ⟨rfl, hxw⟩
end Go.Proofs.Ytoahjhkfnchdhaa
