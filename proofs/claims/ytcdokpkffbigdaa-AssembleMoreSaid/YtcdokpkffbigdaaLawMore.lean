/- The walk of AssembleMore. -/
import Derived.Test.YtcdokpkffbigdaaMorep
import Derived.Test.YtcdokpkffbigdaaOr
import Derived.Test.YtcdokpkffbigdaaLawWhole
import Derived.Deep.Cut
namespace Go.Proofs.Ytcdokpkffbigdaa
open Go.RowKit

def SBox (w : World) (Y : List Sp) (v : Value) (wx : World) : Prop := ∃ xb A c, v = .pointer (some ⟨xb, 0, none⟩) ∧ Hid (wx.heap[xb]? = some (.cells #[.slice A Y.length c] 34 (0, 0)) ∧ SAt wx A Y ∧ w.heap.size ≤ xb) ∧ Ext w wx
theorem sat_set_ {w : World} {A : Option Addr} {l : List Sp} (h : SAt w A l) {p : Addr} (hp : ∀ b o, A = some ⟨b, o, none⟩ → b ≠ p.block) (u : Value) : SAt (w.setCell p u) A l := fun k hk => by
  obtain ⟨b, o, e, p0, p1⟩ := h k hk
  have hne : ∀ j, p ≠ ⟨b, j, none⟩ := fun j e2 => hp b o e (by rw [e2])
  exact ⟨b, o, e, (World.cell?_setCell_other w _ _ u (hne _)).trans p0, (World.cell?_setCell_other w _ _ u (hne _)).trans p1⟩
theorem sbox_new {w w4 : World} {Y : List Sp} {A : Option Addr} {c : Nat} (hE : Ext w w4) (hS : SAt w4 A Y) : SBox w Y (.pointer (some ⟨w4.heap.size, 0, none⟩)) (w4.alloc (.cells #[.slice A Y.length c] 34)) :=
  ⟨_, A, c, rfl, Lib.hid ⟨heap_alloc_new _ _, hS.ext ((Ext.refl _).alloc _), hE.size⟩, hE.alloc _⟩
theorem sbox_set {w w4 : World} {Y : List Sp} {A : Option Addr} {c xb : Nat} {u : Value} (hE : Ext w w4) (hS : SAt w4 A Y) (hx : w.heap.size ≤ xb) (hb : w4.heap[xb]? = some (.cells #[u] 34 (0, 0))) (hn : ∀ b o, A = some ⟨b, o, none⟩ → b ≠ xb) : SBox w Y (.pointer (some ⟨xb, 0, none⟩)) (w4.setCell ⟨xb, 0, none⟩ (.slice A Y.length c)) :=
  ⟨xb, A, c, rfl, Lib.hid ⟨(heap_setCell_same _ _ _ _ _ _ hb).trans rfl, sat_set_ hS hn _, hx⟩, hE.setCell hx _⟩

def MoInv (lo hi : Nat) (ws : World) (pb : Nat) (X : List Sp) (L : List Pt) (k : Nat) (v : Value) (wr : World) : Prop :=
  ∃ (R told : List Pt) (n : Int) (A2 : Option Addr) (c2 : Nat), BodyAt lo hi wr pb (R.map Pt.nz) n ∧ LOk R ∧ (0 ≤ n ∧ n + sumS R ≤ 9000000000000000000) ∧ v = .slice A2 told.length c2 ∧ wr.ownsRow ws.heap.size 40 3 v told.length (pts told) ∧ told.length = k ∧ rcanL X L = told ++ rcanL X R ∧ Chg lo hi ws wr
theorem rcan_text {S : List Sp} {L : List Pt} (h : LOk L) : textS (rcanL S L) ≤ 1000000 := by
  have key : ∀ L : List Pt, textS (rcanL S L) ≤ textS L := by
    intro L
    induction L with
    | nil => simp [rcanL, textS]
    | cons p l ih =>
      have hA : ∀ m, (cutA p m).s.length ≤ p.s.length := fun m => by
        unfold cutA
        split
        · simp
        · simp; omega
      simp only [rcanL]
      split
      · simp [textS]
      · have h1 := hA (canS p S)
        split
        · unfold textS at ih ⊢
          simp only [List.map_cons, List.sum_cons]
          omega
        · unfold textS
          simp only [List.map_cons, List.sum_cons, List.map_nil, List.sum_nil]
          omega
  have h1 := key L
  have : ∀ L : List Pt, (∀ p ∈ L, p.s.length ≤ 500) → textS L ≤ 500 * L.length := by
    intro L
    induction L with
    | nil => intro _; simp [textS]
    | cons p l ih =>
      intro h
      have h1 := h p (by simp)
      have h2 := ih (fun q hq => h q (by simp [hq]))
      unfold textS at h2 ⊢
      simp only [List.map_cons, List.sum_cons, List.length_cons]
      omega
  have h2 := this L (fun p hp => (h.each p hp).1)
  have h3 := h.len
  omega
set_option maxHeartbeats 16000000 in
set_option maxRecDepth 100000 in
theorem lawMore_calls (A : Option Addr) (c : Nat) (L : List Pt) (B : Option Addr) (d : Nat) (hs : List Sp) (D : Option Addr) (d2 : Nat) (ms : List Sp) (w : World) (hP : PartsIn w A c L) (hH : SAt w B hs ∧ hs.length ≤ d ∧ hs.length ≤ 9223372036854775807) (hM : SAt w D ms ∧ ms.length ≤ d2 ∧ ms.length ≤ 9223372036854775807) :
    Calls Try.prog 5 #[.slice A L.length c, .slice B hs.length d, .slice D ms.length d2] w fun e w' => e = .returned (.bool true) ∧ Ext w w' := by
  obtain ⟨hH1, hH2, hH3⟩ := hH
  obtain ⟨hM1, hM2, hM3⟩ := hM
  have HS := Lib.hid (fun W (hx : Ext w W) => hH1.ext hx)
  have HMS := Lib.hid (fun W (hx : Ext w W) => hM1.ext hx)
  clear hH1 hH2 hM1 hM2
  obtain ⟨hP1, hPc, hP3, hP4⟩ := hP
  have HP := Lib.hid (fun W (hx : Ext w W) => hP1.ext hx)
  have HP3 := Lib.hid hP3
  have HP4 := Lib.hid hP4
  clear hP1 hP3 hP4
  go_enter Try.func5, Try.ntmps5
  go_wp2_with fail
  refine (alive_calls _).mono ?_
  rintro e w1 ⟨rfl, hx1⟩
  go_wp2_with fail
  refine (small_calls A c L _ (HP.out _ hx1) HP3.out HP4.out).mono ?_
  rintro e w2 ⟨rfl, hx⟩
  have hx2 := hx1.trans hx
  clear hx hx1 HP3 HP4
  cases hsm : smallB L
  case false =>
    go_wp2
    go_ret
    exact ⟨rfl, hx2⟩
  case true =>
  have hlen : L.length ≤ 30 := by
    unfold smallB at hsm
    simp only [Bool.and_eq_true, decide_eq_true_eq] at hsm
    exact hsm.2
  have HSM := Lib.hid hsm
  clear hsm
  cases hg0 : decide ((20 : Int) < hs.length)
  case true =>
    go_wp2
    go_ret
    exact ⟨rfl, hx2⟩
  case false =>
  have hb0 : hs.length ≤ 20 := by have := of_decide_eq_false hg0; omega
  cases hg1 : decide ((20 : Int) < ms.length)
  case true =>
    go_wp2
    go_ret
    exact ⟨rfl, hx2⟩
  case false =>
  have hb1 : ms.length ≤ 20 := by have := of_decide_eq_false hg1; omega
  have hown0 := World.ownsRow_lit (base := w2.heap.size) (size := 3) (e := 40) w2 #[] 0 (Nat.le_refl _) (by simp [maxLen]) rfl
  have hxa : Ext w2 (w2.alloc (.cells #[] 40)) := (Ext.refl w2).alloc _
  have hR := (HP.out _ (hx2.trans hxa)).reads
  go_wp2_with (at_builtin; refine wpList_append_src _ rfl _ _ 22 rfl w2.heap.size 40 _ 3 32 Try.underlying22 infoPart rfl (by omega) (.slice (some ⟨w2.heap.size, 0, none⟩) 0 0) 0 [] rfl hown0 _ _ _ _ _ rfl hR (pts_plain _) (by simp [maxLen]; omega) (by omega) hxa.size ?_; intro v3 wd hown hm3; have hx3 := ext_moved hxa hown0 hm3; rw [Nat.zero_add, List.nil_append] at hown; obtain ⟨A3, c3, rfl, _⟩ := own_shape hown)
  have hx02 := hx2.trans hx3
  have HNW := Lib.hid (new_calls A3 c3 L _ (pat_of_own hown) (by omega))
  have hwd := hx02.size
  clear hown0 hxa hR hown hm3 hx3 hx2
  refine HNW.out.mono ?_
  rintro e wb hNP
  unfold NewPost at hNP
  clear HNW
  cases hok : okL L
  case false =>
    rw [hok, if_neg (by simp)] at hNP
    obtain ⟨hxb, rfl⟩ := hNP
    have hx0 := hx02.trans hxb
    go_wp2
    go_ret
    exact ⟨rfl, hx0⟩
  case true =>
  rw [if_pos hok] at hNP
  obtain ⟨hxb, pb, rfl, hB0⟩ := hNP
  have HOK := Lib.hid (lok_of HSM.out hok)
  have HOL := Lib.hid hok
  have hx0 := hx02.trans hxb
  have hdb := hxb.size
  clear HSM hok hxb hx02
  go_wp2_with fail
  refine (of_calls B d hs _ (HS.out _ hx0) (by omega)).mono ?_
  rintro e w5 ⟨A5, c5, rfl, hS5, hN5, hx5⟩
  have hofl := of_length hs
  have HNX := Lib.hid (norm_of hs)
  generalize ofS hs = X at *
  have hxa : Ext w5 (w5.alloc (.cells #[.slice A5 X.length c5] 34)) := (Ext.refl _).alloc _
  have b9 := heap_alloc_new w5 (.cells #[.slice A5 X.length c5] 34)
  have HB := Lib.hid (hB0.out.ext (hx5.trans hxa))
  have HX := Lib.hid ((hx0.trans hx5).trans hxa)
  have HSX := Lib.hid (hS5.out.ext hxa)
  have HNA := Lib.hid (show ∀ b o, A5 = some ⟨b, o, none⟩ → wb.heap.size ≤ b from fun b o e => hN5.out b o e)
  have h5b : wb.heap.size ≤ w5.heap.size := hx5.size
  have hXl : X.length ≤ 20 := by omega
  have homl := of_length ms
  have HNM := Lib.hid (norm_of ms)
  clear hx5 hS5 hN5 hB0 hx0 hofl HOL
  go_upto_region 9 with (fail)
  generalize (w5.alloc (.cells #[.slice A5 X.length c5] 34)) = w6 at *
  generalize w5.heap.size = m9 at *
  have t9 : w6.cell? ⟨m9, 0, none⟩ = some (.slice A5 X.length c5) := by rw [cell_of_block b9]; rfl
  have HB9 := Lib.hid b9
  have h6b : wb.heap.size ≤ w6.heap.size := by have := (Array.getElem?_eq_some_iff.1 HB9.out).1; omega
  have HE := Lib.hid (Ext.refl w6).drew
  have HEa := Lib.hid ((Ext.refl w6).alloc (.cells #[.slice none 0 0] 34)).drew
  have hbx0 := heap_alloc_new w6 (.cells #[.slice none 0 0] 34)
  have HBX := Lib.hid hbx0
  have keep : Hid (∀ W, Ext w6 W → W.cell? ⟨m9, 0, none⟩ = some (.slice A5 X.length c5)) := Lib.hid fun W hx => hx.cell t9
  clear hxa b9 hbx0
  go_cut [10] from 46 to 49 (fun v wx => SBox w6 (orS X (ofS ms)) v wx)
  case first =>
    refine wp_region_noPanic ?_
    go_region_held3 (fun W => W.cell? ⟨m9, 0, none⟩ = some (.slice A5 X.length c5))
      ((with_reducible refine keep.out _ ?_; (repeat' with_reducible first | exact HE.out | exact HEa.out | exact hE3 | exact hE4 | exact hE9 _ | exact hE10 _ | exact Ext.refl _ | refine Ext.drew ?_ | refine Ext.alloc ?_ _)))
      (first
       | (go_at_call 13
          refine (of_calls D d2 ms _ (by first | exact HMS.out _ (HX.out.trans HEa.out) | exact HMS.out _ (HX.out.trans HE.out)) (by omega)).mono ?_
          rintro e w3 ⟨A7, c7, rfl, hS7, _, hx3⟩
          (first
            | (have hE3 : Ext w6 w3 := HE.out.trans hx3)
            | (have hE3 : Ext w6 w3 := HEa.out.trans hx3
               have bx3 : w3.heap[w6.heap.size]? = some (.cells #[.slice none 0 0] 34 (0, 0)) := hx3.block HBX.out)))
       | (go_at_call 14
          (first
           | (refine (or_calls A5 c5 X A7 c7 (ofS ms) w3 (HSX.out.ext hE3) hS7.out HNX.out HNM.out (by omega) (by omega)).mono ?_
              rintro e w4 ⟨A8, c8, rfl, hS8, hN8, hx4⟩
              have hE4 : Ext w6 w4 := hE3.trans hx4
              have bx4 : w4.heap[w6.heap.size]? = some (.cells #[.slice none 0 0] 34 (0, 0)) := hx4.block bx3
              have hbge : w6.heap.size ≤ w6.heap.size := Nat.le_refl _
              have hne8 : ∀ b o, A8 = some ⟨b, o, none⟩ → b ≠ w6.heap.size := (fun b o e => by have := hN8.out b o e; have := (Array.getElem?_eq_some_iff.1 bx3).1; omega)
              have hE10 : ∀ u, Ext w6 (w4.setCell ⟨w6.heap.size, 0, none⟩ u) := fun u => hE4.setCell (Nat.le_refl _) u
              have q0 : w4.cell? ⟨w6.heap.size, 0, none⟩ = some (.slice none 0 0) := (by rw [cell_of_block bx4]; rfl)
              have z0 : w4.frozen? ⟨w6.heap.size, 0, none⟩ = false := frozen_of_block bx4 0)
           | (refine (or_calls A5 c5 X A7 c7 (ofS ms) w3 (HSX.out.ext hE3) hS7.out HNX.out HNM.out (by omega) (by omega)).mono ?_
              rintro e w4 ⟨A8, c8, rfl, hS8, hN8, hx4⟩
              have hE4 : Ext w6 w4 := hE3.trans hx4
              have hE9 : ∀ u, Ext w6 ((w4.alloc (.cells #[.slice none 0 0] 34)).setCell ⟨w4.heap.size, 0, none⟩ u) := fun u => (hE4.alloc _).setCell hE4.size u)
           | (refine (or_calls A5 c5 X A7 c7 (ofS ms) (w3.alloc (.cells #[.slice none 0 0] 34)) ((HSX.out.ext hE3).ext ((Ext.refl _).alloc _)) (hS7.out.ext ((Ext.refl _).alloc _)) HNX.out HNM.out (by omega) (by omega)).mono ?_
              rintro e w4 ⟨A8, c8, rfl, hS8, hN8, hx4⟩
              have hE4 : Ext w6 w4 := (hE3.alloc _).trans hx4
              have bx4 : w4.heap[w3.heap.size]? = some (.cells #[.slice none 0 0] 34 (0, 0)) := hx4.block (heap_alloc_new w3 (.cells #[.slice none 0 0] 34))
              have hbge : w6.heap.size ≤ w3.heap.size := hE3.size
              have hne8 : ∀ b o, A8 = some ⟨b, o, none⟩ → b ≠ w3.heap.size := (fun b o e => by have := hN8.out b o e; have h2 := (Array.getElem?_eq_some_iff.1 (heap_alloc_new w3 (.cells #[.slice none 0 0] 34))).1; omega)
              have hE10 : ∀ u, Ext w6 (w4.setCell ⟨w3.heap.size, 0, none⟩ u) := fun u => hE4.setCell hE3.size u
              have q0 : w4.cell? ⟨w3.heap.size, 0, none⟩ = some (.slice none 0 0) := (by rw [cell_of_block bx4]; rfl)
              have z0 : w4.frozen? ⟨w3.heap.size, 0, none⟩ = false := frozen_of_block bx4 0))))
    all_goals refine noPanic_intro ?_
    all_goals go_wp2_with fail
    all_goals go_meet
    all_goals first
      | exact sbox_set hE4 hS8.out hbge bx4 hne8
      | exact sbox_new hE4 hS8.out
  case rest =>
    obtain ⟨xb, A8, c8, rfl, hb, hE⟩ := hcut
    obtain ⟨hb1, hb2, hb3⟩ := hb.out
    obtain ⟨Y, hY⟩ : ∃ Y, orS X (ofS ms) = Y := ⟨_, rfl⟩
    have hYl : Y.length ≤ 40 := by
      rw [← hY]
      have := of_length (X ++ ofS ms)
      rw [List.length_append] at this
      unfold orS
      omega
    have HYN : Hid (Norm Y) := Lib.hid (by rw [← hY]; exact norm_or _ _)
    have HMEM : Hid (∀ z, Mem X z → Mem Y z) := Lib.hid fun z h => by rw [← hY]; exact mem_orS _ _ z HNX.out h
    rw [hY] at hb1 hb2
    obtain ⟨LX, hLX⟩ : ∃ l, rcanL X L = l := ⟨_, rfl⟩
    obtain ⟨LY, hLY⟩ : ∃ l, rcanL Y L = l := ⟨_, rfl⟩
    have hPX : pcanL X (L.map Pt.nz) = LX := by rw [← hLX]; exact pcan_rcan HOK.out.rok
    have hPY : pcanL Y (L.map Pt.nz) = LY := by rw [← hLY]; exact pcan_rcan HOK.out.rok
    have hlx : LX.length ≤ 30 := by rw [← hLX]; have := rcanL_length X L; omega
    have hly : LY.length ≤ 30 := by rw [← hLY]; have := rcanL_length Y L; omega
    have htx : textS LX ≤ 1000000 := by rw [← hLX]; exact rcan_text HOK.out
    have hty : textS LY ≤ 1000000 := by rw [← hLY]; exact rcan_text HOK.out
    have HLE : Hid (LeL (joinL LX) (joinL LY)) := Lib.hid (by rw [← hLX, ← hLY]; exact more_le HNX.out HYN.out HMEM.out HOK.out.rok [])
    have HLX := Lib.hid hLX
    have HCX : Hid (∀ W A c, BodyAt wd.heap.size wb.heap.size W pb (L.map Pt.nz) 0 → SAt W A X → Calls Try.prog 21 #[.pointer (some ⟨pb, 0, none⟩), .agg #[.slice A X.length c]] W (PRowPost W LX)) := Lib.hid fun W A c h1 h2 => by
      have h := lcan_calls wd.heap.size wb.heap.size pb (L.map Pt.nz) 0 A c X W h1 (by rw [List.length_map]; omega) h2 HNX.out (by omega)
      rw [hPX] at h
      exact h
    have HCY : Hid (∀ W A c, BodyAt wd.heap.size wb.heap.size W pb (L.map Pt.nz) 0 → SAt W A Y → Calls Try.prog 21 #[.pointer (some ⟨pb, 0, none⟩), .agg #[.slice A Y.length c]] W (PRowPost W LY)) := Lib.hid fun W A c h1 h2 => by
      have h := lcan_calls wd.heap.size wb.heap.size pb (L.map Pt.nz) 0 A c Y W h1 (by rw [List.length_map]; omega) h2 HYN.out (by omega)
      rw [hPY] at h
      exact h
    clear hLX hLY hPX hPY HE HEa HBX keep hY
    replace HB := Lib.hid (HB.out.ext hE)
    replace HSX := Lib.hid (HSX.out.ext hE)
    have HSY := Lib.hid hb2
    have HXX := Lib.hid hE
    replace t9 := hE.cell t9
    have t10 : wc.cell? ⟨xb, 0, none⟩ = some (.slice A8 Y.length c8) := by rw [cell_of_block hb1]; rfl
    clear hb hb1 hb2
    go_upto_region 10 with (fail)
    have hx : Ext wc wc.drew := (Ext.refl _).drew
    have hwcs : wb.heap.size ≤ wc.heap.size := by have := hE.size; have := (Array.getElem?_eq_some_iff.1 HB9.out).1; omega
    replace HB := Lib.hid (HB.out.ext hx); replace HXX := Lib.hid (HXX.out.trans hx); replace HSX := Lib.hid (HSX.out.ext hx); replace HSY := Lib.hid (HSY.out.ext hx); replace t9 := hx.cell t9; replace t10 := hx.cell t10
    clear hx
    go_region_held3 (fun W => W.cell? ⟨m9, 0, none⟩ = some (.slice A5 X.length c5) ∧ W.cell? ⟨xb, 0, none⟩ = some (.slice A8 Y.length c8)) (exact ⟨t9, t10⟩)
      (first
       | (go_at_call 21
          (with_reducible refine (HCX.out _ A5 c5 HB.out HSX.out).mono ?_)
          rintro e wn ⟨v, rfl, hown, hx⟩
          obtain ⟨Ax, cx, rfl, _⟩ := own_shape hown.out
          replace HB := Lib.hid (HB.out.ext hx); replace HXX := Lib.hid (HXX.out.trans hx); replace HSX := Lib.hid (HSX.out.ext hx); replace HSY := Lib.hid (HSY.out.ext hx); replace t9 := hx.cell t9; replace t10 := hx.cell t10; (try (replace rX := Lib.hid (rX.out.ext hx))); (try (replace rY := Lib.hid (rY.out.ext hx))); (try (replace jX := Lib.hid (jX.out.ext hx))); (try (replace jY := Lib.hid (jY.out.ext hx))); have rX := Lib.hid (pat_of_own hown.out); clear hown hx)
       | (go_at_call 21
          (with_reducible refine (HCY.out _ A8 c8 HB.out HSY.out).mono ?_)
          rintro e wn ⟨v, rfl, hown, hx⟩
          obtain ⟨Ay, cy, rfl, _⟩ := own_shape hown.out
          replace HB := Lib.hid (HB.out.ext hx); replace HXX := Lib.hid (HXX.out.trans hx); replace HSX := Lib.hid (HSX.out.ext hx); replace HSY := Lib.hid (HSY.out.ext hx); replace t9 := hx.cell t9; replace t10 := hx.cell t10; (try (replace rX := Lib.hid (rX.out.ext hx))); (try (replace rY := Lib.hid (rY.out.ext hx))); (try (replace jX := Lib.hid (jX.out.ext hx))); (try (replace jY := Lib.hid (jY.out.ext hx))); have rY := Lib.hid (pat_of_own hown.out); clear hown hx)
       | (go_at_call 19
          (with_reducible refine (joined_calls Ax cx LX _ rX.out (by omega) htx).mono ?_)
          rintro e wn ⟨v, rfl, hown, hx⟩
          obtain ⟨Jx, jx, rfl, _⟩ := own_shape hown.out
          have hnj : ∀ b o, Jx = some ⟨b, o, none⟩ → w6.heap.size ≤ b := (fun b o e => by have := own_base hown.out (g := b) (by rw [e]; rfl); have := HXX.out.size; omega)
          have HNJ := Lib.hid hnj
          replace HB := Lib.hid (HB.out.ext hx); replace HXX := Lib.hid (HXX.out.trans hx); replace HSX := Lib.hid (HSX.out.ext hx); replace HSY := Lib.hid (HSY.out.ext hx); replace t9 := hx.cell t9; replace t10 := hx.cell t10; (try (replace rX := Lib.hid (rX.out.ext hx))); (try (replace rY := Lib.hid (rY.out.ext hx))); (try (replace jX := Lib.hid (jX.out.ext hx))); (try (replace jY := Lib.hid (jY.out.ext hx))); have jX := Lib.hid (pat_of_own hown.out); clear hown hx hnj)
       | (go_at_call 19
          (with_reducible refine (joined_calls Ay cy LY _ rY.out (by omega) hty).mono ?_)
          rintro e wn ⟨v, rfl, hown, hx⟩
          obtain ⟨Jy, jy, rfl, _⟩ := own_shape hown.out
          replace HB := Lib.hid (HB.out.ext hx); replace HXX := Lib.hid (HXX.out.trans hx); replace HSX := Lib.hid (HSX.out.ext hx); replace HSY := Lib.hid (HSY.out.ext hx); replace t9 := hx.cell t9; replace t10 := hx.cell t10; (try (replace rX := Lib.hid (rX.out.ext hx))); (try (replace rY := Lib.hid (rY.out.ext hx))); (try (replace jX := Lib.hid (jX.out.ext hx))); (try (replace jY := Lib.hid (jY.out.ext hx))); have jY := Lib.hid (pat_of_own hown.out); clear hown hx))
    clear HCX HCY rX rY HSY HYN HMEM t10
    obtain ⟨JX, hJX⟩ : ∃ l, joinL LX = l := ⟨_, rfl⟩
    obtain ⟨JY, hJY⟩ : ∃ l, joinL LY = l := ⟨_, rfl⟩
    have hjxl : JX.length ≤ 30 := by rw [← hJX]; have := joinL_length LX; omega
    have hjyl : JY.length ≤ 30 := by rw [← hJY]; have := joinL_length LY; omega
    rw [hJX] at jX
    rw [hJY] at jY
    rw [hJX, hJY] at HLE
    rw [hJX, hJY]
    have HJX := Lib.hid hJX
    clear hJX hJY
    go_wp2_with fail
    have HJ1 := Lib.hid (fun W (hx : Ext wn W) => jX.out.ext hx)
    have HJ2 := Lib.hid (fun W (hx : Ext wn W) => jY.out.ext hx)
    clear jX jY
    go_loopw [60] (fun i wr => ∃ k : Nat, k ≤ JX.length ∧ i = .int .i64 k ∧ Ext wn wr) (fun i _ => JX.length - (intOf i).toNat)
    case atStart => exact ⟨0, Nat.zero_le _, rfl, Ext.refl _⟩
    case round =>
      obtain ⟨k, hk, rfl, hx⟩ := hrel
      by_cases hlt : k < JX.length
      · have hlt2 : k < JY.length := by have := HLE.out.1; omega
        have hle := HLE.out.2 k hlt hlt2
        obtain ⟨b1, o1, rfl, p0, p1, p2⟩ := HJ1.out wr hx k hlt
        obtain ⟨b2, o2, rfl, q0, q1, q2⟩ := HJ2.out wr hx k hlt2
        have hnl : ¬ (JY.length : Int) ≤ k := by omega
        have hnl2 : (k : Int) < JY.length := by omega
        generalize JX[k] = pp at *
        generalize JY[k] = qq at *
        rcases pp with ⟨ps, pf, pt⟩
        rcases qq with ⟨qs, qf, qt⟩
        simp only at p0 p1 p2 q0 q1 q2
        have hxp : Ext wr (wr.alloc (.cells #[.string ⟨ps.toArray⟩, .int .i64 pf, .int .i64 pt] 40)) := (Ext.refl _).alloc _
        replace q0 := hxp.cell q0
        replace q1 := hxp.cell q1
        replace q2 := hxp.cell q2
        cases e1 : (ps == [])
        · have hps : ps ≠ [] := by simpa using e1
          obtain ⟨r, hr⟩ := hle.1 hps
          simp only at hr
          have hln : qs.length = ps.length + r.length := by rw [← hr]; simp
          have hl1 : decide ((qs.length : Int) < ps.length) = false := decide_eq_false (by omega)
          have hl4 : decide (qs.length < ps.length) = false := decide_eq_false (by omega)
          have hl2 : (ps.length : Int) ≤ qs.length := by omega
          have hl3 : ps.length ≤ qs.length := by omega
          have hex : (⟨qs.toArray⟩ : ByteArray).extract 0 ps.length = ⟨ps.toArray⟩ := by rw [str_take, ← hr, List.take_left]
          clear hle hr hln hps
          go_upto_region 18 with (fail)
          refine wp_region_ext_lit (by kernel_rfl) (by kernel_rfl) ?_
          intro XX _ g hg hg'
          have P0 : ∀ n, (g n).cell? ⟨wr.heap.size, 0, none⟩ = some (.string ⟨ps.toArray⟩) := fun n => (hg n).cell (by simp [go_sem])
          have Q0 : ∀ n, (g n).cell? ⟨wr.heap.size + 1, 0, none⟩ = some (.string ⟨qs.toArray⟩) := fun n => (hg n).cell (by simp [go_sem])
          repeat (go_big_quiet_step (fail))
          refine wpQuiet_nil ?_
          rintro w' ⟨nn, rfl⟩
          have hxg := ((hx.alloc _).alloc _).trans (hg nn)
          clear P0 Q0 hg hg' p0 p1 p2 q0 q1 q2 hex
          go_wp2
          go_roundw
          case rel => exact ⟨k + 1, by omega, by go_num, hxg⟩
          case measure => simp [intOf]; omega
        · have hps : ps = [] := by simpa using e1
          obtain ⟨h1, h2, h3⟩ := hle.2 hps
          simp only at h1 h2 h3
          subst hps h1 h2
          have h4 : ¬ qt < pt := by omega
          clear hle
          go_wp2
          go_roundw
          case rel => exact ⟨k + 1, by omega, by go_num, (hx.alloc _).alloc _⟩
          case measure => simp [intOf]; omega
      · obtain rfl : k = JX.length := by omega
        have HJW := Lib.hid (HJ1.out _ hx)
        have HBW := Lib.hid (HB.out.ext hx)
        have HSW := Lib.hid (HSX.out.ext hx)
        have t9w := hx.cell t9
        have hxw : Ext w wr := (HX.out.trans HXX.out).trans hx
        have hwr : wb.heap.size ≤ wr.heap.size := by have := hx.size; have := HXX.out.size; omega
        have hOX : OutA wd.heap.size wb.heap.size A5 := fun b o e => .inr (HNA.out b o e)
        have hOJ : OutA wd.heap.size wb.heap.size Jx := fun b o e => .inr (by have := HNJ.out b o e; omega)
        have HOX := Lib.hid (And.intro hOX hOJ)
        have HINV : Hid (MoInv wd.heap.size wb.heap.size wr pb X L 0 (.slice none 0 0) wr) := Lib.hid ⟨L, [], 0, none, 0, HBW.out, HOK.out, ⟨Int.le_refl _, by have := lok_sum HOK.out; omega⟩, rfl, World.ownsRow_nil _ _ _ _, rfl, rfl, Chg.refl _ _ _⟩
        obtain ⟨ws, hws⟩ : ∃ ws, ws = wr := ⟨_, rfl⟩
        rw [← hws] at HJW HBW HSW t9w hxw hwr HINV ⊢
        clear hws HJ1 HJ2 HB HSX t9 hx hOX hOJ HLE hk hlt
        go_wp2_with fail
        go_loopw [17, 16] (fun i v wx => ∃ k : Nat, k ≤ 100 ∧ i = .int .i64 k ∧ Hid (MoInv wd.heap.size wb.heap.size ws pb X L k v wx)) (fun i _ _ => 100 - (intOf i).toNat)
        case atStart => exact ⟨0, by omega, rfl, HINV⟩
        case round =>
          clear HINV
          obtain ⟨k, hk, rfl, hinv⟩ := hrel
          obtain ⟨R, told, n, A2, c2, hB, hR, hn, rfl, hown, htl, hrc, hC⟩ := hinv.out
          have hk30 : k ≤ 30 := by
            have h1 := rcanL_length X L
            rw [hrc, List.length_append] at h1
            omega
          have hk100 : (k : Int) < 100 := by omega
          have t9 := hC.cell t9w (.inr (by dsimp only; omega))
          have HNX2 := Lib.hid (nx_calls wd.heap.size wb.heap.size pb R n A5 c5 X 4611686018427387904 _ hB (HSW.out.chg hC HOX.out.1) HNX.out (by omega) hR.rok hn (Nat.le_trans hwr hC.size))
          have hnx := rcanL_next HNX.out hR.rok
          have HOW := Lib.hid hown
          have HC := Lib.hid hC
          have HB := Lib.hid hB
          have HR := Lib.hid hR
          have HN := Lib.hid hn
          have HRC := Lib.hid (And.intro hrc htl)
          have hwsz : ws.heap.size ≤ wr.heap.size := hC.size
          have htl2 : told.length ≤ 30 := by omega
          cases hns : nextS R X 4611686018427387904 with
          | none =>
            rw [hns] at HNX2 hnx
            have hfin : told = LX := by rw [← HLX.out, hrc, hnx, List.append_nil]
            subst hfin
            have HPT := Lib.hid (pat_of_own hown)
            clear hns hB hR hn hown htl hrc hC hinv hnx
            go_wp2_with fail
            refine HNX2.out.mono ?_
            rintro e w9 h
            obtain ⟨rfl, hx⟩ : e = _ ∧ Ext _ w9 := h
            have hxx := hx.alloc (.cells #[.string ⟨#[]⟩, .int .i64 0, .int .i64 0] 40)
            have HPT2 := Lib.hid (HPT.out.ext hxx)
            have HJ2 := Lib.hid ((HJW.out.chg HC.out HOX.out.2).ext hxx)
            have hxf : Ext w (w9.alloc (.cells #[.string ⟨#[]⟩, .int .i64 0, .int .i64 0] 40)) := (HC.out.ext hxw hwd).trans hxx
            clear hx hxx HNX2 t9 HPT
            go_wp2_with fail
            generalize (w9.alloc (.cells #[.string ⟨#[]⟩, .int .i64 0, .int .i64 0] 40)) = w10 at *
            refine (joined_calls A2 c2 told _ HPT2.out (by omega) htx).mono ?_
            rintro e w11 ⟨v11, rfl, hown11, hx11⟩
            obtain ⟨A11, c11, rfl, _⟩ := own_shape hown11.out
            have hp11 := Lib.hid (pat_of_own hown11.out)
            rw [HJX.out] at hp11 ⊢
            have hj11 := Lib.hid (HJ2.out.ext hx11)
            have hxf2 := hxf.trans hx11
            clear hown11 hx11
            go_wp2_with fail
            refine (rsame_calls A11 Jx c11 jx JX _ hp11.out hj11.out (by omega)).mono ?_
            rintro e w12 ⟨rfl, hx12⟩
            go_wp2
            go_ret
            exact ⟨by first | rfl | simp [*], hxf2.trans hx12⟩
          | some x =>
            rcases x with ⟨⟨qs, qf, qt⟩, R2, m⟩
            obtain ⟨hok2, hm1, hm2, hsum⟩ := next_ok hR.rok hns
            have hlok2 := Lib.hid (next_lok hR hns)
            rw [hns] at HNX2 hnx
            simp only at hnx
            have HNXT := Lib.hid hnx
            have hn1 := hn.1
            have hn2 := hn.2
            clear hns hB hR hn hown htl hrc hC hinv hnx hok2
            go_wp2_with fail
            refine HNX2.out.mono ?_
            rintro e w9 h
            obtain ⟨rfl, hB9, hC9⟩ : e = _ ∧ Hid (BodyAt wd.heap.size wb.heap.size w9 pb (R2.map Pt.nz) (n + m)) ∧ Chg wd.heap.size wb.heap.size _ w9 := h
            have hx10 : Ext w9 (w9.alloc (.cells #[.string ⟨qs.toArray⟩, .int .i64 qf, .int .i64 qt] 40)) := (Ext.refl _).alloc _
            have hown9 := own_chg HOW.out hC9 (by omega)
            have hown10 := ownsRow_ext hown9 hx10
            have HB10 := Lib.hid (hB9.out.ext hx10)
            have HC10 := Lib.hid ((HC.out.trans hC9).trans (Chg.of_ext hx10))
            have h9 := hC9.size
            have hb2 : ws.heap.size ≤ (w9.alloc (.cells #[.string ⟨qs.toArray⟩, .int .i64 qf, .int .i64 qt] 40)).heap.size := by have := hx10.size; omega
            clear HNX2 hB9 hC9 hown9
            go_wp2_with (at_builtin; refine wpList_append_new _ rfl _ _ 22 rfl ws.heap.size 40 _ 3 32 Try.underlying22 infoPart rfl (by omega) (.slice A2 told.length c2) told.length (pts told) rfl hown10 1 1 _ (by simp) _ rfl rfl (by simp [Value.oneCell']) (by simp [maxLen]; omega) (by omega) hb2 ?_; intro v5 w11 hown5 hm5; obtain ⟨A6, c6, rfl, _⟩ := own_shape hown5)
            have hlow : ∀ k', k' < (w9.alloc (.cells #[.string ⟨qs.toArray⟩, .int .i64 qf, .int .i64 qt] 40)).heap.size → k' < wb.heap.size → w11.heap[k']? = (w9.alloc (.cells #[.string ⟨qs.toArray⟩, .int .i64 qf, .int .i64 qt] 40)).heap[k']? := fun k' hk1 hk2 => hm5.1.block k' hk1 (fun e => by have := own_base hown10 e.symm; omega)
            have HB11 := Lib.hid (HB10.out.low hlow)
            have HC11 : Hid (Chg wd.heap.size wb.heap.size ws w11) := Lib.hid ⟨hm5.1.os.trans HC10.out.os, hm5.1.tape.trans HC10.out.tape, hm5.1.output.trans HC10.out.output, Nat.le_trans HC10.out.size hm5.1.size, fun k' hk1 hk2 => (hm5.1.block k' (Nat.lt_of_lt_of_le hk1 HC10.out.size) (fun e => by have := own_base hown10 e.symm; omega)).trans (HC10.out.block k' hk1 hk2)⟩
            have hI : MoInv wd.heap.size wb.heap.size ws pb X L (k + 1) (.slice A6 (told.length + 1) c6) w11 := by
              have hr1 := HRC.out
              refine ⟨R2, told ++ [Pt.mk qs qf qt], n + m, A6, c6, HB11.out, hlok2.out, ⟨by omega, by omega⟩, by simp, ?_, ?_, ?_, HC11.out⟩
              · rw [List.length_append, pts_append]; exact hown5
              · rw [List.length_append, List.length_singleton]; have := hr1.2; omega
              · rw [hr1.1, HNXT.out]; simp
            have HI := Lib.hid hI
            clear hI hlow HC11 hm5 hown5 hown10 hx10 hb2
            go_wp2
            go_roundw
            case rel => first | exact ⟨k + 1, by omega, by go_num, HI⟩ | ((repeat apply Exists.intro); exact ⟨⟨k + 1, by omega, by go_num, HI⟩, rfl⟩)
            case measure => simp [intOf]; omega
end Go.Proofs.Ytcdokpkffbigdaa
