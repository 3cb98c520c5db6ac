/- The law's example stands. -/
import Derived.Test.YtmcddajniiaieaaDoorNc
import Derived.Test.YtmcddajniiaieaaDoorOf
import Derived.Test.YtmcddajniiaieaaDoorBl
namespace Go.Proofs.YtmcddajniiaieaaDoor
open Go.RowKit Go.Shelf

theorem ext_below {w0 w w' : World} {B : Nat} (h : Ext w0 w) (k : Below B w w') (hB : w0.heap.size ≤ B) : Ext w0 w' :=
  ⟨k.os.trans h.os, k.tape.trans h.tape, k.output.trans h.output, Nat.le_trans h.size k.size, fun i hi => (Below.block k i (by omega)).trans (Below.block h i hi)⟩
set_option maxRecDepth 100000 in
theorem fmt_2 (w : World) : Calls Tryd.prog 52 #[.int .i64 2, .int .i64 10] w fun e w' => e = .returned (.string ⟨#[50]⟩) ∧ w' = w :=
  (Any.strconv_FormatInt_10_small lays173 2 (by decide) w).mono fun e w' h => by rw [show Lib.decDigits 2 = [50] by rw [Lib.decDigits, dif_pos (by decide)]; rfl] at h; exact h
set_option maxRecDepth 100000 in
theorem fmt_5 (w : World) : Calls Tryd.prog 52 #[.int .i64 5, .int .i64 10] w fun e w' => e = .returned (.string ⟨#[53]⟩) ∧ w' = w :=
  (Any.strconv_FormatInt_10_small lays173 5 (by decide) w).mono fun e w' h => by rw [show Lib.decDigits 5 = [53] by rw [Lib.decDigits, dif_pos (by decide)]; rfl] at h; exact h
set_option maxRecDepth 100000 in
theorem sptext_calls (w : World) : Calls Tryd.prog 36 #[.agg #[.int .i64 2, .int .i64 5]] w fun e w' => e = .returned (.string ⟨#[50, 45, 53]⟩) ∧ Ext w w' := by
  go_enter Tryd.func36, Tryd.ntmps36
  go_wp2_with (first | (go_at_call 52; first | (refine (fmt_2 _).mono ?_; rintro e w' ⟨rfl, rfl⟩) | (refine (fmt_5 _).mono ?_; rintro e w' ⟨rfl, rfl⟩)) | go_in)
  go_ret
  exact ⟨rfl, (((Ext.refl w).alloc _).trans ((Ext.refl _).alloc _)).trans ((Ext.refl _).alloc _)⟩

set_option maxHeartbeats 1000000 in
set_option maxRecDepth 100000 in
theorem settext_calls (A : Option Addr) (c : Nat) (w : World) (h : SAt w A [⟨2, 5⟩]) : Calls Tryd.prog 14 #[.agg #[.slice A 1 c]] w fun e w' => e = .returned (.string ⟨#[50, 45, 53]⟩) ∧ Ext w w' := by
  obtain ⟨wa, hwa⟩ : ∃ x, w.alloc (.cells #[.slice A 1 c] 47) = x := ⟨_, rfl⟩
  have hxa : Ext w wa := hwa ▸ (Ext.refl _).alloc _
  have hbs : wa.heap[w.heap.size]? = some (.cells #[.slice A 1 c] 47 (0, 0)) := hwa ▸ heap_alloc_new w _
  obtain ⟨wb, hwb⟩ : ∃ x, wa.alloc (.cells #[.pointer none, .slice none 0 0] 82) = x := ⟨_, rfl⟩
  have hxb : Ext wa wb := hwb ▸ (Ext.refl _).alloc _
  have hfr : Lib.IsBuilder 82 5 wa.heap.size wa.heap.size [] wb := hwb ▸ Lib.fresh_isBuilder _ _ wa
  have hsz : wa.heap.size + 1 = wb.heap.size := by rw [← hwb]; exact (World.size_alloc _ _).symm
  have hfr2 : Lib.BuilderAt 82 5 wa.heap.size wa.heap.size (.pointer none) [] wb := by
    rcases hfr with h | h
    · exact h
    · exfalso
      obtain ⟨_, v, hb, _⟩ := h
      rw [← hwb, heap_alloc_new] at hb
      cases hb
  obtain ⟨ts, hts⟩ : ∃ x, w.heap.size = x := ⟨_, rfl⟩
  obtain ⟨tb, htb⟩ : ∃ x, wa.heap.size = x := ⟨_, rfl⟩
  rw [hts] at hbs
  rw [htb] at hfr2 hsz
  have s0 : wa.cell? ⟨ts, 0, none⟩ = some (.slice A 1 c) := blk_cell hbs 0 rfl
  have s1 : wb.cell? ⟨ts, 0, none⟩ = some (.slice A 1 c) := hxb.cell s0
  obtain ⟨b, o, rfl, p0, p1⟩ := h 0 (by decide)
  have p0b := hxb.cell (hxa.cell p0)
  have p1b := hxb.cell (hxa.cell p1)
  simp only [Nat.zero_mul, Nat.add_zero, List.getElem_cons_zero] at p0b p1b
  have HFR := Lib.hid hfr2
  have HXW := Lib.hid (hxa.trans hxb)
  have HSZ := Lib.hid (show w.heap.size ≤ tb by rw [← htb]; exact hxa.size)
  clear h p0 p1 hfr hbs hfr2
  go_enter Tryd.func14, Tryd.ntmps14
  go_wp2
  clear hwa hwb hts htb hxa hxb s0
  go_loopw [13] (fun i wr => (i = .int .i64 0 ∧ wr = wb) ∨ (i = .int .i64 1 ∧ Lib.BuilderAt 82 5 tb tb (.pointer (some ⟨tb, 0, none⟩)) (Lib.strCells ⟨#[50, 45, 53]⟩) wr ∧ Below tb wb wr)) (fun i _ => 1 - (intOf i).toNat)
  case atStart => exact .inl ⟨rfl, rfl⟩
  case round =>
    rcases hrel with ⟨rfl, hw⟩ | ⟨rfl, hbl, hbw⟩
    · rw [hw]
      clear hw
      obtain ⟨wc, hwc⟩ : ∃ x, wb.alloc (.cells #[.int .i64 2, .int .i64 5] 50) = x := ⟨_, rfl⟩
      have hxc : Ext wb wc := hwc ▸ (Ext.refl _).alloc _
      have hbc : wc.heap[wb.heap.size]? = some (.cells #[.int .i64 2, .int .i64 5] 50 (0, 0)) := hwc ▸ heap_alloc_new wb _
      obtain ⟨tc, htc⟩ : ∃ x, wb.heap.size = x := ⟨_, rfl⟩
      rw [htc] at hbc
      have q0 : wc.cell? ⟨tc, 0, none⟩ = some (.int .i64 2) := blk_cell hbc 0 rfl
      have q1 : wc.cell? ⟨tc, 1, none⟩ = some (.int .i64 5) := blk_cell hbc 1 rfl
      have HXC := Lib.hid hxc
      clear hxc hbc
      go_wp2_with fail
      refine (sptext_calls _).mono ?_
      rintro e w3 ⟨rfl, hx3⟩
      have h3 : Lib.BuilderAt 82 5 tb tb (.pointer none) [] w3 := by
        obtain ⟨g1, v, g2, g3, g4⟩ := HFR.out
        exact ⟨g1, v, (HXC.out.trans hx3).block g2, ownsRow_ext g3 (HXC.out.trans hx3), g4⟩
      have HW := Lib.hid (wstr_calls tb ⟨#[50, 45, 53]⟩ w3 h3 (by decide) (by have := (HXC.out.trans hx3).size; omega))
      have HX3 := Lib.hid (HXC.out.trans hx3)
      clear h3 hx3 q0 q1 hwc htc
      go_wp2_with fail
      refine HW.out.mono ?_
      rintro e w4 ⟨rfl, hbl, hbw⟩
      have HB4 := Lib.hid (And.intro hbl hbw)
      clear hbl hbw
      go_wp2
      go_roundw
      case rel => exact .inr ⟨by go_num, HB4.out.1, Below.trans (Below.mono HX3.out (by omega)) HB4.out.2⟩
      case measure => simp [intOf] <;> omega
    · have HS := Lib.hid (Any.Builder_String lays169 bx169 tb tb [50, 45, 53] wr (.inr hbl) (by decide))
      have HBW := Lib.hid hbw
      clear hbl hbw
      go_wp2_with fail
      refine HS.out.mono ?_
      rintro e w5 ⟨rfl, hb5⟩
      have HE := Lib.hid (ext_below (ext_below HXW.out HBW.out HSZ.out) hb5 HSZ.out)
      clear hb5
      go_wp2
      go_ret
      exact ⟨rfl, HE.out⟩

theorem ofS_25 : ofS [⟨2, 4⟩, ⟨4, 5⟩] = [⟨2, 5⟩] := by decide
set_option maxHeartbeats 1000000 in
set_option maxRecDepth 100000 in
theorem alive_calls (w : World) : Calls Tryd.prog 4 #[] w fun e w' => e = .returned (.bool true) ∧ Ext w w' := by
  obtain ⟨wa, hwa⟩ : ∃ x, w.alloc (.cells #[.int .i64 2, .int .i64 4, .int .i64 4, .int .i64 5] 50) = x := ⟨_, rfl⟩
  have hxa : Ext w wa := hwa ▸ (Ext.refl _).alloc _
  have hb : wa.heap[w.heap.size]? = some (.cells #[.int .i64 2, .int .i64 4, .int .i64 4, .int .i64 5] 50 (0, 0)) := hwa ▸ heap_alloc_new w _
  have hS : SAt wa (some ⟨w.heap.size, 0, none⟩) [⟨2, 4⟩, ⟨4, 5⟩] := fun k hk => by
    have hk : k < 2 := hk
    rcases k with _ | _ | k
    · exact ⟨_, 0, rfl, blk_cell hb 0 rfl, blk_cell hb 1 rfl⟩
    · exact ⟨_, 0, rfl, blk_cell hb 2 rfl, blk_cell hb 3 rfl⟩
    · omega
  have HOF := Lib.hid (of_calls (some ⟨w.heap.size, 0, none⟩) 2 [⟨2, 4⟩, ⟨4, 5⟩] wa hS (by decide))
  rw [ofS_25] at HOF
  have HXA := Lib.hid hxa
  clear hb hS hxa
  dsimp only [List.length_cons, List.length_nil, Nat.zero_add] at HOF
  go_enter Tryd.func4, Tryd.ntmps4
  go_wp2_with fail
  clear hwa
  refine HOF.out.mono ?_
  rintro e w1 ⟨A, c, rfl, hs, -, hx1⟩
  have HT := Lib.hid (settext_calls A c w1 hs.out)
  have HX1 := Lib.hid (HXA.out.trans hx1)
  clear hs hx1
  dsimp only [List.length_cons, List.length_nil, Nat.zero_add] at HT ⊢
  go_wp2_with fail
  refine HT.out.mono ?_
  rintro e w2 ⟨rfl, hx2⟩
  have HX2 := Lib.hid (HX1.out.trans hx2)
  clear hx2
  go_wp2
  go_ret
  exact ⟨rfl, HX2.out⟩
end Go.Proofs.YtmcddajniiaieaaDoor
