/- The law's same: a body tells of itself what the document's one does. -/
import Derived.Test.YtcdokpkffbigdaaLcan
namespace Go.Proofs.Ytcdokpkffbigdaa
open Go.RowKit

theorem LOk.rok {L : List Pt} (h : LOk L) : ROk L := ⟨h.len, fun p hp => ⟨(h.each p hp).1, fun e => by have := (h.each p hp).2 e; omega⟩⟩
theorem nz_span {p : Pt} (h : p.s = []) : p.nz = p := by unfold Pt.nz; rw [if_pos h]
theorem nz_open (p : Pt) : p.nz.open_ = p.open_ := by
  unfold Pt.nz
  split
  · rfl
  · rename_i h; simp [Pt.open_, h]
theorem nz_size (p : Pt) : p.nz.size = p.size := by
  unfold Pt.nz
  split
  · rfl
  · rename_i h; simp [Pt.size, h]
theorem nz_nz (p : Pt) : p.nz.nz = p.nz := by
  by_cases h : p.s = []
  · rw [nz_span h, nz_span h]
  · have e : p.nz = ⟨p.s, 0, 0⟩ := by unfold Pt.nz; rw [if_neg h]
    rw [e]
    unfold Pt.nz
    rw [if_neg h]
theorem LOk.map {L : List Pt} (h : LOk L) : LOk (L.map Pt.nz) := by
  refine ⟨by rw [List.length_map]; exact h.len, fun p hp => ?_, fun k hk => ?_⟩
  · obtain ⟨q, hq, rfl⟩ := List.mem_map.1 hp
    have := h.each q hq
    rw [nz_s]
    refine ⟨this.1, fun e => ?_⟩
    rw [nz_span e]; exact this.2 e
  · rw [List.length_map] at hk
    rw [List.getElem_map, nz_open]
    exact h.shut k hk
theorem needS_nz (L : List Pt) : needS (L.map Pt.nz) = needS L := by
  induction L with
  | nil => rfl
  | cons p l ih =>
    unfold needS at ih ⊢
    simp only [List.map_cons, List.filter_cons, nz_s]
    by_cases h : p.s = []
    · simp only [h, beq_self_eq_true, if_true, List.map_cons, ih, nz_span h]
    · have : (p.s == []) = false := by simpa using h
      simp only [this, Bool.false_eq_true, if_false, ih]
theorem atS_nz (L : List Pt) : atS (L.map Pt.nz) = atS L := by
  induction L with
  | nil => rfl
  | cons p l ih =>
    simp only [List.map_cons, atS, nz_s]
    by_cases h : p.s = []
    · simp only [h, if_true, nz_span h]
    · simp only [h, if_false, ih]
theorem leftS_nz (L : List Pt) : leftS (L.map Pt.nz) = leftS L := by
  unfold leftS sumS
  rw [List.any_map, List.map_map]
  have h1 : (Pt.open_ ∘ Pt.nz) = Pt.open_ := funext nz_open
  have h2 : (Pt.size ∘ Pt.nz) = Pt.size := funext nz_size
  rw [h1, h2]

set_option maxHeartbeats 8000000 in
set_option maxRecDepth 100000 in
theorem same_calls (lo hi pb : Nat) (R : List Pt) (n : Int) (A : Option Addr) (c : Nat) (w : World) (hb : BodyAt lo hi w pb (R.map Pt.nz) n) (hA : PAt w A R) (hok : LOk R) :
    Calls Try.prog 25 #[.pointer (some ⟨pb, 0, none⟩), .agg #[.slice A R.length c, .int .i64 n]] w fun e w' => e = .returned (.bool true) ∧ Ext w w' := by
  have hlen := hok.len
  have hlm := hok.map.len
  have HOK := Lib.hid hok
  have hx0 : Ext w (w.alloc (.cells #[.slice A R.length c, .int .i64 n] 51)) := (Ext.refl w).alloc _
  have hbx := heap_alloc_new w (.cells #[.slice A R.length c, .int .i64 n] 51)
  have HBD := Lib.hid (hb.ext hx0)
  have HPA := Lib.hid (hA.ext hx0)
  obtain ⟨a1, ha1⟩ : ∃ z, atS R = z := ⟨_, rfl⟩
  obtain ⟨lf, hlf⟩ : ∃ z, leftS R = z := ⟨_, rfl⟩
  obtain ⟨NL, hNL⟩ : ∃ z, ofS (needS R) = z := ⟨_, rfl⟩
  obtain ⟨dn, hdn⟩ : ∃ z, decide (R = []) = z := ⟨_, rfl⟩
  have hd2 : decide (R.map Pt.nz = []) = dn := by rw [← hdn]; simp
  have hd3 : ((R.length : Int) == 0) = dn := by rw [← hdn]; cases R <;> simp <;> omega
  have hnl : NL.length ≤ 1000000 := by
    rw [← hNL]
    have := of_length (needS R)
    have := need_length R
    omega
  have HNEED := Lib.hid (fun W h => need_calls lo hi pb (R.map Pt.nz) n W h (by omega))
  have HNEED2 := Lib.hid (fun W h => rneed_calls A c R n W h (by omega))
  have HAT := Lib.hid (fun W h => at_calls lo hi pb (R.map Pt.nz) n W h (by omega))
  have HAT2 := Lib.hid (fun W h => rat_calls A c R n W h (by omega))
  have HLF := Lib.hid (fun W h => left_calls lo hi pb (R.map Pt.nz) n W h hok.map)
  have HLF2 := Lib.hid (fun W h => rleft_calls A c R n W h hok)
  have HDN := Lib.hid (fun W h => done_calls lo hi pb (R.map Pt.nz) n W h)
  have HST := Lib.hid (fun W h => sent_calls lo hi pb (R.map Pt.nz) n W h)
  rw [needS_nz, hNL] at HNEED
  rw [hNL] at HNEED2
  rw [atS_nz, ha1] at HAT
  rw [ha1] at HAT2
  rw [leftS_nz, hlf] at HLF
  rw [hlf] at HLF2
  rw [hd2] at HDN
  rcases a1 with ⟨av, ab⟩
  simp only at HAT HAT2
  have HD3 := Lib.hid hd3
  clear hb hA hok ha1 hlf hNL hdn hd2
  go_enter Try.func25, Try.ntmps25
  go_wp2_with fail
  generalize (w.alloc (.cells #[.slice A R.length c, .int .i64 n] 51)) = w0 at *
  refine (HAT.out _ HBD.out).mono ?_
  rintro e w1 ⟨rfl, hx⟩
  replace HBD := Lib.hid (HBD.out.ext hx)
  replace HPA := Lib.hid (HPA.out.ext hx)
  replace hbx := hx.block hbx
  replace hx0 := hx0.trans hx
  have b0 : w1.cell? ⟨w.heap.size, 0, none⟩ = some (.slice A R.length c) := by rw [cell_of_block hbx]; rfl
  have b1 : w1.cell? ⟨w.heap.size, 1, none⟩ = some (.int .i64 n) := by rw [cell_of_block hbx]; rfl
  clear hx hd3
  go_wp2_with fail
  refine (HAT2.out _ HPA.out).mono ?_
  rintro e w2 ⟨rfl, hx⟩
  have HX := Lib.hid (hx0.trans hx)
  replace HBD := Lib.hid (HBD.out.ext hx)
  replace HPA := Lib.hid (HPA.out.ext hx)
  replace b0 := hx.cell b0
  replace b1 := hx.cell b1
  clear hx hx0 hbx HAT HAT2
  go_upto_region 3 with (fail)
  have hdd : Ext w2 w2.drew := (Ext.refl _).drew
  replace HBD := Lib.hid (HBD.out.ext hdd)
  replace HPA := Lib.hid (HPA.out.ext hdd)
  replace HX := Lib.hid (HX.out.trans hdd)
  replace b0 := hdd.cell b0
  replace b1 := hdd.cell b1
  have hd3 := HD3.out
  clear hdd
  go_region_held3 (fun w' => w'.cell? ⟨w.heap.size, 0, none⟩ = some (.slice A R.length c) ∧ w'.cell? ⟨w.heap.size, 1, none⟩ = some (.int .i64 n)) (exact ⟨b0, b1⟩)
    (first
      | (go_at_call 31
         (with_reducible refine (HNEED.out _ HBD.out).mono ?_)
         rintro e wn ⟨A1, c1, rfl, h1, _, hx⟩
         replace HBD := Lib.hid (HBD.out.ext hx); replace HPA := Lib.hid (HPA.out.ext hx); replace HX := Lib.hid (HX.out.trans hx); replace b0 := hx.cell b0; replace b1 := hx.cell b1; (try (replace r1 := Lib.hid (r1.out.ext hx))); (try (replace r2 := Lib.hid (r2.out.ext hx))); (try (replace r3 := Lib.hid (r3.out.ext hx))); have r1 := h1; clear h1 hx)
      | (go_at_call 32
         (with_reducible refine (spans_calls A1 c1 NL _ r1.out hnl).mono ?_)
         rintro e wn ⟨v, rfl, hown, hx⟩
         obtain ⟨A2, c2, rfl, _⟩ := own_shape hown
         replace HBD := Lib.hid (HBD.out.ext hx); replace HPA := Lib.hid (HPA.out.ext hx); replace HX := Lib.hid (HX.out.trans hx); replace b0 := hx.cell b0; replace b1 := hx.cell b1; (try (replace r1 := Lib.hid (r1.out.ext hx))); (try (replace r2 := Lib.hid (r2.out.ext hx))); (try (replace r3 := Lib.hid (r3.out.ext hx))); have r2 := Lib.hid (sat_of_own hown); clear hown hx)
      | (go_at_call 46
         (with_reducible refine (HNEED2.out _ HPA.out).mono ?_)
         rintro e wn ⟨A3, c3, rfl, h3, hx⟩
         replace HBD := Lib.hid (HBD.out.ext hx); replace HPA := Lib.hid (HPA.out.ext hx); replace HX := Lib.hid (HX.out.trans hx); replace b0 := hx.cell b0; replace b1 := hx.cell b1; (try (replace r1 := Lib.hid (r1.out.ext hx))); (try (replace r2 := Lib.hid (r2.out.ext hx))); (try (replace r3 := Lib.hid (r3.out.ext hx))); have r3 := h3; clear h3 hx)
      | (go_at_call 45
         (with_reducible refine (list_calls A2 A3 c2 c3 NL NL _ r2.out r3.out hnl hnl).mono ?_)
         rintro e wn ⟨rfl, hx⟩
         replace HBD := Lib.hid (HBD.out.ext hx); replace HPA := Lib.hid (HPA.out.ext hx); replace HX := Lib.hid (HX.out.trans hx); replace b0 := hx.cell b0; replace b1 := hx.cell b1; (try (replace r1 := Lib.hid (r1.out.ext hx))); (try (replace r2 := Lib.hid (r2.out.ext hx))); (try (replace r3 := Lib.hid (r3.out.ext hx))); clear hx)
      | (go_at_call 17
         (with_reducible refine (HDN.out _ HBD.out).mono ?_)
         rintro e wn ⟨rfl, rfl⟩)
      | (go_at_call 15
         (with_reducible refine (HST.out _ HBD.out).mono ?_)
         rintro e wn ⟨rfl, rfl⟩)
      | (go_at_call 12
         (with_reducible refine (HLF.out _ HBD.out).mono ?_)
         rintro e wn ⟨rfl, hx⟩
         replace HBD := Lib.hid (HBD.out.ext hx); replace HPA := Lib.hid (HPA.out.ext hx); replace HX := Lib.hid (HX.out.trans hx); replace b0 := hx.cell b0; replace b1 := hx.cell b1; (try (replace r1 := Lib.hid (r1.out.ext hx))); (try (replace r2 := Lib.hid (r2.out.ext hx))); (try (replace r3 := Lib.hid (r3.out.ext hx))); clear hx)
      | (go_at_call 47
         (with_reducible refine (HLF2.out _ HPA.out).mono ?_)
         rintro e wn ⟨rfl, hx⟩
         replace HBD := Lib.hid (HBD.out.ext hx); replace HPA := Lib.hid (HPA.out.ext hx); replace HX := Lib.hid (HX.out.trans hx); replace b0 := hx.cell b0; replace b1 := hx.cell b1; (try (replace r1 := Lib.hid (r1.out.ext hx))); (try (replace r2 := Lib.hid (r2.out.ext hx))); (try (replace r3 := Lib.hid (r3.out.ext hx))); clear hx))
  all_goals
    go_wp2
    go_ret
    exact ⟨rfl, HX.out⟩
end Go.Proofs.Ytcdokpkffbigdaa
