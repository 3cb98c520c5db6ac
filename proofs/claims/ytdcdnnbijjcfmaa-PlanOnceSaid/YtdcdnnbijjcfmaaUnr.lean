/- The contract of the reference's Units. -/
import Derived.Test.YtdcdnnbijjcfmaaUni
import Derived.Test.YtdcdnnbijjcfmaaRefD
import Derived.Test.YtdcdnnbijjcfmaaRefE
import Derived.OneCell
namespace Go.Proofs.Ytdcdnnbijjcfmaa
open Go.RowKit

theorem and_run {a b : List Sp} (ha : Norm a) (hb : Norm b) (m : Nat) : ∀ (M : List Sp) (i j : Nat), AndInv a b M i j → (a.length - i) + (b.length - j) = m → ∃ M' i' j', AndInv a b M' i' j' ∧ (i' = a.length ∨ j' = b.length) := by
  induction m with
  | zero => intro M i j h hm; exact ⟨M, i, j, h, by have := h.1; omega⟩
  | succ m ih =>
    intro M i j h hm
    by_cases hi : i < a.length
    · by_cases hj : j < b.length
      · by_cases hle : a[i].t ≤ b[j].t
        · exact ih _ _ _ (andinv_a ha hb h hi hj hle) (by omega)
        · exact ih _ _ _ (andinv_b ha hb h hi hj (by omega)) (by omega)
      · exact ⟨M, i, j, h, by have := h.2.1; omega⟩
    · exact ⟨M, i, j, h, by have := h.1; omega⟩
theorem and_len {a b : List Sp} (ha : Norm a) (hb : Norm b) : (andS a b).length ≤ a.length + b.length := by
  obtain ⟨M, i, j, h, he⟩ := and_run ha hb _ [] 0 0 (andinv_nil a b) rfl
  rw [← andinv_end ha hb h he]
  exact and_length_of h

set_option maxHeartbeats 8000000 in
set_option maxRecDepth 100000 in
theorem unitsR_calls (A : Option Addr) (c : Nat) (g : List Sp) (n u : Int) (w : World) (h : SAt w A g) (hn : Norm g) (hl : g.length ≤ 100000) :
    Calls Try.prog 17 #[.slice A g.length c, .int .i64 n, .int .i64 u] w (SPostN w (unitsS g n u)) := by
  rw [← units_eq hn]
  cases hU : unitB u
  · have hR : runitsS g n u = [] := by unfold runitsS measB; rw [hU]; rfl
    rw [hR]
    have HU := Lib.hid hU
    clear hU hR
    go_enter Try.func17, Try.ntmps17
    go_wp2_with (go_at_call 40; refine (unitOk_calls u _).mono ?_; rintro e w' ⟨rfl, rfl⟩; rw [HU.out])
    go_ret
    exact ⟨none, 0, rfl, Lib.hid (SAt.nil _ _), Lib.hid (fun b o e => by cases e), Ext.refl _⟩
  · cases hL : lengthB n
    · have hR : runitsS g n u = [] := by unfold runitsS measB; rw [hU, hL]; rfl
      rw [hR]
      have HU := Lib.hid hU
      have HL := Lib.hid hL
      clear hU hL hR
      go_enter Try.func17, Try.ntmps17
      go_wp2_with (first | (go_at_call 40; refine (unitOk_calls u _).mono ?_; rintro e w' ⟨rfl, rfl⟩; rw [HU.out]) | (go_at_call 41; refine (lengthOk_calls n _).mono ?_; rintro e w' ⟨rfl, rfl⟩; rw [HL.out]))
      go_ret
      exact ⟨none, 0, rfl, Lib.hid (SAt.nil _ _), Lib.hid (fun b o e => by cases e), Ext.refl _⟩
    · have hR : runitsS g n u = ofS ((andS g (boxS n)).map (wideS n u)) := by unfold runitsS measB; rw [hU, hL]; rfl
      have hEB := end_bound hL
      have hok : ∀ s ∈ andS g (boxS n), s.ok ∧ s.t ≤ endI n := fun s hs => and_box hn hL hs
      have hW : ∀ s : Sp, wideS n u s = ⟨s.f - s.f % u, if s.t < 4611686018427387904 then min (s.t + (u - s.t % u) % u) (endI n) else 4611686018427387904⟩ := fun s => rfl
      have hLn : (andS g (boxS n)).length ≤ 100001 := by have h1 := and_len hn (norm_box n); have h2 : (boxS n).length ≤ 1 := norm_one_length ⟨0, endI n⟩; omega
      have hAB : andS (ofS g) (ofS [⟨0, endI n⟩]) = andS g (boxS n) := by rw [of_norm hn]; rfl
      have HA := Lib.hid (fun W (hW : SAt W A g) B d (hB : SAt W B [⟨0, endI n⟩]) => (refAnd_calls A c g B d [⟨0, endI n⟩] W hW hB (by omega) (by simp)))
      rw [hAB] at HA
      generalize runitsS g n u = R at *
      generalize andS g (boxS n) = L at *
      have hUb := unit_bound hU
      have HW := Lib.hid hW
      have HR := Lib.hid hR
      have HU := Lib.hid hU
      have HL := Lib.hid hL
      have HOK := Lib.hid hok
      have HEB := Lib.hid hEB
      have HE := Lib.hid (fun w => end_calls n w)
      clear hR hEB hok hW hAB hU hL
      generalize endI n = E at *
      go_enter Try.func17, Try.ntmps17
      go_wp2_with (first | (go_at_call 40; refine (unitOk_calls u _).mono ?_; rintro e w' ⟨rfl, rfl⟩; rw [HU.out]) | (go_at_call 41; refine (lengthOk_calls n _).mono ?_; rintro e w' ⟨rfl, rfl⟩; rw [HL.out]) | (go_at_call 43; refine (HE.out _).mono ?_; rintro e w' ⟨rfl, rfl⟩) | (go_at_call 42; fail))
      have hx0 : Ext w (w.alloc (.cells #[.int .i64 0, .int .i64 E] 48)) := (Ext.refl w).alloc _
      refine (HA.out _ (h.ext hx0) _ 1 (sat_one w 0 E)).mono ?_
      rintro e w1 ⟨V, cv, rfl, HS, _, hx1⟩
      replace hx1 := hx0.trans hx1
      clear HA h hx0
      go_wp2
      go_loopw [7, 26] (fun v i wr => ∃ k : Nat, k ≤ L.length ∧ i = .int .i64 k ∧ wr.ownsRow w1.heap.size 48 2 v k (spans ((L.take k).map (wideS n u))) ∧ Ext w1 wr) (fun _ i _ => L.length - (intOf i).toNat)
      case atStart => exact ⟨0, Nat.zero_le _, rfl, World.ownsRow_nil _ _ _ _, Ext.refl w1⟩
      case round =>
        obtain ⟨k, hk, rfl, hown, hx⟩ := hrel
        by_cases hlt : k < L.length
        · obtain ⟨b, o, rfl, p0, p1⟩ := HS.out.ext hx k hlt
          have hts : (L.take (k + 1)).map (wideS n u) = (L.take k).map (wideS n u) ++ [wideS n u L[k]] := by rw [List.take_succ_eq_append_getElem hlt, List.map_append]; rfl
          obtain ⟨⟨s1, s2, s3⟩, s4⟩ := HOK.out L[k] (List.getElem_mem hlt)
          have hw := HW.out L[k]
          obtain ⟨VA, cva, rfl, _⟩ := own_shape hown
          generalize L[k] = s at *
          have HTS := Lib.hid hts
          have HWS := Lib.hid hw
          have hb3 := hx.size
          clear hts hw
          have m1 : 0 ≤ s.f % u := Int.emod_nonneg _ (by omega)
          have m2 : s.f % u < u := Int.emod_lt_of_pos _ (by omega)
          have m5 : s.f % u ≤ s.f := emod_le s1 (by omega)
          have m3 : 0 ≤ s.t % u := Int.emod_nonneg _ (by omega)
          have m4 : s.t % u < u := Int.emod_lt_of_pos _ (by omega)
          have hu0 : u ≠ 0 := by omega
          go_wp2
          go_region
          have hxa : Ext wr ((wr.alloc (.cells #[.int .i64 s.f, .int .i64 s.t] 48)).alloc (.cells #[.int .i64 (s.f - s.f % u), .int .i64 4611686018427387904] 48)).drew := (((Ext.refl wr).alloc _).alloc _).drew
          have c1 : ((wr.alloc (.cells #[.int .i64 s.f, .int .i64 s.t] 48)).alloc (.cells #[.int .i64 (s.f - s.f % u), .int .i64 4611686018427387904] 48)).drew.cell? ⟨wr.heap.size, 1, none⟩ = some (.int .i64 s.t) := by simp [go_sem]
          have d0 : ((wr.alloc (.cells #[.int .i64 s.f, .int .i64 s.t] 48)).alloc (.cells #[.int .i64 (s.f - s.f % u), .int .i64 4611686018427387904] 48)).drew.cell? ⟨wr.heap.size + 1, 0, none⟩ = some (.int .i64 (s.f - s.f % u)) := by simp [go_sem]
          have d1 : ((wr.alloc (.cells #[.int .i64 s.f, .int .i64 s.t] 48)).alloc (.cells #[.int .i64 (s.f - s.f % u), .int .i64 4611686018427387904] 48)).drew.cell? ⟨wr.heap.size + 1, 1, none⟩ = some (.int .i64 4611686018427387904) := by simp [go_sem]
          have f1 : ((wr.alloc (.cells #[.int .i64 s.f, .int .i64 s.t] 48)).alloc (.cells #[.int .i64 (s.f - s.f % u), .int .i64 4611686018427387904] 48)).drew.frozen? ⟨wr.heap.size + 1, 1, none⟩ = false := by simp [go_sem]
          generalize ((wr.alloc (.cells #[.int .i64 s.f, .int .i64 s.t] 48)).alloc (.cells #[.int .i64 (s.f - s.f % u), .int .i64 4611686018427387904] 48)).drew = wa at *
          have hown2 := ownsRow_ext hown hxa
          have hx2 := hx.trans hxa
          have hzz : wr.heap.size + 1 ≠ wr.heap.size := by omega
          have hzr : w1.heap.size ≤ wr.heap.size := hx.size
          have hne : (Value.slice VA k cva).ownBlock ≠ some (wr.heap.size + 1) := fun e => by have := own_lt hown e; omega
          generalize wr.heap.size = xb at *
          generalize hf : s.f - s.f % u = f at *
          have HF := Lib.hid hf
          clear p0 p1 hown hx hxa m1 m2 m5 hf hb3
          by_cases e1 : s.t < 4611686018427387904
          · have HV : Hid (wideS n u s = ⟨f, min (s.t + (u - s.t % u) % u) E⟩) := Lib.hid (by rw [HWS.out, if_pos e1])
            have n1 : 0 ≤ (u - s.t % u) % u := Int.emod_nonneg _ (by omega)
            have n2 : (u - s.t % u) % u < u := Int.emod_lt_of_pos _ (by omega)
            clear HWS
            go_wp2
            have hk : ∀ v, (wa.drew.setCell ⟨xb + 1, 1, none⟩ v).cell? ⟨xb, 1, none⟩ = some (.int .i64 s.t) := fun v => (World.cell?_setCell_other _ _ _ v (fun e => by injection e; omega)).trans c1
            go_region_held3 (fun w' => w'.cell? ⟨xb, 1, none⟩ = some (.int .i64 s.t)) (first | exact c1 | exact hk _)
              (first | (go_at_call 43
                        (with_reducible refine (HE.out _).mono ?_)
                        rintro e wn ⟨rfl, rfl⟩))
            have hmv : min (IntKind.i64.wrap (s.t + (IntKind.i64.wrap (u - s.t.tmod u)).tmod u)) E = min (s.t + (u - s.t % u) % u) E := by
              rw [Int.tmod_eq_emod_of_nonneg (show 0 ≤ s.t by omega), IntWalk.i64_in (u - s.t % u) (by omega), Int.tmod_eq_emod_of_nonneg (show 0 ≤ u - s.t % u by omega), IntWalk.i64_in _ (by omega)]
            rw [hmv]
            clear hmv
            generalize min (s.t + (u - s.t % u) % u) E = t at *
            have hx3 : Ext w1 (wa.setCell ⟨xb + 1, 1, none⟩ (.int .i64 t)).drew := (hx2.setCell (by show w1.heap.size ≤ xb + 1; omega) _).drew
            have hown3 : (wa.setCell ⟨xb + 1, 1, none⟩ (.int .i64 t)).drew.ownsRow w1.heap.size 48 2 (.slice VA k cva) k (spans ((L.take k).map (wideS n u))) := ownsRow_ext (ownsRow_setCell_other hown2 (a := ⟨xb + 1, 1, none⟩) hne _) (Ext.refl _).drew
            have d2 : (wa.setCell ⟨xb + 1, 1, none⟩ (.int .i64 t)).drew.cell? ⟨xb + 1, 0, none⟩ = some (.int .i64 f) := (World.cell?_setCell_other _ _ _ _ (fun e => by injection e; omega)).trans d0
            have d3 : (wa.setCell ⟨xb + 1, 1, none⟩ (.int .i64 t)).drew.cell? ⟨xb + 1, 1, none⟩ = some (.int .i64 t) := by simp [go_sem, d1]
            clear d0 d1 f1 hk c1 hown2 hx2
            generalize (wa.setCell ⟨xb + 1, 1, none⟩ (.int .i64 t)).drew = wb at *
            have hb3 := hx3.size
            go_wp2_with (at_builtin; refine wpList_append_new _ rfl _ _ 22 rfl w1.heap.size 48 _ 2 16 Try.underlying22 infoSpan rfl (by omega) _ _ _ rfl hown3 1 1 _ (by simp) _ rfl rfl (by simp [Value.oneCell']) (by simp [maxLen]; omega) (by omega) hb3 ?_; intro v1 w3 hown4 hm; have hx4 := ext_moved hx3 hown3 hm)
            go_roundw
            case rel => exact ⟨k + 1, by omega, by go_num, by rw [HTS.out, HV.out, spans_append, spans_one]; exact hown4, hx4⟩
            case measure => simp [intOf]; omega
          · have HV : Hid (wideS n u s = ⟨f, 4611686018427387904⟩) := Lib.hid (by rw [HWS.out, if_neg e1])
            clear HWS f1
            have hx3 := hx2
            have hown3 := hown2
            have hb3 := hx3.size
            clear hx2 hown2
            go_wp2_with (at_builtin; refine wpList_append_new _ rfl _ _ 22 rfl w1.heap.size 48 _ 2 16 Try.underlying22 infoSpan rfl (by omega) _ _ _ rfl hown3 1 1 _ (by simp) _ rfl rfl (by simp [Value.oneCell']) (by simp [maxLen]; omega) (by omega) hb3 ?_; intro v1 w3 hown4 hm; have hx4 := ext_moved hx3 hown3 hm)
            go_roundw
            case rel => exact ⟨k + 1, by omega, by go_num, by rw [HTS.out, HV.out, spans_append, spans_one]; exact hown4, hx4⟩
            case measure => simp [intOf]; omega
        · obtain rfl : k = L.length := by omega
          rw [List.take_length] at hown
          have hlm : (L.map (wideS n u)).length = L.length := by simp
          obtain ⟨Lm, hLm⟩ : ∃ Lm, L.map (wideS n u) = Lm := ⟨_, rfl⟩
          rw [hLm] at hown hlm
          obtain ⟨VA, cva, rfl, _⟩ := own_shape hown
          have hS : SAt wr VA Lm := sat_of_own hown
          have hR2 : R = ofS Lm := by rw [HR.out, hLm]
          have hcall : Calls Try.prog 15 #[.slice VA L.length cva] wr (SPostN wr R) := by
            have := refOfN_calls VA cva Lm wr hS (by omega)
            rwa [hlm, ← hR2] at this
          have HC := Lib.hid hcall
          have hx2 := hx1.trans hx
          clear hcall hR2 hS hLm hlm hown HS HR HOK HW
          go_wp2_with fail
          refine HC.out.mono ?_
          rintro e w3 ⟨V3, c3, rfl, HS3, HN3, hx3⟩
          go_wp2
          go_ret
          exact ⟨V3, c3, rfl, HS3, Lib.hid (fun b o e => Nat.le_trans hx2.size (HN3.out b o e)), hx2.trans hx3⟩
end Go.Proofs.Ytdcdnnbijjcfmaa
