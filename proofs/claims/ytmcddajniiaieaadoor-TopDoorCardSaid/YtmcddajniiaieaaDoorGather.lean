/- The contract of ranges.gather. -/
import Derived.Test.YtmcddajniiaieaaDoorSpn
import Derived.BigRegion
namespace Go.Proofs.YtmcddajniiaieaaDoor
open Go.RowKit

set_option maxHeartbeats 1000000 in
set_option maxRecDepth 100000 in
theorem gather_calls (A : Option Addr) (c : Nat) (l : List Sp) (w : World) (h : SAt w A l) (hl : l.length ≤ 1000000) :
    Calls Tryd.prog 33 #[.slice A l.length c] w (RowPost w (gath l)) := by
  go_enter Tryd.func33, Tryd.ntmps33
  go_wp2
  go_loopw [3, 9] (fun v i wr => ∃ k : Nat, k ≤ l.length ∧ i = .int .i64 k ∧ wr.ownsRow w.heap.size 50 2 v (gath (l.take k)).length (spans (gath (l.take k))) ∧ Ext w wr) (fun _ i _ => l.length - (intOf i).toNat)
  case atStart => exact ⟨0, Nat.zero_le _, rfl, World.ownsRow_nil _ _ _ _, Ext.refl w⟩
  case round =>
    obtain ⟨k, hk, rfl, hown, hx⟩ := hrel
    by_cases hlt : k < l.length
    · obtain ⟨b, o, rfl, p0, p1⟩ := h.ext hx k hlt
      have hts : gath (l.take (k + 1)) = gstep (gath (l.take k)) l[k] := by rw [List.take_succ_eq_append_getElem hlt, gath_snoc]
      obtain ⟨s, hs⟩ : ∃ s, l[k] = s := ⟨_, rfl⟩
      rw [hs] at p0 p1 hts
      have hlen : (gath (l.take k)).length ≤ k := Nat.le_trans (gath_length _) (List.length_take_le _ _)
      obtain ⟨L, hL⟩ : ∃ L, gath (l.take k) = L := ⟨_, rfl⟩
      rw [hL] at hts hown hlen
      have HT := Lib.hid hts
      have HB := hx.size
      clear hts hs hL h
      rcases List.eq_nil_or_concat L with rfl | ⟨L, q, rfl⟩
      · replace hown : wr.ownsRow w.heap.size 50 2 _ 0 [] := hown
        obtain ⟨A', c', rfl, _⟩ := own_shape hown
        clear hlen
        go_wp2
        refine wp_region_ext_lit (by kernel_rfl) (by kernel_rfl) ?_
        intro X _ g hg hg'
        repeat (go_big_quiet_step (fail))
        refine wpQuiet_nil ?_
        rintro w' ⟨n, rfl⟩
        have c0 := (hg n).cell (p := ⟨wr.heap.size, 0, none⟩) (u := .int .i64 s.f) (by simp)
        have c1 := (hg n).cell (p := ⟨wr.heap.size, 1, none⟩) (u := .int .i64 s.t) (by simp)
        have hx2 := (hx.alloc (.cells #[.int .i64 s.f, .int .i64 s.t] 50)).trans (hg n)
        have hown1 := ownsRow_ext hown (((Ext.refl wr).alloc (.cells #[.int .i64 s.f, .int .i64 s.t] 50)).trans (hg n))
        have hb2 := hx2.size
        clear hg hg' hown hx p0 p1
        go_wp2_with (at_builtin; refine wpList_append_new _ rfl _ _ 45 rfl w.heap.size 50 _ 2 16 Tryd.underlying45 infoSpan rfl (by omega) _ 0 [] rfl hown1 1 1 _ (by simp) _ rfl rfl (by simp [Value.oneCell']) (by simp [maxLen]) (by omega) hb2 ?_; intro v1 w1 hown2 hm)
        have hx3 := ext_moved hx2 hown1 hm
        go_roundw
        case rel => exact ⟨k + 1, by omega, by go_num, by rw [HT.out, gstep_nil]; exact hown2, hx3⟩
        case measure => simp [intOf]; omega
      · rw [List.concat_eq_append] at *
        have hl2 : (L ++ [q]).length = L.length + 1 := by simp
        rw [hl2] at hown hlen
        obtain ⟨g0, cap, rfl, _⟩ := hown.form (by omega)
        generalize hk : L.length = m at *
        have hq1 : wr.cell? ⟨g0, m * 2 + 1, none⟩ = some (.int .i64 q.t) := by rw [hown.cellAt _ (by omega), ← hk]; exact spans_at L q 1
        have HK := Lib.hid hk
        have hne : g0 ≠ wr.heap.size := fun e => by have := block_of_cell hq1; simp only at this; omega
        clear hk hl2
        cases e1 : decide (s.f ≤ q.t)
        all_goals
          go_wp2
          refine wp_region_ext_lit (by kernel_rfl) (by kernel_rfl) ?_
          intro X _ g hg hg'
          have c1 : ∀ n, (g n).cell? ⟨g0, m * 2 + 1, none⟩ = some (.int .i64 q.t) := fun n => ((Ext.refl wr).alloc _ |>.trans (hg n)).cell hq1
          have d0 : ∀ n, (g n).cell? ⟨wr.heap.size, 0, none⟩ = some (.int .i64 s.f) := fun n => (hg n).cell (by simp)
          have d1 : ∀ n, (g n).cell? ⟨wr.heap.size, 1, none⟩ = some (.int .i64 s.t) := fun n => (hg n).cell (by simp)
          repeat (go_big_quiet_step (fail))
          refine wpQuiet_nil ?_
          rintro w' ⟨n, rfl⟩
          have hx2 := (hx.alloc (.cells #[.int .i64 s.f, .int .i64 s.t] 50)).trans (hg n)
          have hown1 := ownsRow_ext hown (((Ext.refl wr).alloc (.cells #[.int .i64 s.f, .int .i64 s.t] 50)).trans (hg n))
          have hb2 := hx2.size
          replace c1 := c1 n
          replace d0 := d0 n
          replace d1 := d1 n
          have fz : (g n).frozen? ⟨g0, m * 2 + 1, none⟩ = false := hown1.frozenAt _
          clear hg hg' hown hx p0 p1 hq1
          generalize g n = wg at *
          generalize wr.heap.size = xb at *
        · have e2 : ¬ s.f ≤ q.t := by simpa using e1
          clear e1
          go_wp2_with (at_builtin; refine wpList_append_new _ rfl _ _ 45 rfl w.heap.size 50 _ 2 16 Tryd.underlying45 infoSpan rfl (by omega) (.slice (some ⟨g0, 0, none⟩) (m + 1) cap) _ _ rfl hown1 1 1 _ (by simp) _ rfl rfl (by simp [Value.oneCell']) (by simp [maxLen]; omega) (by omega) hb2 ?_; intro v1 w1 hown2 hm)
          have hx3 := ext_moved hx2 hown1 hm
          obtain rfl := HK.out
          go_roundw
          case rel => exact ⟨k + 1, by omega, by go_num, by rw [HT.out, gstep_snoc, if_neg e2, spans_append, spans_one, List.length_append, List.length_append]; exact hown2, hx3⟩
          case measure => simp [intOf]; omega
        · have e2 : s.f ≤ q.t := by simpa using e1
          clear e1
          go_wp2
          go_region
          have hx3 := (hx2.setCell (p := ⟨g0, m * 2 + 1, none⟩) (by show w.heap.size ≤ g0; omega) (.int .i64 (max q.t s.t))).drew
          have h3 := (hown1.stored (m * 2 + 1) (.int .i64 (max q.t s.t))).1
          obtain rfl := HK.out
          rw [spans_set] at h3
          replace h3 := ownsRow_ext h3 (Ext.refl _).drew
          go_wp2
          go_roundw
          case rel => exact ⟨k + 1, by omega, by go_num, by rw [HT.out, gstep_snoc, if_pos e2, List.length_append]; exact h3, hx3⟩
          case measure => simp [intOf]; omega
    · obtain rfl : k = l.length := by omega
      rw [List.take_length] at hown
      go_wp2
      go_ret
      exact ⟨_, rfl, hown, hx⟩
end Go.Proofs.YtmcddajniiaieaaDoor
