/- The contract of the reference's In. -/
import Derived.Test.YtjiabibnbpjhaaaRuns
import Derived.Test.YtjiabibnbpjhaaaLaw
import Derived.Test.YtjiabibnbpjhaaaAll
import Derived.BigRegion
namespace Go.Proofs.Ytjiabibnbpjhaaa
open Go.RowKit

theorem meets_wf {r : Rn} {f t : Int} (h0 : 0 ≤ r.f) (h1 : r.f < r.t) (h2 : r.t ≤ OPEN) (h : rightB f t = true) : meets r.f r.t f t = decide (max r.f f < min r.t t) := by
  have hr : rightB r.f r.t = true := by
    unfold rightB
    unfold OPEN at h2
    simp only [Bool.and_eq_true, decide_eq_true_eq]
    omega
  unfold meets
  rw [hr, h]; rfl
theorem meets_not {a b f t : Int} (h : rightB f t = false) : meets a b f t = false := by
  unfold meets
  rw [h]; simp
theorem meetsR_not {l : List Rn} {f t : Int} (h : rightB f t = false) : meetsR l f t = [] := by
  unfold meetsR
  have : (l.filter fun r => meets r.f r.t f t) = [] := by
    rw [List.filter_eq_nil_iff]
    intro r _
    rw [meets_not h]; simp
  rw [this]; rfl
theorem WF.mem {lo : Int} {lv : Option Int} {l : List Rn} (h : WF lo lv l) (h0 : 0 ≤ lo) : ∀ r ∈ l, 0 ≤ r.f ∧ r.f < r.t ∧ r.t ≤ OPEN := by
  induction l generalizing lo lv with
  | nil => intro r hr; cases hr
  | cons q l ih =>
    obtain ⟨h1, _, h3, h4, h5⟩ := h
    intro r hr
    rcases List.mem_cons.1 hr with rfl | hr
    · exact ⟨by omega, h3, h4⟩
    · exact ih h5 (by omega) r hr

set_option maxHeartbeats 4000000 in
set_option maxRecDepth 100000 in
theorem refin_calls (A : Option Addr) (c : Nat) (l : List Ac) (f t : Int) (w : World) (ha : Acts w A l) (hl : l.length ≤ 10000) :
    Calls Try.prog 18 #[.slice A l.length c, .agg #[.int .i64 f, .int .i64 t]] w (ListPost w (meetsR (runsR l) f t)) := by
  have hlen : (runsR l).length ≤ 2 * l.length := by
    have := appR_length l
    rw [appR_eq] at this
    omega
  have hwf := (runsR_wf l).mem (Int.le_refl _)
  obtain ⟨rs, hrs⟩ : ∃ rs, runsR l = rs := ⟨_, rfl⟩
  rw [hrs] at hlen hwf ⊢
  have HRS := hide hrs
  have HWF := hide hwf
  clear hrs hwf
  go_enter Try.func18, Try.ntmps18
  have hx0 : Ext w (w.alloc (.cells #[.int .i64 f, .int .i64 t] 34)) := (Ext.refl w).alloc _
  have HA := hide (ha.ext hx0)
  clear ha
  go_wp2_with fail
  refine (refright_calls _ _ _).mono ?_
  rintro e w1 ⟨rfl, hx1⟩
  have b0 : w1.cell? ⟨w.heap.size, 0, none⟩ = some (.int .i64 f) := hx1.cell (by simp)
  have b1 : w1.cell? ⟨w.heap.size, 1, none⟩ = some (.int .i64 t) := hx1.cell (by simp)
  cases e1 : rightB f t
  · have hnil := hide (meetsR_not (l := rs) e1)
    have hx := hx0.trans hx1
    clear b0 b1 hx0 hx1
    go_wp2
    go_ret
    exact ⟨_, rfl, by rw [unhide hnil]; exact World.ownsRow_nil _ _ _ _, hx⟩
  · have HA1 := hide ((unhide HA).ext hx1)
    have HX1 := hide (hx0.trans hx1)
    have HE1 := hide e1
    clear hx0 hx1 HA e1
    go_wp2_with fail
    refine (runs_calls A c l w1 (unhide HA1) hl).mono ?_
    rintro e w2 ⟨v, rfl, hown, hx⟩
    rw [unhide HRS] at hown
    obtain ⟨A2, c2, rfl, _⟩ := own_shape hown
    have hru := row3_own hown
    replace b0 := hx.cell b0
    replace b1 := hx.cell b1
    replace hx := (unhide HX1).trans hx
    clear hown HA1 HX1
    go_wp2
    go_loopw [5, 14] (fun v i wr => ∃ k : Nat, k ≤ rs.length ∧ i = .int .i64 k ∧ wr.ownsRow w2.heap.size 50 3 v (meetsR (rs.take k) f t).length (flat (meetsR (rs.take k) f t)) ∧ Ext w2 wr) (fun _ i _ => rs.length - (intOf i).toNat)
    case atStart => exact ⟨0, Nat.zero_le _, rfl, World.ownsRow_nil _ _ _ _, Ext.refl _⟩
    case round =>
      obtain ⟨k, hk, rfl, hown, hxr⟩ := hrel
      by_cases hlt : k < rs.length
      · obtain ⟨b, rfl, p0, p1, p2⟩ := (hru.ext hxr) k hlt
        have hmem := unhide HWF _ (List.getElem_mem hlt)
        obtain ⟨r, hr⟩ : ∃ r, rs[k] = r := ⟨_, rfl⟩
        rw [hr] at p0 p1 p2 hmem
        have hm := meets_wf hmem.1 hmem.2.1 hmem.2.2 (unhide HE1)
        have hts : meetsR (rs.take (k + 1)) f t = meetsR (rs.take k) f t ++ (if meets r.f r.t f t then [⟨max r.f f, min r.t t, r.v⟩] else []) := by
          rw [List.take_succ_eq_append_getElem hlt, meetsR_snoc, hr]
        rw [hm] at hts
        have hol := meetsR_length (rs.take k) f t
        have hol2 : (rs.take k).length ≤ rs.length := by simp; omega
        generalize meetsR (rs.take k) f t = out at *
        have HS := Lib.hid hts
        have q0 : (wr.alloc (.cells #[.int .i64 r.f, .int .i64 r.t, .int .i64 r.v] 50)).cell? ⟨wr.heap.size, 0, none⟩ = some (.int .i64 r.f) := by simp
        have q1 : (wr.alloc (.cells #[.int .i64 r.f, .int .i64 r.t, .int .i64 r.v] 50)).cell? ⟨wr.heap.size, 1, none⟩ = some (.int .i64 r.t) := by simp
        have q2 : (wr.alloc (.cells #[.int .i64 r.f, .int .i64 r.t, .int .i64 r.v] 50)).cell? ⟨wr.heap.size, 2, none⟩ = some (.int .i64 r.v) := by simp
        have hxa : Ext wr (wr.alloc (.cells #[.int .i64 r.f, .int .i64 r.t, .int .i64 r.v] 50)) := (Ext.refl wr).alloc _
        have d0 := hxa.cell (hxr.cell b0)
        have d1 := hxa.cell (hxr.cell b1)
        have q3 : (wr.alloc (.cells #[.int .i64 r.f, .int .i64 r.t, .int .i64 r.v] 50)).heap.size = wr.heap.size + 1 := by simp
        have q4 : ∀ i, (wr.alloc (.cells #[.int .i64 r.f, .int .i64 r.t, .int .i64 r.v] 50)).frozen? ⟨wr.heap.size, i, none⟩ = false := fun i => by have := heap_alloc_new wr (.cells #[.int .i64 r.f, .int .i64 r.t, .int .i64 r.v] 50); simp only [World.frozen?, this]; simp
        have hbb : w.heap.size < wr.heap.size := by
          have := block_of_cell (hxr.cell b0)
          exact this
        clear hts hr hm hmem
        go_upto_region 7 with (fail)
        clear p0 p1 p2
        generalize wr.alloc (.cells #[.int .i64 r.f, .int .i64 r.t, .int .i64 r.v] 50) = wb at *
        have s0 : (((wb.setCell ⟨wr.heap.size, 0, none⟩ (.int .i64 (max r.f f))).setCell ⟨wr.heap.size, 1, none⟩ (.int .i64 (min r.t t))).drew).cell? ⟨wr.heap.size, 0, none⟩ = some (.int .i64 (max r.f f)) := by simp [go_sem, q0, q1]
        have s1 : (((wb.setCell ⟨wr.heap.size, 0, none⟩ (.int .i64 (max r.f f))).setCell ⟨wr.heap.size, 1, none⟩ (.int .i64 (min r.t t))).drew).cell? ⟨wr.heap.size, 1, none⟩ = some (.int .i64 (min r.t t)) := by simp [go_sem, q0, q1]
        have s2 : (((wb.setCell ⟨wr.heap.size, 0, none⟩ (.int .i64 (max r.f f))).setCell ⟨wr.heap.size, 1, none⟩ (.int .i64 (min r.t t))).drew).cell? ⟨wr.heap.size, 2, none⟩ = some (.int .i64 r.v) := by simp [go_sem, q0, q1, q2]
        have hxc : Ext wr (((wb.setCell ⟨wr.heap.size, 0, none⟩ (.int .i64 (max r.f f))).setCell ⟨wr.heap.size, 1, none⟩ (.int .i64 (min r.t t))).drew) := ((hxa.setCell (p := ⟨wr.heap.size, 0, none⟩) (Nat.le_refl _) _).setCell (p := ⟨wr.heap.size, 1, none⟩) (Nat.le_refl _) _).drew
        have HXC := hide hxc
        have S0 := hide s0
        have S1 := hide s1
        have S2 := hide s2
        clear s0 s1 s2 hxc hxa
        go_region
        generalize ((wb.setCell ⟨wr.heap.size, 0, none⟩ (.int .i64 (max r.f f))).setCell ⟨wr.heap.size, 1, none⟩ (.int .i64 (min r.t t))).drew = wc at *
        have s0 := unhide S0
        have s1 := unhide S1
        have s2 := unhide S2
        have hown1 := ownsRow_ext hown (unhide HXC)
        have hx3 := hxr.trans (unhide HXC)
        clear S0 S1 S2 q0 q1 q2 q3 q4 d0 d1 hown hxr HXC
        obtain ⟨A3, c3, rfl, _⟩ := own_shape hown1
        by_cases hmm : max r.f f < min r.t t
        · have HM := hide hmm
          go_wp2_with (at_builtin; refine wpList_append_new _ rfl _ _ 27 rfl w2.heap.size 50 _ 3 24 Try.underlying27 info50 rfl (by omega) (.slice A3 out.length c3) _ _ rfl hown1 1 1 _ (by simp) _ rfl rfl (by simp [Value.oneCell']) (by simp [maxLen]; omega) (by omega) hx3.size ?_; intro v1 w3 hown2 hm)
          go_roundw
          case rel => exact ⟨k + 1, by omega, by go_num, by rw [HS.out, if_pos (by simpa using hmm), List.length_append, flat_append, flat_one]; exact hown2, ext_moved hx3 hown1 hm⟩
          case measure => simp [intOf] <;> omega
        · go_wp2
          go_roundw
          case rel => exact ⟨k + 1, by omega, by go_num, by rw [HS.out, if_neg (by simpa using hmm), List.append_nil]; exact hown1, hx3⟩
          case measure => simp [intOf] <;> omega
      · obtain rfl : k = rs.length := by omega
        rw [List.take_length] at hown
        go_wp2
        go_ret
        exact ⟨_, rfl, hown.rebase hx.size, hx.trans hxr⟩
end Go.Proofs.Ytjiabibnbpjhaaa
