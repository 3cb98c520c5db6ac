/- The contract of the reference's Put. -/
import Derived.Test.YtoahjhkfnchdhaaRpm
import Derived.Test.YtoahjhkfnchdhaaLawTurned
import Derived.Deep.CutRange
import Derived.Deep.RegionHeld3
namespace Go.Proofs.Ytoahjhkfnchdhaa
open Go.RowKit

theorem wrap_over {x : Int} (h1 : 9223372036854775808 ≤ x) (h2 : x < 9223372036854775808 + 1000) : IntKind.i64.wrap x = x - 18446744073709551616 := by
  unfold IntKind.wrap
  have e1 : x % (2 ^ IntKind.i64.bits : Int) = x := by
    have : (2 ^ IntKind.i64.bits : Int) = 18446744073709551616 := by decide
    rw [this]
    omega
  simp only [e1]
  have e2 : (2 ^ (IntKind.i64.bits - 1) : Int) = 9223372036854775808 := by decide
  have e3 : (2 ^ IntKind.i64.bits : Int) = 18446744073709551616 := by decide
  have e4 : IntKind.i64.signed = true := by decide
  rw [e2, e3, e4, if_pos (by simp; omega)]
/-- A span's box. -/
def SpanBox (w : World) (F T : Int) (v : Value) (wx : World) : Prop := ∃ xb, v = .pointer (some ⟨xb, 0, none⟩) ∧ w.heap.size ≤ xb ∧ wx.heap[xb]? = some (.cells #[.int .i64 F, .int .i64 T] 24 (0, 0)) ∧ Ext w wx
theorem box_fill {w : World} {b : Nat} {t : TypeId} {x y u v : Value} (h : w.heap[b]? = some (.cells #[x, y] t (0, 0))) : ((w.setCell ⟨b, 0, none⟩ u).setCell ⟨b, 1, none⟩ v).heap[b]? = some (.cells #[u, v] t (0, 0)) := by
  rw [heap_setCell_same _ _ _ _ _ _ (heap_setCell_same _ _ _ _ _ _ h)]; rfl
theorem intsL_set (l : List Int) (k : Nat) (x : Int) : (intsL l).set k (.int .i64 x) = intsL (l.set k x) := by
  unfold intsL
  rw [List.map_set]
def RefPutPost (lo : Nat) (w : World) (rb : Nat) (B : Bf) (R : Rb) (a : Int) (p : List UInt8) (e : Ending) (w' : World) : Prop :=
  ∃ bs', RbPost lo w rb (.tuple #[.int .i64 (B.putN a p), .int .i64 (B.putE a p)]) { R with bs := bs' } e w' ∧ Rel (B.put a p) { R with bs := bs' }

set_option maxHeartbeats 4000000 in
set_option maxRecDepth 100000 in
theorem refput_calls (lo rb : Nat) (B : Bf) (R : Rb) (hr : Rel B R) (a : Int) (A : Option Addr) (c : Nat) (p : List UInt8) (w : World) (h : RbAt lo w rb R) (hlo : lo ≤ w.heap.size) (hp : BytesAt w A p) (hm : p.length ≤ 100)
    (ha : -9223372036854775808 ≤ a) (ha' : a ≤ 9223372036854775807) :
    Calls Try.prog 24 #[.pointer (some ⟨rb, 0, none⟩), .int .i64 a, .slice A p.length c] w (RefPutPost lo w rb B R a p) := by
  by_cases h0 : a < 0
  · have e1 : B.putE a p = 1 := by unfold Bf.putE; rw [if_pos h0]
    have e2 : B.putN a p = 0 := by unfold Bf.putN; rw [if_pos (.inl h0)]
    have e3 : B.put a p = B := by unfold Bf.put; rw [if_pos (.inl h0)]
    have hP : RefPutPost lo w rb B R a p (.returned (.tuple #[.int .i64 0, .int .i64 1])) w := ⟨R.bs, ⟨by rw [e1, e2], Lib.hid h, Chg.refl _ _ _⟩, by rw [e3]; exact hr⟩
    have HP := Lib.hid hP
    clear hP e1 e2 e3 h hp hr
    go_enter Try.func24, Try.ntmps24
    go_wp2
    go_ret2
    exact HP.out
  · have a0 : 0 ≤ a := by omega
    obtain ⟨e0, e1, e2, e3, e4⟩ := hr.ends
    obtain ⟨A5, c5, hb, hrl, hI, hA5⟩ := h
    have r0 : w.cell? ⟨rb, 0, none⟩ = some (.int .i64 R.no) := by rw [cell_of_block hb]; rfl
    have r1 : w.cell? ⟨rb, 1, none⟩ = some (.int .i64 R.u) := by rw [cell_of_block hb]; rfl
    have r2 : w.cell? ⟨rb, 2, none⟩ = some (.int .i64 R.n) := by rw [cell_of_block hb]; rfl
    have hs := fun W => refspan_calls R.no R.u R.n W
    have hsp : spanS R.no R.u R.n = ⟨B.f, B.t⟩ := by unfold spanS; rw [if_pos hr.so, hr.f, hr.t]
    rw [hsp] at hs
    have HS := Lib.hid hs
    have HR := Lib.hid hr
    have HB := Lib.hid hb
    have HI := Lib.hid (And.intro hI hA5)
    obtain ⟨F, hF⟩ : ∃ F, B.f = F := ⟨_, rfl⟩
    obtain ⟨T, hT⟩ : ∃ T, B.t = T := ⟨_, rfl⟩
    obtain ⟨rno, hno⟩ : ∃ x, R.no = x := ⟨_, rfl⟩
    obtain ⟨ru, hru⟩ : ∃ x, R.u = x := ⟨_, rfl⟩
    obtain ⟨rn, hrn⟩ : ∃ x, R.n = x := ⟨_, rfl⟩
    rw [hF, hT, hno, hru, hrn] at HS
    rw [hno] at r0
    rw [hru] at r1
    rw [hrn] at r2
    rw [hF, hT, hru] at e2
    rw [hF] at e0
    rw [hF, hT] at e1
    rw [hT] at e3
    rw [hru] at e4
    have HF := Lib.hid (And.intro hF (And.intro hT hru))
    clear hs hsp hb hI hA5 hr hF hT hno hru hrn
    have hbx0 := heap_alloc_new w (.cells #[.int .i64 0, .int .i64 0] 24)
    go_enter Try.func24, Try.ntmps24
    go_wp2
    have HE := Lib.hid (Ext.refl w).drew
    have HEa : Hid (Ext w (w.alloc (.cells #[.int .i64 0, .int .i64 0] 24)).drew) := Lib.hid ((Ext.refl w).alloc _).drew
    have HBX := Lib.hid hbx0
    clear hbx0
    have keep : Hid (∀ W, Ext w W → W.cell? ⟨rb, 0, none⟩ = some (.int .i64 rno) ∧ W.cell? ⟨rb, 1, none⟩ = some (.int .i64 ru) ∧ W.cell? ⟨rb, 2, none⟩ = some (.int .i64 rn)) := Lib.hid fun W hE => ⟨hE.cell r0, hE.cell r1, hE.cell r2⟩
    go_cut [8] from 16 to 28 (fun v wx => SpanBox w F T v wx)
    case first =>
      refine wp_region_noPanic ?_
      go_region_held3 (fun w' => w'.cell? ⟨rb, 0, none⟩ = some (.int .i64 rno) ∧ w'.cell? ⟨rb, 1, none⟩ = some (.int .i64 ru) ∧ w'.cell? ⟨rb, 2, none⟩ = some (.int .i64 rn))
        ((with_reducible refine keep.out _ ?_; (repeat' with_reducible first | exact HE.out | exact HEa.out | exact hE3 | exact hE3b | exact hE4 _ | exact hE5 _ _ | exact hE6 _ | exact hE7 _ _ | refine Ext.drew ?_ | refine Ext.alloc ?_ _)))
        ((go_at_call 13
          refine (HS.out _).mono ?_
          rintro e w3 ⟨rfl, hx3⟩
          (first
            | (have hE3 : Ext w w3 := HE.out.trans hx3
               have hE5 : ∀ u v, Ext w (((w3.alloc (.cells #[.int .i64 0, .int .i64 0] 24)).setCell ⟨w3.heap.size, 0, none⟩ u).setCell ⟨w3.heap.size, 1, none⟩ v) := fun u v => ((hE3.alloc _).setCell (p := ⟨w3.heap.size, 0, none⟩) hE3.size u).setCell (p := ⟨w3.heap.size, 1, none⟩) hE3.size v)
            | (have hE3 : Ext w w3 := HEa.out.trans hx3
               have bx3 : w3.heap[w.heap.size]? = some (.cells #[.int .i64 0, .int .i64 0] 24 (0, 0)) := hx3.block HBX.out
               have hE7 : ∀ u v, Ext w ((w3.setCell ⟨w.heap.size, 0, none⟩ u).setCell ⟨w.heap.size, 1, none⟩ v) := fun u v => (hE3.setCell (p := ⟨w.heap.size, 0, none⟩) (Nat.le_refl _) u).setCell (p := ⟨w.heap.size, 1, none⟩) (Nat.le_refl _) v
               have q0 : w3.cell? ⟨w.heap.size, 0, none⟩ = some (.int .i64 0) := (by rw [cell_of_block bx3]; rfl)
               have q1 : w3.cell? ⟨w.heap.size, 1, none⟩ = some (.int .i64 0) := (by rw [cell_of_block bx3]; rfl)
               have q2 : w3.frozen? ⟨w.heap.size, 0, none⟩ = false := frozen_of_block bx3 0
               have q3 : w3.frozen? ⟨w.heap.size, 1, none⟩ = false := frozen_of_block bx3 1))))
      all_goals refine noPanic_intro ?_
      all_goals go_wp2_with fail
      all_goals go_meet
      all_goals first
        | exact ⟨w.heap.size, rfl, Nat.le_refl _, box_fill bx3, hE7 _ _⟩
        | exact ⟨w3.heap.size, rfl, hE3.size, heap_alloc_new _ _, hE3.alloc _⟩
        | exact ⟨w3.heap.size, rfl, hE3.size, box_fill (heap_alloc_new _ _), hE5 _ _⟩
    case rest =>
      obtain ⟨xb, rfl, hxb, bxb, hE⟩ := hcut
      clear keep HEa HBX HE HS
      have hb1 := hE.block HB.out
      have hr3 : wc.cell? ⟨rb, 3, none⟩ = some (.slice A5 R.bs.length c5) := by rw [cell_of_block hb1]; rfl
      have hI1 := HI.out.1.ext hE
      have hown0 := World.ownsRow_lit (base := wc.heap.size) (size := 1) (e := 3) wc #[] 0 (Nat.le_refl _) (by simp [maxLen]) rfl
      have hxa : Ext wc (wc.alloc (.cells #[] 3)) := (Ext.refl wc).alloc _
      have hR := ints_reads (hI1.ext hxa)
      have hRl := HR.out.len
      have hRu := HF.out.2.2
      have hu64 := HR.out.u64
      have hbl : R.bs.length ≤ 64 := by omega
      replace hr3 := hxa.cell hr3
      have hwc := hE.size
      go_wp2_with (at_builtin; refine wpList_append_src _ rfl _ _ 73 rfl wc.heap.size 3 _ 1 8 Try.underlying73 infoInt rfl (by omega) (.slice (some ⟨wc.heap.size, 0, none⟩) 0 0) 0 [] rfl hown0 _ _ _ _ _ rfl hR (ints_plain _) (by simp [maxLen]; omega) (by omega) hxa.size ?_; intro v4 w4 hown hm4; have hx4 := ext_moved hxa hown0 hm4; rw [Nat.zero_add, List.nil_append] at hown; obtain ⟨A4, c4, rfl, hc4⟩ := own_shape hown)
      obtain ⟨g9, c9, hv9, hg9, _⟩ := hown.form (by omega)
      cases hv9
      have hxw4 := hE.trans hx4
      have bx4 := hx4.block bxb
      have hxbl := (Array.getElem?_eq_some_iff.1 bxb).1
      have hxg : xb ≠ g9 := by omega
      have hrT : rightB F T = true := by unfold rightB; simp only [Bool.and_eq_true, decide_eq_true_eq]; omega
      have HH := Lib.hid fun z W => refhas_calls F T z hrT W
      obtain ⟨N, hN⟩ : ∃ N, R.bs.length = N := ⟨_, rfl⟩
      have h0L : ∀ k (h : k < R.bs.length), R.bs[k] = nextV B R a p 0 k := fun k h => by rw [nextV_zero, List.getD_eq_getElem?_getD, List.getElem?_eq_getElem h]; rfl
      rw [hN] at hown hRl hbl ⊢
      have HN := Lib.hid hN
      obtain ⟨fF, fT, fU⟩ := HF.out
      have hown4 := Lib.hid hown
      have h0L' := Lib.hid h0L
      clear hown hm4 hR hown0 hxa hx4 hr3 hI1 hb1 bxb hN h0L r0 r1 r2 hrT fF fT fU
      go_wp2_with fail
      go_loopw [10, 11] (fun n i wr => ∃ (m : Nat) (L : List Int), m ≤ p.length ∧ i = .int .i64 m ∧ n = .int .i64 (newC B a m) ∧ L.length = N ∧ Hid (∀ k (h : k < L.length), L[k] = nextV B R a p m k) ∧ Hid (quiet B a p m) ∧ wr.ownsRow wc.heap.size 3 1 (.slice (some ⟨g9, 0, none⟩) N c4) N (intsL L) ∧ wr.heap[xb]? = some (.cells #[.int .i64 F, .int .i64 T] 24 (0, 0)) ∧ Ext w wr) (fun _ i _ => p.length - (intOf i).toNat)
      case atStart => exact ⟨0, R.bs, Nat.zero_le _, rfl, by rw [newC_zero], HN.out, h0L', Lib.hid (quiet_zero B a p), hown4.out, bx4, hxw4⟩
      case round =>
        clear hown4 bx4 hxw4 h0L'
        obtain ⟨m, L, hml, rfl, rfl, hLN, hLv, hq, hown, bx, hxw⟩ := hrel
        by_cases hlt : m < p.length
        · have x0 : wr.cell? ⟨xb, 0, none⟩ = some (.int .i64 F) := by rw [cell_of_block bx]; rfl
          have x1 : wr.cell? ⟨xb, 1, none⟩ = some (.int .i64 T) := by rw [cell_of_block bx]; rfl
          by_cases hov : a + m ≤ 9223372036854775807
          · by_cases hin : F ≤ a + m ∧ a + m < T
            · obtain ⟨i1, i2⟩ := hin
              obtain ⟨j, hj⟩ : ∃ j : Nat, a + m - F = j := ⟨(a + m - F).toNat, by omega⟩
              obtain ⟨fF, fT, fU⟩ := HF.out
              have hRl := HR.out.len
              have hNN := HN.out
              have hjN : j < N := by omega
              have hjB : B.f + j = a + m := by omega
              have hjR : j < R.bs.length := by omega
              have hjL : j < L.length := by omega
              have hw1 : IntKind.i64.wrap (a + m - F) = (j : Int) := (IntWalk.i64_in _ (by omega)).trans hj
              have hLj : L[j] = R.bs[j] := by rw [hLv.out j hjL, nextV_now hjB, List.getD_eq_getElem?_getD, List.getElem?_eq_getElem hjR]; rfl
              have hc := newC_step (B := B) (a := a) (m := m) (by omega) (by omega) a0
              have hcb := newC_bound (B := B) (a := a) (m := m)
              have qj : wr.cell? ⟨g9, j, none⟩ = some (.int .i64 L[j]) := by rw [hown.cellAt _ (by omega)]; simp [intsL, hjL]
              rw [hLj] at qj
              obtain ⟨b0, o0, hA0, hpc⟩ := hp.at_ (by omega)
              subst hA0
              have qp := hxw.cell (hpc m hlt)
              have hpm : p[m]? = some p[m] := List.getElem?_eq_getElem hlt
              obtain ⟨x, hx⟩ : ∃ x, p[m] = x := ⟨_, rfl⟩
              rw [hx] at qp hpm
              have HX := Lib.hid (show (p[m].toNat : Int) = x.toNat by rw [hx])
              have HPM := Lib.hid hpm
              have hh := fun W => HH.out (a + m) W
              rw [decide_eq_true i1, decide_eq_true i2] at hh
              have HH2 := Lib.hid hh
              have hxg9 : xb ≠ g9 := hxg
              have hg90 : w.heap.size ≤ g9 := by omega
              have d0 : (0 : Int) ≤ (j : Int) := by omega
              have d1 : (j : Int) < (N : Int) := by omega
              have d2 : (0 : Int) ≤ (m : Int) := by omega
              have d3 : (m : Int) < (p.length : Int) := by omega
              have d4 := x.toNat_lt
              have HC := Lib.hid (And.intro hc (And.intro hjB (show a + (m : Int) < B.t by omega)))
              clear hh hc hpm hj hLj hpc fF fT fU hRl hNN hx
              by_cases hz : Mem B.hs (B.f + j)
              · obtain ⟨b, hb1, hb2⟩ := HR.out.pos hjR hz
                have hmb : memB B.hs (a + m) = true := memB_iff.2 (by rw [← HC.out.2.1]; exact hz)
                rw [hb2] at qj
                have hb3 : B.bs[(a + (m : Int) - B.f).toNat]? = some b := by rw [show (a + (m : Int) - B.f).toNat = j by have := HC.out.2.1; omega]; exact hb1
                have HB3 := Lib.hid hb3
                have hmz : Mem B.hs (a + m) := by rw [← HC.out.2.1]; exact hz
                have HMZ := Lib.hid (And.intro hmz hmb)
                have db := b.toNat_lt
                clear hb1 hb2 hb3 hz hmb hmz hjR hjL hjN hjB
                by_cases hbx : b = x
                · subst hbx
                  have hne : ((b.toNat : Int) != (b.toNat : Int)) = false := by simp
                  go_wp2_with (go_at_call 33; refine (HH2.out _).mono ?_; rintro e w5 ⟨rfl, hx5⟩; replace x0 := hx5.cell x0; replace x1 := hx5.cell x1)
                  replace qj := hx5.cell qj
                  replace qp := hx5.cell qp
                  refine wp_region_ext_lit (by kernel_rfl) (by kernel_rfl) ?_
                  intro X _ g hg hg'
                  have k0 : ∀ n, (g n).cell? ⟨g9, j, none⟩ = some (.int .i64 (b.toNat : Int)) := fun n => (hg n).cell qj
                  have k1 : ∀ n, (g n).cell? ⟨b0, o0 + m, none⟩ = some (.int .u8 (b.toNat : Int)) := fun n => (hg n).cell qp
                  repeat (go_big_quiet_step (fail))
                  refine wpQuiet_nil ?_
                  rintro w' ⟨n, rfl⟩
                  have hxg := hg n
                  replace qj := hxg.cell qj
                  replace qp := hxg.cell qp
                  clear hg hg' k0 k1
                  generalize g n = w6 at *
                  have hx6 := hx5.trans hxg
                  have hown6 := ownsRow_ext hown hx6
                  have bx6 := hx6.block bx
                  have hxw6 := hxw.trans hx6
                  have fj : w6.frozen? ⟨g9, j, none⟩ = false := hown6.frozenAt _
                  have HO6 := Lib.hid hown6
                  clear hown hown6 hx5 hxg hx6 bx hxw
                  go_wp2_with fail
                  go_roundw
                  case rel =>
                    obtain ⟨hst, _⟩ := HO6.out.stored j (.int .i64 (b.toNat : Int))
                    refine ⟨m + 1, L.set j (b.toNat : Int), by omega, by go_num, by rw [HC.out.1]; rw [HMZ.out.2]; simp [b01], by rw [List.length_set]; exact hLN, Lib.hid (fun k h => ?_), Lib.hid (quiet_step hq.out fun hz2 => by rw [HB3.out, HPM.out]), by rw [intsL_set] at hst; exact hst, (Below.heap_setCell _ _ _ xb (by show xb ≠ g9; exact hxg9)).trans bx6, hxw6.setCell (p := ⟨g9, j, none⟩) (by show w.heap.size ≤ g9; omega) _⟩
                    rw [List.getElem_set, nextV_step HC.out.2.1 HC.out.2.2 hlt]
                    rw [List.length_set] at h
                    by_cases hkj : j = k
                    · rw [if_pos hkj, if_pos hkj.symm, HX.out]
                    · rw [if_neg hkj, if_neg (fun e => hkj e.symm)]
                      exact hLv.out k h
                  case measure => simp [intOf]; omega
                · have hne : ((b.toNat : Int) != (x.toNat : Int)) = true := by
                    simp only [bne_iff_ne, ne_eq]
                    intro e
                    exact hbx (UInt8.toNat_inj.1 (by omega))
                  obtain ⟨E1, E2, E3⟩ := clash_now HR.out a0 hlt HMZ.out.1 (by rw [HB3.out, HPM.out]; exact fun e => hbx (Option.some.inj e))
                  have HE3 := Lib.hid (And.intro E1 (And.intro E2 E3))
                  clear E1 E2 E3 hbx
                  go_wp2_with (go_at_call 33; refine (HH2.out _).mono ?_; rintro e w5 ⟨rfl, hx5⟩; replace x0 := hx5.cell x0; replace x1 := hx5.cell x1)
                  replace qj := hx5.cell qj
                  replace qp := hx5.cell qp
                  refine wp_region_ext_lit (by kernel_rfl) (by kernel_rfl) ?_
                  intro X _ g hg hg'
                  have k0 : ∀ n, (g n).cell? ⟨g9, j, none⟩ = some (.int .i64 (b.toNat : Int)) := fun n => (hg n).cell qj
                  have k1 : ∀ n, (g n).cell? ⟨b0, o0 + m, none⟩ = some (.int .u8 (x.toNat : Int)) := fun n => (hg n).cell qp
                  repeat (go_big_quiet_step (fail))
                  refine wpQuiet_nil ?_
                  rintro w' ⟨n, rfl⟩
                  have hxg := hg n
                  replace qj := hxg.cell qj
                  replace qp := hxg.cell qp
                  clear hg hg' k0 k1
                  generalize g n = w6 at *
                  have hx6 := hx5.trans hxg
                  have hown6 := ownsRow_ext hown hx6
                  have bx6 := hx6.block bx
                  have hxw6 := hxw.trans hx6
                  have fj : w6.frozen? ⟨g9, j, none⟩ = false := hown6.frozenAt _
                  have HO6 := Lib.hid hown6
                  clear hown hown6 hx5 hxg hx6 bx hxw
                  go_wp2_with fail
                  go_ret2
                  refine ⟨R.bs, ⟨by rw [HE3.out.1, HE3.out.2.1]; rfl, Lib.hid ?_, Chg.of_ext hxw6⟩, by rw [HE3.out.2.2]; exact HR.out⟩
                  exact RbAt.ext ⟨A5, c5, HB.out, hrl, HI.out.1, HI.out.2⟩ hxw6
              · have hm1 : R.bs[j] = -1 := by
                  rw [HR.out.val j hjR]
                  unfold valB
                  rw [if_neg (fun h => hz (memB_iff.1 h))]
                have hmb : memB B.hs (a + m) = false := by
                  cases e : memB B.hs (a + m)
                  · rfl
                  · exact absurd (by rw [HC.out.2.1]; exact memB_iff.1 e) hz
                rw [hm1] at qj
                have HMZ := Lib.hid (And.intro (show ¬ Mem B.hs (a + m) by rw [← HC.out.2.1]; exact hz) hmb)
                clear hm1 hmb hz hjR hjL hjN hjB
                go_wp2_with (go_at_call 33; refine (HH2.out _).mono ?_; rintro e w5 ⟨rfl, hx5⟩; replace x0 := hx5.cell x0; replace x1 := hx5.cell x1)
                replace qj := hx5.cell qj
                replace qp := hx5.cell qp
                refine wp_region_ext_lit (by kernel_rfl) (by kernel_rfl) ?_
                intro X _ g hg hg'
                have k0 : ∀ n, (g n).cell? ⟨g9, j, none⟩ = some (.int .i64 (-1)) := fun n => (hg n).cell qj
                have k1 : ∀ n, (g n).cell? ⟨b0, o0 + m, none⟩ = some (.int .u8 (x.toNat : Int)) := fun n => (hg n).cell qp
                repeat (go_big_quiet_step (fail))
                refine wpQuiet_nil ?_
                rintro w' ⟨n, rfl⟩
                have hxg := hg n
                replace qj := hxg.cell qj
                replace qp := hxg.cell qp
                clear hg hg' k0 k1
                generalize g n = w6 at *
                have hx6 := hx5.trans hxg
                have hown6 := ownsRow_ext hown hx6
                have bx6 := hx6.block bx
                have hxw6 := hxw.trans hx6
                have fj : w6.frozen? ⟨g9, j, none⟩ = false := hown6.frozenAt _
                have HO6 := Lib.hid hown6
                clear hown hown6 hx5 hxg hx6 bx hxw
                go_wp2_with fail
                go_roundw
                case rel =>
                  obtain ⟨hst, _⟩ := HO6.out.stored j (.int .i64 (x.toNat : Int))
                  refine ⟨m + 1, L.set j (x.toNat : Int), by omega, by go_num, by rw [HC.out.1]; rw [HMZ.out.2]; rfl, by rw [List.length_set]; exact hLN, Lib.hid (fun k h => ?_), Lib.hid (quiet_step hq.out fun hz2 => absurd hz2 HMZ.out.1), by rw [intsL_set] at hst; exact hst, (Below.heap_setCell _ _ _ xb (by show xb ≠ g9; exact hxg9)).trans bx6, hxw6.setCell (p := ⟨g9, j, none⟩) (by show w.heap.size ≤ g9; omega) _⟩
                  rw [List.getElem_set, nextV_step HC.out.2.1 HC.out.2.2 hlt]
                  rw [List.length_set] at h
                  by_cases hkj : j = k
                  · rw [if_pos hkj, if_pos hkj.symm, HX.out]
                  · rw [if_neg hkj, if_neg (fun e => hkj e.symm)]
                    exact hLv.out k h
                case measure => simp [intOf]; omega
            · have hh := fun W => HH.out (a + m) W
              have hd : (decide (F ≤ a + (m : Int)) && decide (a + (m : Int) < T)) = false := by
                rw [← Bool.decide_and]; exact decide_eq_false hin
              rw [hd] at hh
              have HH2 := Lib.hid hh
              have hni : ¬ (B.f ≤ a + m ∧ a + m < B.t) := by rw [HF.out.1, HF.out.2.1]; exact hin
              have hc := newC_skip (m := m) hni
              have HS := Lib.hid (And.intro hc hni)
              clear hh hd hc hni hin
              go_wp2_with (go_at_call 33; refine (HH2.out _).mono ?_; rintro e w5 ⟨rfl, hx5⟩)
              go_roundw
              case rel => exact ⟨m + 1, L, by omega, by go_num, by rw [HS.out.1], hLN, Lib.hid (fun k h => by rw [nextV_skip HS.out.2]; exact hLv.out k h), Lib.hid (quiet_step hq.out fun hz => absurd (mem_of_lies HR.out.ok.lies _ hz) HS.out.2), ownsRow_ext hown hx5, hx5.block bx, hxw.trans hx5⟩
              case measure => simp [intOf]; omega
          · have hwr := wrap_over (x := a + m) (by omega) (by omega)
            have hlt2 : a + m - 18446744073709551616 < a := by omega
            have hni : ¬ (B.f ≤ a + m ∧ a + m < B.t) := by rw [HF.out.1, HF.out.2.1]; omega
            have hc := newC_skip (m := m) hni
            have HS := Lib.hid (And.intro hc hni)
            obtain ⟨P, hP⟩ : ∃ P, a + m - 18446744073709551616 = P := ⟨_, rfl⟩
            rw [hP] at hwr hlt2
            clear hc hni hP
            go_wp2_with fail
            go_roundw
            case rel => exact ⟨m + 1, L, by omega, by go_num, by rw [HS.out.1], hLN, Lib.hid (fun k h => by rw [nextV_skip HS.out.2]; exact hLv.out k h), Lib.hid (quiet_step hq.out fun hz => absurd (mem_of_lies HR.out.ok.lies _ hz) HS.out.2), hown, bx, hxw⟩
            case measure => simp [intOf]; omega
        · obtain rfl : m = p.length := by omega
          obtain ⟨t1, t2, t3⟩ := put_done HR.out a0 hq.out L (by rw [hLN, HN.out]) hLv.out
          have hb5 := hxw.block HB.out
          have rf : wr.frozen? ⟨rb, 3, none⟩ = false := frozen_of_block hb5 3
          have r3 : wr.cell? ⟨rb, 3, none⟩ = some (.slice A5 R.bs.length c5) := by rw [cell_of_block hb5]; rfl
          have HB5 := Lib.hid hb5
          have HT := Lib.hid (And.intro t1 (And.intro t2 t3))
          have hrw : rb < w.heap.size := (Array.getElem?_eq_some_iff.1 HB.out).1
          have HOW := Lib.hid hown
          clear t1 t2 t3 hb5 hown
          go_wp2_with fail
          go_ret2
          refine ⟨L, ⟨by rw [HT.out.1, HT.out.2.1]; rfl, Lib.hid ?_, (Chg.of_ext hxw).trans (Chg.setCell _ (Nat.le_refl _) (Nat.lt_succ_self _))⟩, HT.out.2.2⟩
          refine ⟨some ⟨g9, 0, none⟩, c4, ?_, hrl, ?_, fun b o e _ => ?_⟩
          · rw [heap_setCell_same _ _ _ _ _ _ HB5.out]
            show _ = some (Obj.cells #[.int .i64 R.no, .int .i64 R.u, .int .i64 R.n, .slice (some ⟨g9, 0, none⟩) L.length c4] _ _)
            rw [hLN]
            rfl
          · exact ints_of_own (own_keep_set HOW.out HB5.out (by decide) _)
          · cases e
            exact ⟨by omega, by omega⟩
end Go.Proofs.Ytoahjhkfnchdhaa
