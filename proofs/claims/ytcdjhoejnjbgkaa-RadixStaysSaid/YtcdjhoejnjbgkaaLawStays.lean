/- RadixStays: the walk. -/
import Derived.Test.YtcdjhoejnjbgkaaCutA
namespace Go.Proofs.Ytcdjhoejnjbgkaa
open Go.RowKit

set_option maxHeartbeats 4000000 in
set_option maxRecDepth 100000 in
theorem lawStays_calls (A : Option Addr) (c : Nat) (l : List Ac) (A' : Option Addr) (c' : Nat) (more : List Ac) (at_ : Int) (w : World) (ha0 : Acts w A l ∧ l.length ≤ c) (hb0 : Acts w A' more ∧ more.length ≤ c') :
    Calls Try.prog 6 #[.slice A l.length c, .slice A' more.length c', .int .i64 at_] w fun e w' => e = .returned (.bool true) ∧ Ext w w' := by
  obtain ⟨ha, hc⟩ := ha0
  obtain ⟨hb, _⟩ := hb0
  have hlow := ha.low
  have hlowb := hb.low
  by_cases hbad : 40 < l.length ∨ 40 < more.length ∨ at_ < 0 ∨ (l.length : Int) < at_
  · rcases Nat.lt_or_ge 40 l.length with g1 | g1
    rotate_left
    rcases Nat.lt_or_ge 40 more.length with g2 | g2
    rotate_left
    rcases (by omega : at_ < 0 ∨ 0 ≤ at_) with g3 | g3
    rotate_left
    have g4 : (l.length : Int) < at_ := by omega
    all_goals
      clear hbad
      go_enter Try.func6, Try.ntmps6
      go_wp2_with fail
      refine (St.awake_calls _).mono ?_
      rintro e w1 ⟨rfl, hx⟩
      go_wp2_with fail
      refine (St.awake_calls _).mono ?_
      rintro e w2 ⟨rfl, hx2⟩
      go_wp2
      go_ret
      exact ⟨rfl, hx.trans hx2⟩
  · have g1 : ¬ 40 < l.length := by omega
    have g2 : ¬ 40 < more.length := by omega
    obtain ⟨n, rfl⟩ : ∃ n : Nat, at_ = n := ⟨at_.toNat, by omega⟩
    have g4 : n ≤ l.length := by omega
    have g5 : ¬ (l.length : Int) < (n : Int) := by omega
    clear hbad
    obtain ⟨l1, h1⟩ : ∃ l1, l.take n = l1 := ⟨_, rfl⟩
    obtain ⟨l2, h2⟩ : ∃ l2, l.drop n = l2 := ⟨_, rfl⟩
    have hl1 : l1.length = n := by rw [← h1]; simp; omega
    have hl2 : l2.length = l.length - n := by rw [← h2]; simp
    have ha1 : Acts w A l1 := by rw [← h1]; exact acts_upto ha n
    have ha2 : Acts w (if c = n then A else A.map (·.add (n * 3))) l2 := by rw [← h2]; exact acts_from ha hc
    have hs1 := run_upto A l.length c n (by omega)
    have hs2 := run_from A l.length c n g4
    rw [← hl2] at hs2
    generalize (if c = n then A else A.map (·.add (n * 3))) = A3 at *
    generalize c - n = c3 at *
    clear h1 h2 ha
    have hl12 : l2.length ≤ l.length := by omega
    clear hl2
    subst hl1
    have hd9 : decide (l.length < l1.length) = false := by simp; omega
    have hd8 : decide ((40 : Int) < (l.length : Int)) = false := by simp; omega
    have hd7 : decide ((40 : Int) < (more.length : Int)) = false := by simp; omega
    have hd6 : decide ((l1.length : Int) < 0) = false := by simp
    have hlow1 := ha1.low
    have hlow2 := ha2.low
    go_enter Try.func6, Try.ntmps6
    go_wp2_with fail
    refine (St.awake_calls _).mono ?_
    rintro e w1 ⟨rfl, hx⟩
    replace ha1 := ha1.ext hx
    replace ha2 := ha2.ext hx
    replace hb := hb.ext hx
    have hB : Both w1 w1.heap.size none (.slice none 0 0) (w1.alloc (.cells #[.pointer none] 27)) :=
      ⟨none, heap_alloc_new w1 _, Nat.le_refl _, rfl, ⟨none, 0, rfl, fun k hk => by simp [Nd.oL] at hk⟩, (Ext.refl _).alloc _⟩
    go_wp2
    generalize hM : w1.heap.size = M at *
    generalize w1.alloc (.cells #[.pointer none] 27) = wi at *
    have HMM := Lib.hid hM
    clear hM
    go_loopw [8, 45] (fun v i wr => ∃ n : Nat, n ≤ l1.length ∧ i = .int .i64 n ∧ Both w1 M (runO (l1.take n)) v wr) (fun _ i _ => l1.length - (intOf i).toNat)
    case atStart => exact ⟨0, Nat.zero_le _, rfl, hB⟩
    case round =>
      obtain ⟨n, hn, rfl, hB'⟩ := hrel
      clear hB
      by_cases hlt : n < l1.length
      · obtain ⟨p, hM, hM0, hat, hrd, hx1⟩ := hB'
        obtain ⟨ab, ao, rfl, a0, a1, a2, hk⟩ := ha1.ext hx1 n hlt
        have hwf := runO_wf (low_take hlow1 n)
        have hln := runO_len (low_take hlow1 n)
        have hlen : (l1.take n).length ≤ n := List.length_take_le _ _
        have hst := runO_take hlt
        generalize l1[n] = a at *
        generalize runO (l1.take n) = t at *
        obtain ⟨A2, c2, rfl, hrow⟩ := hrd
        have m0 : wr.cell? ⟨M, 0, none⟩ = some (.pointer p) := by rw [cell_of_row _ _ 0 _ _ _ hM]; rfl
        have hMl := (Array.getElem?_eq_some_iff.1 hM).1
        have HS := Lib.hid hst
        clear hst
        go_upto_region 8 with (fail)
        have hxb : Ext wr (wr.alloc (.cells #[.int .i64 a.kind, .int .u64 (a.k : Int), .int .i64 a.v] 30)) := (Ext.refl _).alloc _
        have hab := heap_alloc_new wr (.cells #[.int .i64 a.kind, .int .u64 (a.k : Int), .int .i64 a.v] 30)
        generalize wr.heap.size = ah at *
        generalize wr.alloc (.cells #[.int .i64 a.kind, .int .u64 (a.k : Int), .int .i64 a.v] 30) = wb at *
        have hdr := hxb.trans (show Ext wb wb.drew from (Ext.refl _).drew)
        have HM := hdr.block hM
        have AT := hat.ext hdr
        have RD := hrow.ext hdr
        have HX := hx1.trans hdr
        have b0 : wb.drew.cell? ⟨ah, 0, none⟩ = some (.int .i64 a.kind) := by rw [cell_of_row wb.drew ah 0 _ _ _ hab]; rfl
        have b1 : wb.drew.cell? ⟨ah, 1, none⟩ = some (.int .u64 (a.k : Int)) := by rw [cell_of_row wb.drew ah 1 _ _ _ hab]; rfl
        have b2 : wb.drew.cell? ⟨ah, 2, none⟩ = some (.int .i64 a.v) := by rw [cell_of_row wb.drew ah 2 _ _ _ hab]; rfl
        have m1 := (cell_ptr HM).1
        have m2 := (cell_ptr HM).2
        clear hM hat hrow hx1 hab hdr hxb a0 a1 a2 m0 ha1
        go_region_with (first
          | (go_at_call 11
             refine (do_lit p t a _ ⟨AT, hwf, by omega⟩ hk).mono ?_
             rintro e wn ⟨q, rfl, HD, hx⟩
             replace RD := RD.ext hx
             replace HX := HX.trans hx
             replace HM := hx.block HM
             replace b0 := hx.cell b0
             replace b1 := hx.cell b1
             replace b2 := hx.cell b2
             clear hx AT m1 m2)
          | (go_at_call 12
             refine (want_lit A2 c2 _ a _ RD (by omega)).mono ?_
             rintro e wn ⟨v, rfl, HW, hx⟩
             replace HD := HD.ext hx
             replace HX := HX.trans hx
             replace HM := hx.block HM
             replace b0 := hx.cell b0
             replace b1 := hx.cell b1
             replace b2 := hx.cell b2
             have m1 := (cell_ptr HM).1
             have m2 := (cell_ptr HM).2
             clear hx RD))
        all_goals
          go_wp2_with fail
          go_roundw
          case rel => exact ⟨n + 1, by omega, by go_num, by rw [HS.out]; exact both_set HM hM0 HD (by rw [(doO_ok hk hwf).2]; exact HW) HX⟩
          case measure => simp [intOf] <;> omega
      · obtain rfl : n = l1.length := by omega
        obtain ⟨p, hM, hM0, hat, hrd, hx1⟩ := hB'
        rw [List.take_length] at hat hrd
        have hwf := runO_wf hlow1
        have hln := runO_len hlow1
        generalize runO l1 = t at *
        have m0 := (cell_ptr hM).1
        have hMl := (Array.getElem?_eq_some_iff.1 hM).1
        have hxe : Ext wr (wr.alloc (.cells #[.pointer p] 27)) := (Ext.refl _).alloc _
        have hH1 : Hold w1 wr.heap.size p t u8 (Nd.oL t) (wr.alloc (.cells #[.pointer p] 27)) := ⟨heap_alloc_new wr _, hat.ext hxe, hrd.ext hxe, hx1.trans hxe⟩
        have hV : Var M (([] : List Ac).foldl doO t) (wr.alloc (.cells #[.pointer p] 27)) := ⟨p, hxe.block hM, hat.ext hxe⟩
        go_wp2
        have hE1 : w1.heap.size ≤ wr.heap.size := by have := HMM.out; omega
        have hEM : wr.heap.size ≠ M := by omega
        generalize wr.heap.size = E at *
        generalize wr.alloc (.cells #[.pointer p] 27) = we at *
        clear hM hat hrd hx1 m0 hxe
        go_loopw [61] (fun i wr => ∃ n : Nat, n ≤ l2.length ∧ i = .int .i64 n ∧ Var M ((l2.take n).foldl doO t) wr ∧ Hold w1 E p t u8 (Nd.oL t) wr) (fun i _ => l2.length - (intOf i).toNat)
        case atStart => exact ⟨0, Nat.zero_le _, rfl, hV, hH1⟩
        case round =>
          clear hV hH1
          obtain ⟨n, hn, rfl, hV, hH1⟩ := hrel
          by_cases hlt : n < l2.length
          · obtain ⟨q, hM, hat⟩ := hV
            have hF := runO_fold (l2.take n) (low_take hlow2 n) t hwf
            have hst := fold_take hlt t
            have hlen : (l2.take n).length ≤ n := List.length_take_le _ _
            obtain ⟨ab, ao, rfl, a0, a1, a2, hk⟩ := ha2.ext hH1.2.2.2 n hlt
            generalize l2[n] = a at *
            generalize (l2.take n).foldl doO t = t at *
            have m0 := (cell_ptr hM).1
            have hMl := (Array.getElem?_eq_some_iff.1 hM).1
            have HS := Lib.hid hst
            have hxb : Ext wr (wr.alloc (.cells #[.int .i64 a.kind, .int .u64 (a.k : Int), .int .i64 a.v] 30)) := (Ext.refl _).alloc _
            have hwft := hF.1
            have hlnt := hF.2.1
            clear hst hF
            have hdo := hide (do_lit q t a _ ⟨hat.ext hxb, hwft, by omega⟩ hk)
            go_wp2_with fail
            refine (unhide hdo).mono ?_
            rintro e wn ⟨r, rfl, HD, hx⟩
            have hx2 := hxb.trans hx
            replace hM := hx2.block hM
            replace hH1 := hH1.ext hx2
            have m1 := (cell_ptr hM).1
            have m2 := (cell_ptr hM).2
            have hVn := Var.set hM HD
            replace hH1 := hH1.other (q := r) hM hM0 hEM
            clear hx hx2 hxb m0 hat HD hM a0 a1 a2 hdo
            go_wp2
            go_roundw
            case rel => exact ⟨n + 1, by omega, by go_num, by rw [HS.out]; exact hVn, hH1⟩
            case measure => simp [intOf] <;> omega
          · obtain rfl : n = l2.length := by omega
            rw [List.take_length] at hV
            obtain ⟨q, hM, hat⟩ := hV
            have hF := runO_fold l2 hlow2 t hwf
            generalize l2.foldl doO t = t2 at *
            have hwf2 := hF.1
            have hln2 := hF.2.1
            have hfe : fromO 0 t2 = Nd.oL t2 := by
              rw [from_okO hwf2]; unfold fromL; rw [List.filter_eq_self]; intro a _; simp
            have hpc := hide (fun W (h : AtO W q t2) => pairs_calls q t2 W h hwf2 (by rw [hfe]; omega))
            rw [hfe] at hpc
            have hMl2 := (Array.getElem?_eq_some_iff.1 hM).1
            have m0 := (cell_ptr hM).1
            have hp1 := hide (unhide hpc wr hat)
            clear hF hfe
            go_wp2_with fail
            refine (unhide hp1).mono ?_
            rintro e w4 ⟨nv, rfl, hown, hx4⟩
            replace hM := hx4.block hM
            replace hat := hat.ext hx4
            replace hH1 := hH1.ext hx4
            have hNR := reads_own hown
            have e0 := (cell_ptr hH1.1).1
            have hEl := (Array.getElem?_eq_some_iff.1 hH1.1).1
            have hxo : Ext w4 (w4.alloc (.cells #[.pointer p] 27)) := (Ext.refl _).alloc _
            have hH2 : Hold w1 M q t2 nv (Nd.oL t2) (w4.alloc (.cells #[.pointer p] 27)) := ⟨hxo.block hM, hat.ext hxo, hNR.ext hxo, hH1.2.2.2.trans hxo⟩
            have hV : Var w4.heap.size (([] : List Ac).foldl doO t) (w4.alloc (.cells #[.pointer p] 27)) := ⟨p, heap_alloc_new w4 _, hH1.2.1.ext hxo⟩
            replace hH1 := hH1.ext hxo
            obtain ⟨NA, nc, rfl, _⟩ := own_shape hown
            clear hown hNR m0 hp1
            go_wp2
            have hML := (Array.getElem?_eq_some_iff.1 hM).1
            have hw1O : w1.heap.size ≤ w4.heap.size := by omega
            have hEO : E ≠ w4.heap.size := by omega
            have hMO : M ≠ w4.heap.size := by omega
            clear hEl hML e0 hM hat hxo hx4
            generalize w4.heap.size = O at *
            generalize w4.alloc (.cells #[.pointer p] 27) = wo at *
            go_loopw [74] (fun i wr => ∃ n : Nat, n ≤ more.length ∧ i = .int .i64 n ∧ Var O ((more.take n).foldl doO t) wr ∧ Hold w1 E p t u8 (Nd.oL t) wr ∧ Hold w1 M q t2 (.slice NA (Nd.oL t2).length nc) (Nd.oL t2) wr) (fun i _ => more.length - (intOf i).toNat)
            case atStart => exact ⟨0, Nat.zero_le _, rfl, hV, hH1, hH2⟩
            case round =>
              clear hV hH1 hH2
              obtain ⟨n, hn, rfl, hV, hH1, hH2⟩ := hrel
              by_cases hlt : n < more.length
              · obtain ⟨q, hM, hat⟩ := hV
                have hF := runO_fold (more.take n) (low_take hlowb n) t hwf
                have hst := fold_take hlt t
                have hlen : (more.take n).length ≤ n := List.length_take_le _ _
                obtain ⟨ab, ao, rfl, a0, a1, a2, hk⟩ := hb.ext hH1.2.2.2 n hlt
                generalize more[n] = a at *
                generalize (more.take n).foldl doO t = t at *
                have m0 := (cell_ptr hM).1
                have hMl := (Array.getElem?_eq_some_iff.1 hM).1
                have HS := Lib.hid hst
                have hxb : Ext wr (wr.alloc (.cells #[.int .i64 a.kind, .int .u64 (a.k : Int), .int .i64 a.v] 30)) := (Ext.refl _).alloc _
                have hwft := hF.1
                have hlnt := hF.2.1
                clear hst hF
                have hdo := hide (do_lit q t a _ ⟨hat.ext hxb, hwft, by omega⟩ hk)
                go_wp2_with fail
                refine (unhide hdo).mono ?_
                rintro e wn ⟨r, rfl, HD, hx⟩
                have hx2 := hxb.trans hx
                replace hM := hx2.block hM
                replace hH1 := hH1.ext hx2
                replace hH2 := hH2.ext hx2
                have m1 := (cell_ptr hM).1
                have m2 := (cell_ptr hM).2
                have hVn := Var.set hM HD
                replace hH1 := hH1.other (q := r) hM hw1O hEO
                replace hH2 := hH2.other (q := r) hM hw1O hMO
                clear hx hx2 hxb m0 hat HD hM a0 a1 a2 hdo
                go_wp2
                go_roundw
                case rel => exact ⟨n + 1, by omega, by go_num, by rw [HS.out]; exact hVn, hH1, hH2⟩
                case measure => simp [intOf] <;> omega
              · obtain rfl : n = more.length := by omega
                clear hV
                have hRD := hH1.2.2.1
                obtain ⟨WA, wc', rfl, _⟩ := hRD
                have hfe1 : fromO 0 t = Nd.oL t := by
                  rw [from_okO hwf]; unfold fromL; rw [List.filter_eq_self]; intro a _; simp
                have hfe2 : fromO 0 t2 = Nd.oL t2 := by
                  rw [from_okO hwf2]; unfold fromL; rw [List.filter_eq_self]; intro a _; simp
                have P1 := hide (fun W (h : AtO W p t) => pairs_calls p t W h hwf (by rw [hfe1]; omega))
                have P2 := hide (fun W (h : AtO W q t2) => pairs_calls q t2 W h hwf2 (by rw [hfe2]; omega))
                rw [hfe1] at P1
                rw [hfe2] at P2
                clear hfe1 hfe2
                have m0 := (cell_ptr hH1.1).1
                have c1 := hide (unhide P1 wr hH1.2.1)
                go_wp2_with fail
                refine (unhide c1).mono ?_
                rintro e v1 ⟨x1, rfl, hown1, hxx⟩
                obtain ⟨XA, xc, rfl, _⟩ := own_shape hown1
                have hr1 := rowP_own hown1
                replace hH1 := hH1.ext hxx
                replace hH2 := hH2.ext hxx
                have hrW : RowP v1 WA (Nd.oL t) := by
                  obtain ⟨A9, c9, e9, h9⟩ := hH1.2.2.1
                  cases e9; exact h9
                clear hxx hown1 c1 m0
                go_wp2_with fail
                refine (same_calls XA WA xc wc' _ _ _ hr1 hrW (by omega)).mono ?_
                rintro e v2 ⟨rfl, hxx⟩
                replace hH1 := hH1.ext hxx
                replace hH2 := hH2.ext hxx
                have hde : decide (Nd.oL t = Nd.oL t) = true := by simp
                rw [hde]
                have m0 := (cell_ptr hH1.1).1
                clear hxx hr1 hrW hde
                go_wp2_with fail
                refine (mlen_calls p t _ hH1.2.1).mono ?_
                rintro e v3 ⟨rfl, hxx⟩
                replace hH1 := hH1.ext hxx
                replace hH2 := hH2.ext hxx
                have m1 := (cell_ptr hH2.1).1
                clear hxx m0
                have c2 := hide (unhide P2 v3 hH2.2.1)
                go_wp2_with fail
                refine (unhide c2).mono ?_
                rintro e v4 ⟨x2, rfl, hown2, hxx⟩
                obtain ⟨YA, yc, rfl, _⟩ := own_shape hown2
                have hr2 := rowP_own hown2
                replace hH2 := hH2.ext hxx
                have hrN : RowP v4 NA (Nd.oL t2) := by
                  obtain ⟨A9, c9, e9, h9⟩ := hH2.2.2.1
                  cases e9; exact h9
                clear hxx hown2 c2 m1 hH1
                go_wp2_with fail
                refine (same_calls YA NA yc nc _ _ _ hr2 hrN (by omega)).mono ?_
                rintro e v5 ⟨rfl, hxx⟩
                replace hH2 := hH2.ext hxx
                go_wp2
                go_ret
                exact ⟨by simp, hx.trans hH2.2.2.2⟩
end Go.Proofs.Ytcdjhoejnjbgkaa
