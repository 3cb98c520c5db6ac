/- RadixPlays: the walk. -/
import Derived.Test.YtcdjhoejnjbgkaaLawNext
namespace Go.Proofs.Ytcdjhoejnjbgkaa
open Go.RowKit

theorem get_okO {k : Nat} {t : Option Nd} (h : Nd.oWF t) : getO k t = getL k (Nd.oL t) := by
  cases t with
  | none => rfl
  | some t => exact get_ok h
theorem getL_at {L : List Pr} (hu : Up L) {j : Nat} (hj : j < L.length) : getL (L[j]).k L = some (L[j]).v := by
  unfold getL
  have : L.find? (fun r => decide (r.k = (L[j]).k)) = some L[j] := by
    rw [List.find?_eq_some_iff_getElem]
    refine ⟨by simp, j, hj, rfl, fun i hi => ?_⟩
    have := List.pairwise_iff_getElem.1 hu i j (by omega) hj hi
    simp; omega
  rw [this]; rfl
theorem getL_from {L : List Pr} (hu : Up L) (k : Nat) : getL k L = match fromL k L with | [] => none | x :: _ => if x.k = k then some x.v else none := by
  induction L with
  | nil => rfl
  | cons r L ih =>
    obtain ⟨h1, h2⟩ := List.pairwise_cons.1 hu
    have ih := ih h2
    by_cases hle : k ≤ r.k
    · have hf : fromL k (r :: L) = r :: fromL k L := by simp [fromL, hle]
      rw [hf]
      by_cases e : r.k = k
      · simp [getL, e]
      · have hn : getL k (r :: L) = none := getL_none (fun x hx => by
          rcases List.mem_cons.1 hx with rfl | hx
          · exact e
          · have := h1 x hx; omega)
        rw [hn]; simp [e]
    · have hf : fromL k (r :: L) = fromL k L := by simp [fromL, hle]
      have e : ¬ r.k = k := by omega
      rw [hf, ← ih]
      simp [getL, e]

set_option maxHeartbeats 4000000 in
set_option maxRecDepth 100000 in
theorem lawPlays_calls (A : Option Addr) (c : Nat) (l : List Ac) (k : Nat) (hk64 : k < 2 ^ 64) (w : World) (ha : Acts w A l) :
    Calls Try.prog 3 #[.slice A l.length c, .int .u64 k] w fun e w' => e = .returned (.bool true) ∧ Ext w w' := by
  have hlow := ha.low
  go_enter Try.func3, Try.ntmps3
  go_wp2_with fail
  refine (St.awake_calls _).mono ?_
  rintro e w1 ⟨rfl, hx⟩
  replace ha := ha.ext hx
  by_cases hl : 60 < l.length
  · go_wp2_with fail
    refine (St.awake_calls _).mono ?_
    rintro e w2 ⟨rfl, hx2⟩
    go_wp2
    go_ret
    exact ⟨rfl, hx.trans hx2⟩
  · have hB : Both w1 w1.heap.size none (.slice none 0 0) (w1.alloc (.cells #[.pointer none] 27)) :=
      ⟨none, heap_alloc_new w1 _, Nat.le_refl _, rfl, ⟨none, 0, rfl, fun k hk => by simp [Nd.oL] at hk⟩, (Ext.refl _).alloc _⟩
    go_wp2
    generalize hM : w1.heap.size = M at *
    generalize w1.alloc (.cells #[.pointer none] 27) = wi at *
    clear hM
    go_loopw [6, 26] (fun v i wr => ∃ n : Nat, n ≤ l.length ∧ i = .int .i64 n ∧ Both w1 M (runO (l.take n)) v wr) (fun _ i _ => l.length - (intOf i).toNat)
    case atStart => exact ⟨0, Nat.zero_le _, rfl, hB⟩
    case round =>
      obtain ⟨n, hn, rfl, hB'⟩ := hrel
      clear hB
      by_cases hlt : n < l.length
      · obtain ⟨p, hM, hM0, hat, hrd, hx1⟩ := hB'
        obtain ⟨ab, ao, rfl, a0, a1, a2, hk⟩ := ha.ext hx1 n hlt
        have hwf := runO_wf (low_take hlow n)
        have hln := runO_len (low_take hlow n)
        have hlen : (l.take n).length ≤ n := List.length_take_le _ _
        have hst := runO_take hlt
        generalize l[n] = a at *
        generalize runO (l.take n) = t at *
        obtain ⟨A2, c2, rfl, hrow⟩ := hrd
        have m0 : wr.cell? ⟨M, 0, none⟩ = some (.pointer p) := by rw [cell_of_row _ _ 0 _ _ _ hM]; rfl
        have hMl := (Array.getElem?_eq_some_iff.1 hM).1
        have HS := Lib.hid hst
        clear hst
        go_upto_region 8 with (fail)
        have hxb : Ext wr (wr.alloc (.cells #[.int .i64 a.kind, .int .u64 (a.k : Int), .int .i64 a.v] 30)) := (Ext.refl _).alloc _
        have hab := heap_alloc_new wr (.cells #[.int .i64 a.kind, .int .u64 (a.k : Int), .int .i64 a.v] 30)
        generalize wr.heap.size = ah at *
        generalize wr.alloc (.cells #[.int .i64 a.kind, .int .u64 (a.k : Int), .int .i64 a.v] 30) = wb at *
        go_cut [6] from 30 to 35 (fun v wx => Both w1 M (doO t a) v wx)
        case first =>
          have hdr := hxb.trans (show Ext wb wb.drew from (Ext.refl _).drew)
          have HM := hdr.block hM
          have AT := hat.ext hdr
          have RD := hrow.ext hdr
          have HX := hx1.trans hdr
          have b0 : wb.drew.cell? ⟨ah, 0, none⟩ = some (.int .i64 a.kind) := by rw [cell_of_row wb.drew ah 0 _ _ _ hab]; rfl
          have b1 : wb.drew.cell? ⟨ah, 1, none⟩ = some (.int .u64 (a.k : Int)) := by rw [cell_of_row wb.drew ah 1 _ _ _ hab]; rfl
          have b2 : wb.drew.cell? ⟨ah, 2, none⟩ = some (.int .i64 a.v) := by rw [cell_of_row wb.drew ah 2 _ _ _ hab]; rfl
          have m1 := (cell_ptr HM).1
          have m2 := (cell_ptr HM).2
          clear hM hat hrow hx1 hab hdr hxb a0 a1 a2 m0 ha
          go_region_with (first
            | (go_at_call 11
               refine (do_lit p t a _ ⟨AT, hwf, by omega⟩ hk).mono ?_
               rintro e wn ⟨q, rfl, HD, hx⟩
               replace RD := RD.ext hx
               replace HX := HX.trans hx
               replace HM := hx.block HM
               replace b0 := hx.cell b0
               replace b1 := hx.cell b1
               replace b2 := hx.cell b2
               clear hx AT m1 m2)
            | (go_at_call 12
               refine (want_lit A2 c2 _ a _ RD (by omega)).mono ?_
               rintro e wn ⟨v, rfl, HW, hx⟩
               replace HD := HD.ext hx
               replace HX := HX.trans hx
               replace HM := hx.block HM
               replace b0 := hx.cell b0
               replace b1 := hx.cell b1
               replace b2 := hx.cell b2
               have m1 := (cell_ptr HM).1
               have m2 := (cell_ptr HM).2
               clear hx RD))
          all_goals
            go_wp2_with fail
            go_meet
            exact both_set HM hM0 HD (by rw [(doO_ok hk hwf).2]; exact HW) HX
        case rest =>
          clear hM hat hrow hx1 hab hxb a0 a1 a2 m0
          obtain ⟨p2, hM2, _, hat2, hrd2, hx2⟩ := hcut
          have hwf2 : Nd.oWF (doO t a) := (doO_ok hk hwf).1
          have hlen2 : (Nd.oL (doO t a)).length ≤ n + 1 := by
            rw [(doO_ok hk hwf).2]; have := wantL_length (Nd.oL t) a; omega
          obtain ⟨A3, c3, rfl, hrow2⟩ := hrd2
          generalize doO t a = t2 at *
          have m1 := (cell_ptr hM2).1
          have hfe : fromO 0 t2 = Nd.oL t2 := by
            rw [from_okO hwf2]; unfold fromL; rw [List.filter_eq_self]; intro a _; simp
          have hpc := hide (pairs_calls p2 t2 wc hat2 hwf2 (by rw [hfe]; omega))
          rw [hfe] at hpc
          clear hfe
          go_wp2_with fail
          refine (unhide hpc).mono ?_
          rintro e w3 ⟨v3, rfl, hown3, hx3⟩
          have hr3 := hide (rowP_own (A := none) (c := 0) (l := []) (World.ownsRow_nil w3 0 37 2))
          replace hM2 := hx3.block hM2
          replace hrow2 := hrow2.ext hx3
          replace hat2 := hat2.ext hx3
          replace hx2 := hx2.trans hx3
          clear hx3 m1 hpc hr3
          obtain ⟨A4, c4, rfl, _⟩ := own_shape hown3
          have hrow3 := rowP_own hown3
          clear hown3
          go_wp2_with fail
          refine (same_calls A4 A3 c4 c3 _ _ _ hrow3 hrow2 (by omega)).mono ?_
          rintro e w4 ⟨rfl, hx3⟩
          replace hM2 := hx3.block hM2
          replace hrow2 := hrow2.ext hx3
          replace hat2 := hat2.ext hx3
          replace hx2 := hx2.trans hx3
          clear hx3 hrow3
          have m1 := (cell_ptr hM2).1
          have hde : decide (Nd.oL t2 = Nd.oL t2) = true := by simp
          rw [hde]
          clear hde
          go_wp2_with fail
          refine (mlen_calls p2 t2 _ hat2).mono ?_
          rintro e w5 ⟨rfl, hx3⟩
          replace hM2 := hx3.block hM2
          replace hrow2 := hrow2.ext hx3
          replace hat2 := hat2.ext hx3
          replace hx2 := hx2.trans hx3
          clear hx3 m1
          go_wp2
          go_roundw
          case rel => exact ⟨n + 1, by omega, by go_num, by rw [HS.out]; exact ⟨p2, hM2, hM0, hat2, ⟨A3, c3, rfl, hrow2⟩, hx2⟩⟩
          case measure => simp [intOf] <;> omega
      · obtain rfl : n = l.length := by omega
        obtain ⟨p, hM, hM0, hat, hrd, hx1⟩ := hB'
        rw [List.take_length] at hat hrd
        have hwf := runO_wf hlow
        have hln := runO_len hlow
        generalize runO l = t at *
        replace hx := hx.trans hx1
        obtain ⟨A2, c2, rfl, hrow⟩ := hrd
        have hup := upO hwf
        generalize hL : Nd.oL t = L at *
        have HL := Lib.hid hL
        have HU := Lib.hid hup
        have hfl := fromL_length k L
        clear hup hL hx1
        obtain ⟨w2, rfl⟩ : ∃ w2 : World, w2 = wr := ⟨_, rfl⟩
        go_wp2_with fail
        go_loopw [51] (fun i w' => ∃ j : Nat, j ≤ L.length ∧ i = .int .i64 j ∧ Ext w2 w') (fun i _ => L.length - (intOf i).toNat)
        case atStart => exact ⟨0, Nat.zero_le _, rfl, Ext.refl _⟩
        case round =>
          obtain ⟨j, hj, rfl, hxr⟩ := hrel
          by_cases hjl : j < L.length
          · obtain ⟨b, rfl, p0, p1⟩ := hrow.ext hxr j hjl
            have hg := getL_at HU.out.1 hjl
            have hk := HU.out.2 _ (List.getElem_mem hjl)
            have hm := (cell_ptr (hxr.block hM)).1
            have hnx := hide (fun W (h : AtO W p t) => mget_calls p t (L[j]).k W h hwf hk)
            rw [get_okO hwf, HL.out, hg] at hnx
            clear hg
            generalize L[j] = x at *
            have hxa : Ext wr (wr.alloc (.cells #[.int .u64 (x.k : Int), .int .i64 x.v] 37)) := (Ext.refl _).alloc _
            have hmM := (Array.getElem?_eq_some_iff.1 (hxr.block hM)).1
            have H5 := hide (unhide hnx _ (hat.ext (hxr.trans hxa)))
            clear hnx
            go_wp2_with fail
            refine (unhide H5).mono ?_
            rintro e w5 ⟨rfl, hx5⟩
            have q0 : w5.cell? ⟨wr.heap.size, 0, none⟩ = some (.int .u64 (x.k : Int)) := hx5.cell (by simp)
            have q1 : w5.cell? ⟨wr.heap.size, 1, none⟩ = some (.int .i64 x.v) := hx5.cell (by simp)
            have hx6 := hxr.trans (hxa.trans hx5)
            clear hx5 hxa hm
            simp only [getV]
            go_wp2
            go_roundw
            case rel => exact ⟨j + 1, by omega, by go_num, hx6⟩
            case measure => simp [intOf] <;> omega
          · obtain rfl : j = L.length := by omega
            replace hM := hxr.block hM
            replace hrow := hrow.ext hxr
            replace hat := hat.ext hxr
            have hxx := hx.trans hxr
            have hm := (cell_ptr hM).1
            have hnx := hide (fun W (h : AtO W p t) => mget_calls p t k W h hwf hk64)
            rw [get_okO hwf, HL.out, getL_from HU.out.1] at hnx
            have H5 := hide (unhide hnx _ hat)
            clear hnx hxr
            go_wp2_with fail
            refine (unhide H5).mono ?_
            rintro e w5 ⟨rfl, hx5⟩
            replace hrow := hrow.ext hx5
            replace hxx := hxx.trans hx5
            have hrf := hide (from_ref A2 c2 L k w5 hrow (by omega))
            generalize hfg : fromL k L = F at *
            clear hfg hx5 hm H5
            cases F with
            | nil =>
              simp only [getV]
              go_wp2_with fail
              refine (unhide hrf).mono ?_
              rintro e w4 ⟨v4, rfl, hown4, hx4⟩
              obtain ⟨A4, c4, rfl, _⟩ := own_shape hown4
              go_wp2
              go_ret
              exact ⟨rfl, hxx.trans hx4⟩
            | cons f0 F =>
              by_cases hfk : f0.k = k
              · simp only [if_pos hfk, getV]
                go_wp2_with fail
                refine (unhide hrf).mono ?_
                rintro e w4 ⟨v4, rfl, hown4, hx4⟩
                obtain ⟨A4, c4, rfl, _⟩ := own_shape hown4
                obtain ⟨b4, e4, f4a, f4b⟩ := rowP_own hown4 0 (by simp)
                cases e4
                simp only [List.getElem_cons_zero, Nat.zero_mul, Nat.zero_add] at f4a f4b
                have hlp : (0 : Int) < ((f0 :: F).length : Int) := by simp
                have hlp2 : 0 < (f0 :: F).length := by simp
                have e1 : ((f0.k : Int) == (k : Int)) = true := by simp [hfk]
                have hxf := hxx.trans hx4
                clear hrf hown4 hfk
                generalize (f0 :: F).length = nF at *
                go_wp2
                go_ret
                exact ⟨rfl, hxf⟩
              · simp only [if_neg hfk, getV]
                go_wp2_with fail
                refine (unhide hrf).mono ?_
                rintro e w4 ⟨v4, rfl, hown4, hx4⟩
                obtain ⟨A4, c4, rfl, _⟩ := own_shape hown4
                obtain ⟨b4, e4, f4a, f4b⟩ := rowP_own hown4 0 (by simp)
                cases e4
                simp only [List.getElem_cons_zero, Nat.zero_mul, Nat.zero_add] at f4a f4b
                have hlp : (0 : Int) < ((f0 :: F).length : Int) := by simp
                have hlp2 : 0 < (f0 :: F).length := by simp
                have e1 : ((f0.k : Int) == (k : Int)) = false := by simp; omega
                have hxf := hxx.trans hx4
                clear hrf hown4 hfk
                generalize (f0 :: F).length = nF at *
                go_wp2
                go_ret
                exact ⟨rfl, hxf⟩
end Go.Proofs.Ytcdjhoejnjbgkaa
