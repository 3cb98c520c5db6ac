/- RadixDepth: the walk. -/
import Derived.Test.YtcdjhoejnjbgkaaRound
namespace Go.Proofs.Ytcdjhoejnjbgkaa
open Go.RowKit

set_option maxHeartbeats 4000000 in
set_option maxRecDepth 100000 in
theorem lawDepth_calls (A : Option Addr) (c : Nat) (l : List Ac) (w : World) (ha : Acts w A l) :
    Calls Try.prog 7 #[.slice A l.length c] w fun e w' => e = .returned (.bool true) ∧ Ext w w' := by
  have hlow := ha.low
  go_enter Try.func7, Try.ntmps7
  go_wp2_with fail
  refine (St.awake_calls _).mono ?_
  rintro e w1 ⟨rfl, hx⟩
  replace ha := ha.ext hx
  by_cases hl : 60 < l.length
  · go_wp2_with fail
    refine (St.awake_calls _).mono ?_
    rintro e w2 ⟨rfl, hx2⟩
    go_wp2
    go_ret
    exact ⟨rfl, hx.trans hx2⟩
  · have hB : Both w1 w1.heap.size none (.slice none 0 0) (w1.alloc (.cells #[.pointer none] 27)) :=
      ⟨none, heap_alloc_new w1 _, Nat.le_refl _, rfl, ⟨none, 0, rfl, fun k hk => by simp [Nd.oL] at hk⟩, (Ext.refl _).alloc _⟩
    go_wp2
    generalize hM : w1.heap.size = M at *
    generalize w1.alloc (.cells #[.pointer none] 27) = wi at *
    clear hM
    go_loopw [4, 18] (fun v i wr => ∃ n : Nat, n ≤ l.length ∧ i = .int .i64 n ∧ Both w1 M (runO (l.take n)) v wr) (fun _ i _ => l.length - (intOf i).toNat)
    case atStart => exact ⟨0, Nat.zero_le _, rfl, hB⟩
    case round =>
      obtain ⟨n, hn, rfl, hB'⟩ := hrel
      clear hB
      by_cases hlt : n < l.length
      · obtain ⟨p, hM, hM0, hat, hrd, hx1⟩ := hB'
        obtain ⟨ab, ao, rfl, a0, a1, a2, hk⟩ := ha.ext hx1 n hlt
        have hwf := runO_wf (low_take hlow n)
        have hln := runO_len (low_take hlow n)
        have hlen : (l.take n).length ≤ n := List.length_take_le _ _
        have hst := runO_take hlt
        generalize l[n] = a at *
        generalize runO (l.take n) = t at *
        obtain ⟨A2, c2, rfl, hrow⟩ := hrd
        have m0 : wr.cell? ⟨M, 0, none⟩ = some (.pointer p) := by rw [cell_of_row _ _ 0 _ _ _ hM]; rfl
        have hMl := (Array.getElem?_eq_some_iff.1 hM).1
        have HS := Lib.hid hst
        clear hst
        go_upto_region 8 with (fail)
        have hxb : Ext wr (wr.alloc (.cells #[.int .i64 a.kind, .int .u64 (a.k : Int), .int .i64 a.v] 30)) := (Ext.refl _).alloc _
        have hab := heap_alloc_new wr (.cells #[.int .i64 a.kind, .int .u64 (a.k : Int), .int .i64 a.v] 30)
        generalize wr.heap.size = ah at *
        generalize wr.alloc (.cells #[.int .i64 a.kind, .int .u64 (a.k : Int), .int .i64 a.v] 30) = wb at *
        go_cut [4] from 22 to 27 (fun v wx => Both w1 M (doO t a) v wx)
        case first =>
          have hdr := hxb.trans (show Ext wb wb.drew from (Ext.refl _).drew)
          have HM := hdr.block hM
          have AT := hat.ext hdr
          have RD := hrow.ext hdr
          have HX := hx1.trans hdr
          have b0 : wb.drew.cell? ⟨ah, 0, none⟩ = some (.int .i64 a.kind) := by rw [cell_of_row wb.drew ah 0 _ _ _ hab]; rfl
          have b1 : wb.drew.cell? ⟨ah, 1, none⟩ = some (.int .u64 (a.k : Int)) := by rw [cell_of_row wb.drew ah 1 _ _ _ hab]; rfl
          have b2 : wb.drew.cell? ⟨ah, 2, none⟩ = some (.int .i64 a.v) := by rw [cell_of_row wb.drew ah 2 _ _ _ hab]; rfl
          have m1 := (cell_ptr HM).1
          have m2 := (cell_ptr HM).2
          clear hM hat hrow hx1 hab hdr hxb a0 a1 a2 m0 ha
          go_region_with (first
            | (go_at_call 11
               refine (do_lit p t a _ ⟨AT, hwf, by omega⟩ hk).mono ?_
               rintro e wn ⟨q, rfl, HD, hx⟩
               replace RD := RD.ext hx
               replace HX := HX.trans hx
               replace HM := hx.block HM
               replace b0 := hx.cell b0
               replace b1 := hx.cell b1
               replace b2 := hx.cell b2
               clear hx AT m1 m2)
            | (go_at_call 12
               refine (want_lit A2 c2 _ a _ RD (by omega)).mono ?_
               rintro e wn ⟨v, rfl, HW, hx⟩
               replace HD := HD.ext hx
               replace HX := HX.trans hx
               replace HM := hx.block HM
               replace b0 := hx.cell b0
               replace b1 := hx.cell b1
               replace b2 := hx.cell b2
               have m1 := (cell_ptr HM).1
               have m2 := (cell_ptr HM).2
               clear hx RD))
          all_goals
            go_wp2_with fail
            go_meet
            exact both_set HM hM0 HD (by rw [(doO_ok hk hwf).2]; exact HW) HX
        case rest =>
          obtain ⟨p2, hM2, _, hat2, hrd2, hx2⟩ := hcut
          clear hM hat hrow hx1 hab hxb a0 a1 a2 m0
          have hwf2 : Nd.oWF (doO t a) := (doO_ok hk hwf).1
          have hlow2 : ∀ e ∈ Nd.oL (doO t a), e.k < 2 ^ 64 := by
            cases hd : doO t a with
            | none => intro e he; simp [Nd.oL] at he
            | some t' => rw [hd] at hwf2; exact Nd.low hwf2
          have hlen2 : (Nd.oL (doO t a)).length ≤ n + 1 := by
            rw [(doO_ok hk hwf).2]; have := wantL_length (Nd.oL t) a; omega
          have hdep := depth_ok hwf2
          have h64 : depthO (doO t a) ≤ 64 ∧ (depthO (doO t a) < max (Nd.oL (doO t a)).length 1) := by
            cases hd : doO t a with
            | none => simp only [depthO, Nd.oL, List.length_nil]; omega
            | some t' =>
              rw [hd] at hwf2
              refine ⟨depth_64 hwf2, ?_⟩
              have h1 := t'.depth_lt
              rw [Nd.many_eq] at h1
              show t'.depth < max t'.toL.length 1
              omega
          obtain ⟨A3, c3, rfl, hrow2⟩ := hrd2
          generalize doO t a = t2 at *
          have m1 := (cell_ptr hM2).1
          go_wp2_with fail
          refine (mdepth_calls p2 t2 _ hat2).mono ?_
          rintro e w3 ⟨rfl, hx3⟩
          replace hM2 := hx3.block hM2
          replace hrow2 := hrow2.ext hx3
          replace hat2 := hat2.ext hx3
          replace hx2 := hx2.trans hx3
          clear hx3 m1
          go_wp2_with fail
          refine (depth_ref A3 c3 _ _ hrow2 (by omega) hlow2).mono ?_
          rintro e w4 ⟨rfl, hx3⟩
          replace hM2 := hx3.block hM2
          replace hrow2 := hrow2.ext hx3
          replace hat2 := hat2.ext hx3
          replace hx2 := hx2.trans hx3
          rw [hdep]
          have m1 := (cell_ptr hM2).1
          clear hx3
          have g1 : ¬ (64 < (depthO t2 : Int)) := by omega
          have g2 : ¬ (max ((Nd.oL t2).length : Int) 1 ≤ (depthO t2 : Int)) := by omega
          have HG := Lib.hid h64
          clear h64 hdep hlow2
          go_wp2_with fail
          refine (mlen_calls p2 t2 _ hat2).mono ?_
          rintro e w5 ⟨rfl, hx3⟩
          replace hM2 := hx3.block hM2
          replace hrow2 := hrow2.ext hx3
          replace hat2 := hat2.ext hx3
          replace hx2 := hx2.trans hx3
          clear hx3 m1
          go_wp2
          go_roundw
          case rel => exact ⟨n + 1, by omega, by go_num, by rw [HS.out]; exact ⟨p2, hM2, hM0, hat2, ⟨A3, c3, rfl, hrow2⟩, hx2⟩⟩
          case measure => simp [intOf] <;> omega
      · obtain rfl : n = l.length := by omega
        obtain ⟨p, hM, hM0, hat, hrd, hx1⟩ := hB'
        go_wp2
        go_ret
        exact ⟨rfl, hx.trans hx1⟩
end Go.Proofs.Ytcdjhoejnjbgkaa
