/- RadixOrder: the walk. -/
import Derived.Test.YtcdjhoejnjbgkaaLawNext
import Derived.Deep.RegionHeld3
namespace Go.Proofs.Ytcdjhoejnjbgkaa
open Go.RowKit
attribute [local go_sem] Oper.semAt_some

theorem noPanic_intro {Q : Exit → Act → World → Prop} {a : Act} {w : World} (h : Q .normal a w) : NoPanic Q .normal a w := h

set_option maxHeartbeats 4000000 in
set_option maxRecDepth 100000 in
theorem lawOrder_calls (A : Option Addr) (c : Nat) (l : List Ac) (k : Nat) (w : World) (ha : Acts w A l) :
    Calls Try.prog 4 #[.slice A l.length c, .int .u64 k] w fun e w' => e = .returned (.bool true) ∧ Ext w w' := by
  have hlow := ha.low
  obtain ⟨i0, hi, hz0, hz1, hz2⟩ := info_parts info37
  have hnf : ∀ (f : FuncId) (a b : Array Value) (w : World), (binOp .eql 43 (.func (.func f) a b) .nilFunc).run Try.prog w = .ok (.bool false) w := fun _ _ _ _ => by kernel_rfl
  refine (callsIn_wide (n := 5)).1 ?_
  refine callsIn_of_wp_marks Try.func4 rfl trivial ?_ rfl
  simp only [Try.ntmps4, List.size_toArray, List.length_cons, List.length_nil, Nat.reduceAdd, Nat.reduceSub, Array.replicate_succ, Array.replicate_zero, List.push_toArray, List.append_toArray, List.nil_append, List.cons_append]
  refine wpIn_wide.2 ?_
  go_wp2_with fail
  refine (St.awake_calls _).mono ?_
  rintro e w1 ⟨rfl, hx⟩
  replace ha := ha.ext hx
  by_cases hl : 60 < l.length
  · go_wp2_with fail
    refine (St.awake_calls _).mono ?_
    rintro e w2 ⟨rfl, hx2⟩
    go_wp2
    exact ⟨_, results_tmp rfl _ _ _, rfl, hx.trans hx2⟩
  · have hB : Both w1 w1.heap.size none (.slice none 0 0) (w1.alloc (.cells #[.pointer none] 27)) :=
      ⟨none, heap_alloc_new w1 _, Nat.le_refl _, rfl, ⟨none, 0, rfl, fun k hk => by simp [Nd.oL] at hk⟩, (Ext.refl _).alloc _⟩
    go_wp2
    generalize hM : w1.heap.size = M at *
    generalize w1.alloc (.cells #[.pointer none] 27) = wi at *
    clear hM
    go_loopw [6, 23] (fun v i wr => ∃ n : Nat, n ≤ l.length ∧ i = .int .i64 n ∧ Both w1 M (runO (l.take n)) v wr) (fun _ i _ => l.length - (intOf i).toNat)
    case atStart => exact ⟨0, Nat.zero_le _, rfl, hB⟩
    case round =>
      clear hB
      obtain ⟨n, hn, rfl, hB'⟩ := hrel
      by_cases hlt : n < l.length
      · obtain ⟨p, hM, hM0, hat, hrd, hx1⟩ := hB'
        obtain ⟨ab, ao, rfl, a0, a1, a2, hk⟩ := ha.ext hx1 n hlt
        have hwf := runO_wf (low_take hlow n)
        have hln := runO_len (low_take hlow n)
        have hlen : (l.take n).length ≤ n := List.length_take_le _ _
        have hst := runO_take hlt
        generalize l[n] = a at *
        generalize runO (l.take n) = t at *
        obtain ⟨A2, c2, rfl, hrow⟩ := hrd
        have m0 : wr.cell? ⟨M, 0, none⟩ = some (.pointer p) := by rw [cell_of_row _ _ 0 _ _ _ hM]; rfl
        have hMl := (Array.getElem?_eq_some_iff.1 hM).1
        have HS := Lib.hid hst
        clear hst
        go_upto_region 8 with (fail)
        have hxb : Ext wr (wr.alloc (.cells #[.int .i64 a.kind, .int .u64 (a.k : Int), .int .i64 a.v] 30)) := (Ext.refl _).alloc _
        have hab := heap_alloc_new wr (.cells #[.int .i64 a.kind, .int .u64 (a.k : Int), .int .i64 a.v] 30)
        generalize wr.heap.size = ah at *
        generalize wr.alloc (.cells #[.int .i64 a.kind, .int .u64 (a.k : Int), .int .i64 a.v] 30) = wb at *
        have hdr := hxb.trans (show Ext wb wb.drew from (Ext.refl _).drew)
        have HM := hdr.block hM
        have AT := hat.ext hdr
        have RD := hrow.ext hdr
        have HX := hx1.trans hdr
        have b0 : wb.drew.cell? ⟨ah, 0, none⟩ = some (.int .i64 a.kind) := by rw [cell_of_row wb.drew ah 0 _ _ _ hab]; rfl
        have b1 : wb.drew.cell? ⟨ah, 1, none⟩ = some (.int .u64 (a.k : Int)) := by rw [cell_of_row wb.drew ah 1 _ _ _ hab]; rfl
        have b2 : wb.drew.cell? ⟨ah, 2, none⟩ = some (.int .i64 a.v) := by rw [cell_of_row wb.drew ah 2 _ _ _ hab]; rfl
        have m1 := (cell_ptr HM).1
        have m2 := (cell_ptr HM).2
        clear hM hat hrow hx1 hab hdr hxb a0 a1 a2 m0 ha
        refine wp_region_noPanic ?_
        go_region_with (first
          | (go_at_call 11
             refine (do_lit p t a _ ⟨AT, hwf, by omega⟩ hk).mono ?_
             rintro e wn ⟨q, rfl, HD, hx⟩
             replace RD := RD.ext hx
             replace HX := HX.trans hx
             replace HM := hx.block HM
             replace b0 := hx.cell b0
             replace b1 := hx.cell b1
             replace b2 := hx.cell b2
             clear hx AT m1 m2)
          | (go_at_call 12
             refine (want_lit A2 c2 _ a _ RD (by omega)).mono ?_
             rintro e wn ⟨v, rfl, HW, hx⟩
             replace HD := HD.ext hx
             replace HX := HX.trans hx
             replace HM := hx.block HM
             replace b0 := hx.cell b0
             replace b1 := hx.cell b1
             replace b2 := hx.cell b2
             have m1 := (cell_ptr HM).1
             have m2 := (cell_ptr HM).2
             clear hx RD))
        all_goals
          refine noPanic_intro ?_
          go_wp2_with fail
          go_roundw
          case rel => exact ⟨n + 1, by omega, by go_num, by rw [HS.out]; exact both_set HM hM0 HD (by rw [(doO_ok hk hwf).2]; exact HW) HX⟩
          case measure => simp [intOf] <;> omega
      · obtain rfl : n = l.length := by omega
        obtain ⟨p, hM, hM0, hat, hrd, hx1⟩ := hB'
        rw [List.take_length] at hat hrd
        have hwf := runO_wf hlow
        have hln := runO_len hlow
        generalize runO l = t at *
        replace hx := hx.trans hx1
        obtain ⟨A2, c2, rfl, hrow⟩ := hrd
        have hup := upO hwf
        have hfe := from_okO (k := k) hwf
        generalize hL : Nd.oL t = L at *
        have HFE := Lib.hid hfe
        have hfl := fromL_length k L
        clear hup hL hx1 hfe
        have m1 := (cell_ptr hM).1
        have hMl := (Array.getElem?_eq_some_iff.1 hM).1
        obtain ⟨w2, rfl⟩ : ∃ w2 : World, w2 = wr := ⟨_, rfl⟩
        go_wp2_with fail
        refine (from_calls p k _).mono ?_
        rintro e w3 ⟨v3, rfl, ⟨bm, bk, rfl, h1, h2⟩, hx3⟩
        have bO := (show Boxed _ _ _ _ from hx3.block (Boxed.new w2 28 (.slice none 0 0)))
        have hx0 : Ext w2 (w2.alloc (.cells #[.slice none 0 0] 28)) := (Ext.refl _).alloc _
        have hB0 : Below w2.heap.size w2 w3 := hx0.trans hx3
        have hs1 := hx3.size
        simp only [World.size_alloc] at hs1
        go_wp2_with fail
        refine (wpIn_wide (n := 5)).1 ?_
        refine wpIn_rangeFunc_ownF rfl (by omega) (gf := 34) (lb := #[.pointer (some ⟨bm, 0, none⟩), .pointer (some ⟨bk, 0, none⟩)]) rfl trivial (enters_of Try.func34 (by kernel_rfl) rfl)
          (from_stops k w2 t p hat hwf bm bk _ w3 hB0 h1 h2) belowK_t (belowK_b (by omega)) (Below.refl _ _) (fun _ => rfl)
          (fun pre W => (∃ v, Boxed W w2.heap.size 28 v ∧ W.ownsRow w2.heap.size 37 2 v pre.length (flatP pre) ∧ True) ∧ Below w2.heap.size w2 W)
          (fun _ _ _ => False)
          (OwnFrom.and (Own.from (holdsRow_own w2.heap.size w2.heap.size 28 37 2 (fun pre : List Pr => pre.length) (fun pre => flatP pre) (fun _ _ => True)) _) (ownFrom_below (Nat.le_refl _) (by omega)))
          (fun _ _ _ _ _ hs _ _ => hs)
          ⟨⟨_, bO, World.ownsRow_nil _ _ _ _, trivial⟩, hB0⟩
          (fun x => { tmps := #[.slice A l.length c, .int .u64 ↑k, undef, undef, .bool false, .pointer (some ⟨M, 0, none⟩), .slice A2 L.length c2, undef, u8, .pointer (some ⟨w2.heap.size, 0, none⟩), .func (.func 34) #[] #[.pointer (some ⟨bm, 0, none⟩), .pointer (some ⟨bk, 0, none⟩)], .int .u64 (x.k : Int), .int .i64 x.v, .bool true, .bool false, .bool false, .slice A l.length c, .int .i64 ↑l.length, .bool (decide ((60 : Int) < (l.length : Int))), .bool (decide ((60 : Int) < (l.length : Int))), undef, .slice A l.length c, .int .i64 ↑l.length, .int .i64 ↑l.length, .bool false, u25, u26, u27, u28, u29, u30, u31, u32, u33, .agg #[.pointer p], .int .u64 ↑k, .func (.func 34) #[] #[.pointer (some ⟨bm, 0, none⟩), .pointer (some ⟨bk, 0, none⟩)], .func (.func 34) #[] #[.pointer (some ⟨bm, 0, none⟩), .pointer (some ⟨bk, 0, none⟩)], .bool false, .func (.func 34) #[] #[.pointer (some ⟨bm, 0, none⟩), .pointer (some ⟨bk, 0, none⟩)], .int .u64 (x.k : Int), .int .i64 x.v, undef, undef, undef, undef, undef, undef, undef, undef, undef, undef, undef, undef, undef, undef], defers := [] }) ?assign ?body ?done ?stop
        case assign =>
          intro l1 x W K hK
          gi_wp2
          exact hK
        case body =>
          rintro l1 pre x W ⟨⟨v, hv, hrow1, _⟩, hB⟩ hlt
          have hc := hv.cell
          have hlt2 : pre.length < L.length := by have := HFE.out; rw [this] at hlt; omega
          clear hs1 bO hx3 hx0 hB0 h1 h2 hlt
          gi_wp2_with (gi_at_builtin; refine wpListIn_append_own _ rfl _ _ 28 rfl w2.heap.size 37 i0 (.agg #[.int .u64 0, .int .i64 0]) 2 16 Try.underlying28 hi hz0 hz1 hz2 rfl (by decide) _ _ _ rfl (hrow1.alloc _) ⟨W.heap.size, 0, none⟩ 1 1 [.int .u64 (x.k : Int), .int .i64 x.v] rfl rfl (news2 _ _ _ _) (by simp [Value.oneCell']) (by unfold maxLen; omega) (by omega) (by have := hB.size; simp; omega) ?_; intro v' w1 hown' hgrow _; obtain ⟨g', cap', rfl⟩ := ownsRow_succ hown'; obtain ⟨hv1, hv2, hr2, hk2, hb2⟩ := hv.appended (by decide) hrow1 hB.size (Nat.le_refl _) hown' hgrow; have hc1 := hv1.cell; have hf1 := hv1.frozen)
          exact ⟨hk2, hb2, ⟨_, hv2, by simpa [flatP_append, flatP_one] using hr2, trivial⟩, hB.trans hb2⟩
        case done =>
          rintro D ys W hD rfl ⟨⟨v, hv, hrow1, _⟩, hB⟩ hK
          rw [HFE.out] at hrow1
          obtain ⟨A5, c5, rfl, _⟩ := own_shape hrow1
          have hr5 := rowP_own hrow1
          have hc := hv.cell
          have hsw := hx.size
          replace hx := hx.trans hB
          replace hrow := hrow.ext hB
          go_wp2_with fail
          have hdr : Ext W W.drew := (Ext.refl _).drew
          have hrD := hrow.ext hdr
          have hr5D := hr5.ext hdr
          have hcD := hdr.cell hc
          have hKD := hdr.block hK
          have hxD := hx.trans hdr
          have hDw : w.heap.size ≤ D := by omega
          clear hc hrow hr5 hv hrow1 hB hdr hx hK h1 h2 hx3 hx0 hB0 bO hat m1 hM
          refine wp_region_noPanic ?_
          go_region_with (first
            | (go_at_call 17
               refine (from_ref A2 c2 L k _ hrD (by omega)).mono ?_
               rintro e wn ⟨v4, rfl, hown4, hx4⟩
               obtain ⟨A4, c4, rfl, _⟩ := own_shape hown4
               have hr4 := rowP_own hown4
               replace hr5D := hr5D.ext hx4
               replace hcD := hx4.cell hcD
               replace hKD := hx4.block hKD
               replace hxD := hxD.trans hx4
               clear hx4 hown4 hrD)
            | (go_at_call 13
               refine (same_calls A5 A4 c5 c4 _ _ _ hr5D hr4 (by omega)).mono ?_
               rintro e wn ⟨rfl, hx4⟩
               replace hKD := hx4.block hKD
               replace hxD := hxD.trans hx4
               clear hx4))
          all_goals
            refine noPanic_intro ?_
            go_wp2
            refine ⟨by simp, .inl ⟨_, _, rfl, run_takeDeferred hKD, ?_⟩⟩
            refine ⟨.bool true, (results_tmp rfl _ _ _).trans (by simp [Act.put]), rfl, ?_⟩
            exact Below.trans hxD (belowK_b (w := w) (n₀ := w.heap.size) (Nat.le_refl _) _ D _ _ hDw hKD rfl rfl)
        case stop =>
          rintro D c pre W _ _ h _
          exact h.elim
end Go.Proofs.Ytcdjhoejnjbgkaa
