/- The contract of the index's Since. -/
import Derived.Test.YtgcplndmhlideaaGreatIxn
import Derived.Test.YtgcplndmhlideaaGreatIforg
import Derived.RangeFuncBox
import Derived.Maps.AppendAt
namespace Go.Proofs.YtgcplndmhlideaaGreat
open Go.RowKit
attribute [local go_sem] Oper.semAt_some

def flatN (l : List (Pr Nm)) : List Value := l.flatMap fun r => [.int .i64 r.v.v, .int .i64 r.v.n]
theorem flatN_append (a b : List (Pr Nm)) : flatN (a ++ b) = flatN a ++ flatN b := by simp [flatN]
theorem flatN_one (r : Pr Nm) : flatN [r] = [.int .i64 r.v.v, .int .i64 r.v.n] := rfl
theorem infoNm : (Tryz.prog.info? 49).map (fun i => (i.zero, i.size, i.bytes)) = some (some (.agg #[.int .i64 0, .int .i64 0]), 2, 16) := by kernel_rfl
theorem news2 (W : World) (a b : Value) (t : TypeId) : ∀ j u, [a, b][j]? = some u → (W.alloc (.cells #[a, b] t)).cell? ((⟨W.heap.size, 0, none⟩ : Addr).add j) = some u := by
  exact World.news_of_block (heap_alloc_new W _)
/-- What came behind a count. -/
def sinceK (k : Int) : Nat := k.toNat + 1
def sinceOf (x : Ix) (k : Int) : List (Pr Nm) := (cntOf x.L).filter fun e => decide (sinceK k ≤ e.k)
theorem fromN {t : Option (Nd Nm)} (h : Nd.oWF t) (k : Nat) : Nm.fromO k t = (Nd.oL t).filter fun e => decide (k ≤ e.k) := by
  cases t with
  | none => rfl
  | some t =>
    show t.from k = _
    rw [from_ok h]
    rfl
def SincePost (w : World) (l : List (Pr Nm)) (e : Ending) (w' : World) : Prop := ∃ v, e = .returned v ∧ w'.ownsRow w.heap.size 49 2 v l.length (flatN l) ∧ Ext w w'

set_option maxRecDepth 100000 in
theorem since_nil (k : Int) (w : World) : Calls Tryz.prog 17 #[.pointer none, .int .i64 k] w (SincePost w []) := by
  go_enter Tryz.func17, Tryz.ntmps17
  go_wp2
  go_ret
  exact ⟨_, rfl, World.ownsRow_nil _ _ _ _, Ext.refl w⟩
theorem since_key (k : Int) (hk : I64 k) : ∃ m, IntKind.u64.wrap m = m ∧ IntKind.u64.wrap (m + 1) = (sinceK k : Int) ∧ sinceK k < 2 ^ 64 ∧ m = max k 0 := by
  refine ⟨max k 0, IntWalk.u64_in _ (by unfold I64 at hk; omega), ?_, ?_, rfl⟩
  · rw [IntWalk.u64_in _ (by unfold I64 at hk; omega)]
    unfold sinceK; omega
  · unfold sinceK; unfold I64 at hk; omega

set_option maxRecDepth 100000 in
set_option maxHeartbeats 2000000 in
theorem xsince_calls (xb : Nat) (u : Int) (x : Ix) (k : Int) (w : World) (h : IxAt w xb u x) (hf : Fit u x) (hk : I64 k) :
    Calls Tryz.prog 17 #[.pointer (some ⟨xb, 0, none⟩), .int .i64 k] w (SincePost w (sinceOf x k)) := by
  obtain ⟨i0, hi, hz0, hz1, hz2⟩ := info_parts infoNm
  obtain ⟨p, q, lv, hb, -, ⟨t, hp, hwf, hol⟩, -⟩ := h
  obtain ⟨m, hm1, hm2, hm3, hm4⟩ := since_key k hk
  have hlen : (cntOf x.L).length ≤ 1000 := by have := hf.len; simp [cntOf]; omega
  have hfrom : Nm.fromO (sinceK k) t = sinceOf x k := by rw [fromN hwf, hol]; rfl
  have hfl : (sinceOf x k).length ≤ 1000 := Nat.le_trans (List.length_filter_le _ _) hlen
  have HF := Lib.hid (And.intro hfrom hfl)
  generalize sinceOf x k = S at *
  generalize sinceK k = K at *
  have q0 := cell_blk hb 2 rfl
  have HB := Lib.hid hb
  have HP := Lib.hid hp
  have hxs : xb < w.heap.size := (Array.getElem?_eq_some_iff.1 hb).1
  clear hb hlen hfrom hfl hol hp hf hm3
  refine (callsIn_wide (n := 5)).1 ?_
  refine callsIn_of_wp_marks Tryz.func17 rfl trivial ?_ rfl
  simp only [Tryz.ntmps17, List.size_toArray, List.length_cons, List.length_nil, Nat.reduceAdd, Nat.reduceSub, Array.replicate_succ, Array.replicate_zero, List.push_toArray, List.append_toArray, List.nil_append, List.cons_append]
  refine wpIn_wide.2 ?_
  have q1 : (w.alloc (.cells #[.slice none 0 0] 50)).cell? ⟨xb, 2, none⟩ = some (.pointer q) := ((Ext.refl w).alloc _).cell q0
  subst hm4
  have HFF : Hid (∀ W, Calls Tryz.prog 39 #[.agg #[.pointer q], .int .u64 K] W (Nm.FromPost W q K)) := Lib.hid fun W => Nm.from_calls q K W
  clear hk
  go_upto_region 4 with (fail)
  go_wp2_with fail
  refine (HFF.out _).mono ?_
  rintro e w1 ⟨_, rfl, ⟨bm, bk, rfl, hbm, hbk⟩, hx1⟩
  have bO := (show Boxed _ _ _ _ from hx1.block (Boxed.new w 50 (.slice none 0 0)))
  have hx0 : Ext w (w.alloc (.cells #[.slice none 0 0] 50)) := (Ext.refl w).alloc _
  have hB0 : Below w.heap.size w w1 := hx0.trans hx1
  have hs1 := hx1.size
  simp only [World.size_alloc] at hs1
  have HP1 := Lib.hid (HP.out)
  generalize hM : max k 0 = M at *
  clear HFF
  go_wp2_with fail
  refine (wpIn_wide (n := 5)).1 ?_
  refine wpIn_rangeFunc_ownH rfl (by omega) (gf := 58) (lb := #[.pointer (some ⟨bm, 0, none⟩), .pointer (some ⟨bk, 0, none⟩)]) rfl trivial (enters_of Tryz.func58 (by kernel_rfl) rfl)
    (Nm.from_stops K w t q HP.out hwf bm bk _ w1 hB0 hbm hbk) belowK_t (belowK_b (by omega)) (Below.refl _ _) (fun _ => rfl)
    (fun pre W => (∃ v, Boxed W w.heap.size 50 v ∧ W.ownsRow w.heap.size 49 2 v pre.length (flatN pre) ∧ True) ∧ Below w.heap.size w W)
    (fun _ _ _ => False)
    (OwnFrom.and (Own.from (holdsRow_own w.heap.size w.heap.size 50 49 2 (fun pre : List (Pr Nm) => pre.length) (fun pre => flatN pre) (fun _ _ => True)) _) (ownFrom_below (Nat.le_refl _) (by omega)))
    (fun _ _ _ _ _ hs _ _ => hs)
    ⟨⟨_, bO, World.ownsRow_nil _ _ _ _, trivial⟩, hB0⟩
    (fun x a' W => ∃ Bx, W.heap[Bx]? = some (.cells #[.int .i64 x.v.v, .int .i64 x.v.n] 49 (0, 0)) ∧ a' = { tmps := #[.pointer (some ⟨xb, 0, none⟩), .int .i64 k, undef, undef, .slice none 0 0, .pointer (some ⟨w.heap.size, 0, none⟩), undef, .pointer (some ⟨Bx, 0, none⟩), .pointer (some ⟨xb, 0, none⟩), .bool false, .pointer (some ⟨xb, 0, none⟩), .pointer (some ⟨xb, 0, none⟩), .pointer (some ⟨xb, 2, none⟩), .agg #[.pointer q], .int .i64 k, .int .i64 M, .int .u64 M, .int .u64 K, .func (.func 58) #[] #[.pointer (some ⟨bm, 0, none⟩), .pointer (some ⟨bk, 0, none⟩)], .int .u64 (x.k : Int), .agg #[.int .i64 x.v.v, .int .i64 x.v.n], undef, undef, undef, undef, undef], defers := [] })
    (fun x a' _ X Y row hs hg hr => by
      obtain ⟨Bx, h2, h3⟩ := hs
      exact ⟨Bx, (hg.block Bx (Array.getElem?_eq_some_iff.1 h2).1 (fun e => by obtain ⟨_, o, ho, hc⟩ := hr Bx e.symm; rw [h2] at ho; cases ho; cases hc)).trans h2, h3⟩)
    ?assign ?body ?done ?stop
  case assign =>
    rintro l pre x W K' ⟨⟨v, hv, hrow, _⟩, hB⟩ hK
    gi_wp2
    exact hK _ _ ((KeepsOthers.alloc _ _).from _) (((Below.refl _ W).alloc (Nat.le_refl _) _).mono hB.size) ⟨⟨v, ((Ext.refl W).alloc _).block hv, ownsRow_ext hrow ((Ext.refl W).alloc _), trivial⟩, hB.trans (((Below.refl _ W).alloc (Nat.le_refl _) _).mono hB.size)⟩ ⟨W.heap.size, heap_alloc_new W _, rfl⟩
  case body =>
    rintro l pre x a' W hl _ ⟨⟨v, hv, hrow, _⟩, hB⟩ ⟨Bx, hbx, rfl⟩ hlt
    have hc := hv.cell
    have y0 := cell_blk hbx 0 rfl
    have y1 := cell_blk hbx 1 rfl
    have hlt2 : pre.length < 1000 := by have := HF.out; rw [this.1] at hlt; omega
    clear hs1 bO hx1 hx0 hB0 hbm hbk hwf hM q0 q1 hm1 hm2 hlt
    gi_wp2_with (gi_at_builtin; refine wpListIn_append_own _ rfl _ _ 50 rfl w.heap.size 49 i0 (.agg #[.int .i64 0, .int .i64 0]) 2 16 Tryz.underlying50 hi hz0 hz1 hz2 rfl (by decide) _ _ _ rfl (hrow.alloc _) ⟨W.heap.size, 0, none⟩ 1 1 [.int .i64 x.v.v, .int .i64 x.v.n] rfl rfl (news2 _ _ _ _) (by simp [Value.oneCell']) (by unfold maxLen; omega) (by omega) (by have := hB.size; simp; omega) ?_; intro v' w1 hown' hgrow _; obtain ⟨g', cap', rfl⟩ := ownsRow_succ hown'; obtain ⟨hv1, hv2, hr2, hk2, hb2⟩ := hv.appended (by decide) hrow hB.size (by omega) hown' hgrow; have hc1 := hv1.cell; have hf1 := hv1.frozen)
    exact ⟨hk2.from _, hb2, ⟨_, hv2, by simpa [flatN_append, flatN_one] using hr2, trivial⟩, hB.trans hb2⟩
  case done =>
    rintro D ys W hD rfl ⟨⟨v, hv, hrow, _⟩, hB⟩ hK
    have hc := hv.cell
    rw [HF.out.1] at *
    clear bO hx1 hx0 hB0 hbm hbk hwf hM q0 q1 hm1 hm2
    go_wp2
    refine ⟨by simp, .inl ⟨_, _, rfl, run_takeDeferred hK, ?_⟩⟩
    exact ⟨_, results_tmp rfl _ _ _, v, rfl, ownsRow_putObj hrow _ hK rfl, hB.trans (belowK_b (w := w) (Nat.le_refl _) W D _ _ (by omega) hK rfl rfl)⟩
  case stop =>
    rintro D c pre W _ _ h _
    exact h.elim
end Go.Proofs.YtgcplndmhlideaaGreat
