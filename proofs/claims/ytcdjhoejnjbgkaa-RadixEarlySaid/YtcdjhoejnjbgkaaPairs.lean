/- The contract of the law's pairs: all of a map. -/
import Derived.Test.YtcdjhoejnjbgkaaWalkB
import Derived.RangeFuncBox
import Derived.Maps.AppendAt
namespace Go.Proofs.Ytcdjhoejnjbgkaa
open Go.RowKit
attribute [local go_sem] Oper.semAt_some

def flatP (l : List Pr) : List Value := l.flatMap fun r => [.int .u64 (r.k : Int), .int .i64 r.v]
theorem flatP_append (a b : List Pr) : flatP (a ++ b) = flatP a ++ flatP b := by simp [flatP]
theorem flatP_one (r : Pr) : flatP [r] = [.int .u64 (r.k : Int), .int .i64 r.v] := rfl
theorem info37 : (Try.prog.info? 37).map (fun i => (i.zero, i.size, i.bytes)) = some (some (.agg #[.int .u64 0, .int .i64 0]), 2, 16) := by kernel_rfl

/-- A list of pairs of the call's own. -/
def ListPost (w : World) (l : List Pr) (e : Ending) (w' : World) : Prop := ∃ v, e = .returned v ∧ w'.ownsRow w.heap.size 37 2 v l.length (flatP l) ∧ Ext w w'

theorem news2 (W : World) (a b : Value) (t : TypeId) : ∀ j u, [a, b][j]? = some u → (W.alloc (.cells #[a, b] t)).cell? ((⟨W.heap.size, 0, none⟩ : Addr).add j) = some u := by
  exact World.news_of_block (heap_alloc_new W _)

set_option maxRecDepth 100000 in
set_option maxHeartbeats 2000000 in
theorem pairs_calls (p : Option Addr) (t : Option Nd) (w : World) (hp : AtO w p t) (hwf : Nd.oWF t) (hl : (fromO 0 t).length ≤ 200) :
    Calls Try.prog 14 #[.agg #[.pointer p]] w (ListPost w (fromO 0 t)) := by
  obtain ⟨i0, hi, hz0, hz1, hz2⟩ := info_parts info37
  have hnf : ∀ (f : FuncId) (a b : Array Value) (w : World), (binOp .eql 43 (.func (.func f) a b) .nilFunc).run Try.prog w = .ok (.bool false) w := fun _ _ _ _ => by kernel_rfl
  refine (callsIn_wide (n := 5)).1 ?_
  refine callsIn_of_wp_marks Try.func14 rfl trivial ?_ rfl
  simp only [Try.ntmps14, List.size_toArray, List.length_cons, List.length_nil, Nat.reduceAdd, Nat.reduceSub, Array.replicate_succ, Array.replicate_zero, List.push_toArray, List.append_toArray, List.nil_append, List.cons_append]
  gi_wp2_with (refine ⟨trivial, ?_⟩; gi_at_call 24; refine (callsIn_wide.2 (all_calls p _)).mono ?_; rintro e w1 ⟨v, rfl, ⟨bm, bk, rfl, h1, h2⟩, hx1⟩)
  have bO := (show Boxed _ _ _ _ from hx1.block (Boxed.new (w.alloc (.cells #[.pointer p] 27)) 28 (.slice none 0 0)))
  rw [World.size_alloc] at bO
  have hx0 : Ext w ((w.alloc (.cells #[.pointer p] 27)).alloc (.cells #[.slice none 0 0] 28)) := ((Ext.refl w).alloc _).alloc _
  have hB0 : Below w.heap.size w w1 := hx0.trans hx1
  have hs1 := hx1.size
  simp only [World.size_alloc] at hs1
  refine wpIn_rangeFunc_ownF rfl (by omega) (gf := 34) (lb := #[.pointer (some ⟨bm, 0, none⟩), .pointer (some ⟨bk, 0, none⟩)]) rfl trivial (enters_of Try.func34 (by kernel_rfl) rfl)
    (from_stops 0 w t p hp hwf bm bk _ w1 hB0 h1 h2) belowK_t (belowK_b (by omega)) (Below.refl _ _) (fun _ => rfl)
    (fun pre W => (∃ v, Boxed W (w.heap.size + 1) 28 v ∧ W.ownsRow w.heap.size 37 2 v pre.length (flatP pre) ∧ True) ∧ Below w.heap.size w W)
    (fun _ _ _ => False)
    (OwnFrom.and (Own.from (holdsRow_own w.heap.size (w.heap.size + 1) 28 37 2 (fun pre : List Pr => pre.length) (fun pre => flatP pre) (fun _ _ => True)) _) (ownFrom_below (Nat.le_refl _) (by omega)))
    (fun _ _ _ _ _ hs _ _ => hs)
    ⟨⟨_, bO, World.ownsRow_nil _ _ _ _, trivial⟩, hB0⟩
    (fun x => { tmps := #[.agg #[.pointer p], .pointer (some ⟨w.heap.size, 0, none⟩), .slice none 0 0, .pointer (some ⟨w.heap.size + 1, 0, none⟩), .func (.func 34) #[] #[.pointer (some ⟨bm, 0, none⟩), .pointer (some ⟨bk, 0, none⟩)], .int .u64 (x.k : Int), .int .i64 x.v, .agg #[.pointer p], .func (.func 34) #[] #[.pointer (some ⟨bm, 0, none⟩), .pointer (some ⟨bk, 0, none⟩)], .func (.func 34) #[] #[.pointer (some ⟨bm, 0, none⟩), .pointer (some ⟨bk, 0, none⟩)], .bool false, undef, .func (.func 34) #[] #[.pointer (some ⟨bm, 0, none⟩), .pointer (some ⟨bk, 0, none⟩)], .int .u64 (x.k : Int), .int .i64 x.v, undef, undef, undef, undef, undef, undef, undef, undef, undef, undef], defers := [] }) ?assign ?body ?done ?stop
  case assign =>
    intro l x W K hK
    gi_wp2
    exact hK
  case body =>
    rintro l pre x W ⟨⟨v, hv, hrow, _⟩, hB⟩ hlt
    have hc := hv.cell
    clear hs1 bO hx1 hx0 hB0 h1 h2 hp hwf
    gi_wp2_with (gi_at_builtin; refine wpListIn_append_own _ rfl _ _ 28 rfl w.heap.size 37 i0 (.agg #[.int .u64 0, .int .i64 0]) 2 16 Try.underlying28 hi hz0 hz1 hz2 rfl (by decide) _ _ _ rfl (hrow.alloc _) ⟨W.heap.size, 0, none⟩ 1 1 [.int .u64 (x.k : Int), .int .i64 x.v] rfl rfl (news2 _ _ _ _) (by simp [Value.oneCell']) (by unfold maxLen; omega) (by omega) (by have := hB.size; simp; omega) ?_; intro v' w1 hown' hgrow _; obtain ⟨g', cap', rfl⟩ := ownsRow_succ hown'; obtain ⟨hv1, hv2, hr2, hk2, hb2⟩ := hv.appended (by decide) hrow hB.size (by omega) hown' hgrow; have hc1 := hv1.cell; have hf1 := hv1.frozen)
    exact ⟨hk2, hb2, ⟨_, hv2, by simpa [flatP_append, flatP_one] using hr2, trivial⟩, hB.trans hb2⟩
  case done =>
    rintro D ys W hD rfl ⟨⟨v, hv, hrow, _⟩, hB⟩ hK
    have hc := hv.cell
    clear bO hx1 hx0 hB0 h1 h2 hp hwf
    gi_wp2
    refine ⟨by simp, .inl ⟨_, _, rfl, run_takeDeferred hK, ?_⟩⟩
    exact ⟨_, results_tmp rfl _ _ _, v, rfl, ownsRow_putObj hrow _ hK rfl, hB.trans (belowK_b (w := w) (Nat.le_refl _) W D _ _ (by omega) hK rfl rfl)⟩
  case stop =>
    rintro D c pre W _ _ h _
    exact h.elim
end Go.Proofs.Ytcdjhoejnjbgkaa
