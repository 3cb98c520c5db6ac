/- The contract of the law's parts: the first parts of a span, so many at most. -/
import Derived.Test.YtoahjhkfnchdhaaParts
import Derived.Shelf.Abstract
namespace Go.Proofs.Ytoahjhkfnchdhaa
open Go.RowKit
attribute [local go_sem] Oper.semAt_some

def lenV : Value → Nat
  | .slice _ n _ => n
  | _ => 0
def Pt.cells (x : Pt) : List Value := [.int .i64 x.no, .int .i64 x.s.f, .int .i64 x.s.t]
def flatPt (l : List Pt) : List Value := l.flatMap Pt.cells
theorem flatPt_append (a b : List Pt) : flatPt (a ++ b) = flatPt a ++ flatPt b := by simp [flatPt]
theorem flatPt_one (r : Pt) : flatPt [r] = [.int .i64 r.no, .int .i64 r.s.f, .int .i64 r.s.t] := rfl
theorem flatPt_length (l : List Pt) : (flatPt l).length = l.length * 3 := by
  induction l with
  | nil => rfl
  | cons r l ih => simp [flatPt, Pt.cells] at ih ⊢; omega
theorem infoPt : (Try.prog.info? 31).map (fun i => (i.zero, i.size, i.bytes)) = some (some (.agg #[.int .i64 0, .int .i64 0, .int .i64 0]), 3, 24) := by kernel_rfl
/-- A list of parts of the call's own. -/
def PtPost (w : World) (l : List Pt) (e : Ending) (w' : World) : Prop := ∃ v, e = .returned v ∧ w'.ownsRow w.heap.size 31 3 v l.length (flatPt l) ∧ Ext w w'
/-- Behind 'out = append(out, ..)' another block lies as it lay. -/
theorem appended_other {W w1 : World} {n₀ B b : Nat} {t e : TypeId} {size : Nat} {v v' : Value} {k : Nat} {xs : List Value} {tmp : Obj} {cs : Array Value} {fr : Nat × Nat} (hb : W.heap[b]? = some (.cells cs t fr)) (hte : t ≠ e) (hne : b ≠ B)
    (hrow : W.ownsRow n₀ e size v k xs) (hgrow : (W.alloc tmp).grownBy w1 v.ownBlock) : (w1.setCell ⟨B, 0, none⟩ v').heap[b]? = some (.cells cs t fr) := by
  have hlt := (Array.getElem?_eq_some_iff.1 hb).1
  have h1 : (W.alloc tmp).heap[b]? = some (.cells cs t fr) := (Below.heap_alloc _ _ _ hlt).trans hb
  refine (Below.heap_setCell _ _ _ b hne).trans ((hgrow.block b (by simp; omega) (fun e1 => ?_)).trans h1)
  rcases hrow.2 with ⟨rfl, _⟩ | ⟨g, cap, cur, rfl, _, hgb, _⟩
  · simp [Value.ownBlock] at e1
  · obtain rfl : b = g := by simpa [Value.ownBlock] using e1
    rw [hb] at hgb
    cases hgb
    exact hte rfl
/-- What the loop's function reads lies there. -/
def Blk (w : World) (f t u : Int) (W : World) : Prop := W.heap[w.heap.size + 1 + 1 + 1]? = some (.cells #[.int .i64 f, .int .i64 t] 24 (0, 0)) ∧ W.heap[w.heap.size + 1 + 1 + 1 + 1]? = some (.cells #[.int .i64 u] 2 (0, 0))
theorem boxed_block {A B : World} {row : Option Nat} {b n : Nat} {cs : Array Value} {t : TypeId} (h : A.heap[b]? = some (.cells cs t (0, 0))) (hg : A.grownBy B row) (hr : ∀ r, row = some r → n ≤ r ∧ ∃ o : Obj, A.heap[r]? = some o ∧ o.isCells = false) : B.heap[b]? = some (.cells cs t (0, 0)) :=
  (hg.block b (Array.getElem?_eq_some_iff.1 h).1 (fun e => by obtain ⟨_, o, ho, hc⟩ := hr b e.symm; rw [h] at ho; cases ho; cases hc)).trans h
/-- The first parts, so many. -/
def firstPts (f t u m : Int) : List Pt := (partsL f t u).take m.toNat

set_option maxRecDepth 100000 in
set_option maxHeartbeats 2000000 in
theorem partsl_calls (f t u m : Int) (hm : m ≤ 40) (w : World) :
    Calls Try.prog 18 #[.agg #[.int .i64 f, .int .i64 t], .int .i64 u, .int .i64 m] w (PtPost w (firstPts f t u m)) := by
  obtain ⟨i0, hi, hz0, hz1, hz2⟩ := info_parts infoPt
  have hnf : ∀ (f : FuncId) (a b : Array Value) (w : World), (binOp .eql 64 (.func (.func f) a b) .nilFunc).run Try.prog w = .ok (.bool false) w := fun _ _ _ _ => by kernel_rfl
  refine (callsIn_wide (n := 5)).1 ?_
  refine callsIn_of_wp_marks Try.func18 rfl trivial ?_ rfl
  simp only [Try.ntmps18, List.size_toArray, List.length_cons, List.length_nil, Nat.reduceAdd, Nat.reduceSub, Array.replicate_succ, Array.replicate_zero, List.push_toArray, List.append_toArray, List.nil_append, List.cons_append]
  by_cases hm1 : m < 1
  · have e : firstPts f t u m = [] := by unfold firstPts; rw [show m.toNat = 0 by omega]; rfl
    rw [e]
    refine wpIn_wide.2 ?_
    go_wp2_with (go_at_call 39; refine (parts_calls f t u _).mono ?_; rintro e w1 ⟨rfl, rfl⟩)
    exact ⟨_, results_tmp rfl _ _ _, _, rfl, World.ownsRow_nil _ _ _ _, (((((Ext.refl w).alloc _).alloc _).alloc _).alloc _).alloc _⟩
  refine wpIn_wide.2 ?_
  go_wp2_with (go_at_call 39; refine (parts_calls f t u _).mono ?_; rintro e w1 ⟨rfl, rfl⟩)
  obtain ⟨M, rfl⟩ : ∃ M : Nat, m = M := ⟨m.toNat, by omega⟩
  have bO := (show Boxed _ _ _ _ from (Ext.refl _).alloc (.cells #[.int .i64 u] 2) |>.block ((Ext.refl _).alloc (.cells #[.int .i64 f, .int .i64 t] 24) |>.block (Boxed.new ((w.alloc (.cells #[.int .i64 f, .int .i64 t] 24)).alloc (.cells #[.int .i64 M] 3)) 28 (.slice none 0 0))))
  have bM := (show Boxed _ _ _ _ from (Ext.refl _).alloc (.cells #[.int .i64 u] 2) |>.block ((Ext.refl _).alloc (.cells #[.int .i64 f, .int .i64 t] 24) |>.block ((Ext.refl _).alloc (.cells #[.slice none 0 0] 28) |>.block (Boxed.new (w.alloc (.cells #[.int .i64 f, .int .i64 t] 24)) 3 (.int .i64 M)))))
  simp only [World.size_alloc] at bO bM
  have hx0 : Ext w (((((w.alloc (.cells #[.int .i64 f, .int .i64 t] 24)).alloc (.cells #[.int .i64 M] 3)).alloc (.cells #[.slice none 0 0] 28)).alloc (.cells #[.int .i64 f, .int .i64 t] 24)).alloc (.cells #[.int .i64 u] 2)) := (((((Ext.refl w).alloc _).alloc _).alloc _).alloc _).alloc _
  have bS := (Ext.refl _).alloc (.cells #[.int .i64 u] 2) |>.block (heap_alloc_new (((w.alloc (.cells #[.int .i64 f, .int .i64 t] 24)).alloc (.cells #[.int .i64 M] 3)).alloc (.cells #[.slice none 0 0] 28)) (.cells #[.int .i64 f, .int .i64 t] 24))
  have bU := heap_alloc_new ((((w.alloc (.cells #[.int .i64 f, .int .i64 t] 24)).alloc (.cells #[.int .i64 M] 3)).alloc (.cells #[.slice none 0 0] 28)).alloc (.cells #[.int .i64 f, .int .i64 t] 24)) (.cells #[.int .i64 u] 2)
  simp only [World.size_alloc] at bS bU
  have hz1' : (((((w.alloc (.cells #[.int .i64 f, .int .i64 t] 24)).alloc (.cells #[.int .i64 M] 3)).alloc (.cells #[.slice none 0 0] 28)).alloc (.cells #[.int .i64 f, .int .i64 t] 24)).alloc (.cells #[.int .i64 u] 2)).heap.size = w.heap.size + 5 := by simp
  generalize (((((w.alloc (.cells #[.int .i64 f, .int .i64 t] 24)).alloc (.cells #[.int .i64 M] 3)).alloc (.cells #[.slice none 0 0] 28)).alloc (.cells #[.int .i64 f, .int .i64 t] 24)).alloc (.cells #[.int .i64 u] 2)) = w1 at *
  have c0 : w1.cell? ⟨w.heap.size + 1 + 1 + 1, 0, none⟩ = some (.int .i64 f) := by rw [cell_of_row _ _ _ _ _ _ bS]; rfl
  have c1 : w1.cell? ⟨w.heap.size + 1 + 1 + 1, 1, none⟩ = some (.int .i64 t) := by rw [cell_of_row _ _ _ _ _ _ bS]; rfl
  have c2 : w1.cell? ⟨w.heap.size + 1 + 1 + 1 + 1, 0, none⟩ = some (.int .i64 u) := by rw [cell_of_row _ _ _ _ _ _ bU]; rfl
  refine (wpIn_wide (n := 5)).1 ?_
  refine wpIn_rangeFunc_ownH rfl (by omega) (gf := 51) (lb := #[.pointer (some ⟨w.heap.size + 1 + 1 + 1, 0, none⟩), .pointer (some ⟨w.heap.size + 1 + 1 + 1 + 1, 0, none⟩)]) rfl trivial (enters_of Try.func51 (by kernel_rfl) rfl)
    (parts_stops _ _ f t u (partsL f t u).length 4 (Nat.le_refl _) w1 c0 c1 c2) (fun h k => Keep2.trans h k) (fun W l o o' h1 h2 _ _ => ⟨World.putObj_heap_other (by omega), World.putObj_heap_other (by omega)⟩) (Below.refl _ _) (fun _ => rfl)
    (fun pre W => ((∃ v, Boxed W (w.heap.size + 1 + 1) 28 v ∧ W.ownsRow w.heap.size 31 3 v pre.length (flatPt pre) ∧ pre.length < M) ∧ Boxed W (w.heap.size + 1) 3 (.int .i64 M)) ∧ Below w.heap.size w W ∧ Blk w f t u W)
    (fun c pre W => ((∃ v, Boxed W (w.heap.size + 1 + 1) 28 v ∧ W.ownsRow w.heap.size 31 3 v pre.length (flatPt pre) ∧ c = .exit 0 ∧ pre.length = M) ∧ Boxed W (w.heap.size + 1) 3 (.int .i64 M)) ∧ Below w.heap.size w W)
    (OwnFrom.and (OwnFrom.and (Own.from (holdsRow_own w.heap.size (w.heap.size + 1 + 1) _ _ 3 (fun pre : List Pt => pre.length) (fun pre => flatPt pre) (fun pre _ => pre.length < M)) _) (Own.from (boxed_own (w.heap.size + 1) _ (fun _ => .int .i64 M)) _)) (OwnFrom.and (ownFrom_below (Nat.le_refl _) (by omega)) (fun _ A B row hs hg hr => ⟨boxed_block hs.1 hg hr, boxed_block hs.2 hg hr⟩)))
    (fun c => OwnFrom.and (OwnFrom.and (Own.from (holdsRow_own w.heap.size (w.heap.size + 1 + 1) _ _ 3 (fun pre : List Pt => pre.length) (fun pre => flatPt pre) (fun pre _ => c = .exit 0 ∧ pre.length = M)) _) (Own.from (boxed_own (w.heap.size + 1) _ (fun _ => .int .i64 M)) _)) (ownFrom_below (Nat.le_refl _) (by omega)))
    ⟨⟨⟨_, bO, World.ownsRow_nil _ _ _ _, by simp; omega⟩, bM⟩, hx0, bS, bU⟩
    (fun x a' W => ∃ Bx, w1.heap.size ≤ Bx ∧ W.heap[Bx]? = some (.cells #[.int .i64 x.s.f, .int .i64 x.s.t] 24 (0, 0)) ∧ a' = { tmps := #[.agg #[.int .i64 f, .int .i64 t], .int .i64 u, .int .i64 M, .pointer (some ⟨w.heap.size, 0, none⟩), undef, .pointer (some ⟨w.heap.size + 1, 0, none⟩), .slice none 0 0, .pointer (some ⟨w.heap.size + 1 + 1, 0, none⟩), .func (.func 51) #[] #[.pointer (some ⟨w.heap.size + 1 + 1 + 1, 0, none⟩), .pointer (some ⟨w.heap.size + 1 + 1 + 1 + 1, 0, none⟩)], .int .i64 x.no, .pointer (some ⟨Bx, 0, none⟩), .agg #[.int .i64 f, .int .i64 t], .int .i64 u, .func (.func 51) #[] #[.pointer (some ⟨w.heap.size + 1 + 1 + 1, 0, none⟩), .pointer (some ⟨w.heap.size + 1 + 1 + 1 + 1, 0, none⟩)], .int .i64 M, .bool (decide ((M : Int) < 1)), .bool (decide ((M : Int) < 1)), .func (.func 51) #[] #[.pointer (some ⟨w.heap.size + 1 + 1 + 1, 0, none⟩), .pointer (some ⟨w.heap.size + 1 + 1 + 1 + 1, 0, none⟩)], .bool false, .bool (decide ((M : Int) < 1)), undef, .func (.func 51) #[] #[.pointer (some ⟨w.heap.size + 1 + 1 + 1, 0, none⟩), .pointer (some ⟨w.heap.size + 1 + 1 + 1 + 1, 0, none⟩)], .int .i64 x.no, .agg #[.int .i64 x.s.f, .int .i64 x.s.t], undef, undef, undef, undef, undef, undef, undef, undef, undef, undef, undef], defers := [] })
    (fun x a' _ X Y row hs hg hr => by
      obtain ⟨Bx, h1, h2, h3⟩ := hs
      exact ⟨Bx, h1, (hg.block Bx (Array.getElem?_eq_some_iff.1 h2).1 (fun e => by obtain ⟨_, o, ho, hc⟩ := hr Bx e.symm; rw [h2] at ho; cases ho; cases hc)).trans h2, h3⟩)
    ?assign ?body ?done ?stop
  case assign =>
    rintro l pre x W K ⟨⟨⟨v, hv, hrow, hlm⟩, hM⟩, hB, hS, hU⟩ hK
    have hzW : w1.heap.size ≤ W.heap.size := by have := (Array.getElem?_eq_some_iff.1 hU).1; omega
    simp only [encPt] at *
    gi_wp2
    have hxa : Ext W (W.alloc (.cells #[.int .i64 x.s.f, .int .i64 x.s.t] 24)) := (Ext.refl W).alloc _
    exact hK _ _ ((KeepsOthers.alloc _ _).from _) ⟨(hxa.block hS).trans hS.symm, (hxa.block hU).trans hU.symm⟩ ⟨⟨⟨v, hv.alloc _, hrow.alloc _, hlm⟩, hM.alloc _⟩, hB.alloc (Below.size hB) _, hxa.block hS, hxa.block hU⟩ ⟨W.heap.size, hzW, heap_alloc_new W _, rfl⟩
  case body =>
    rintro l pre x a' W hl _ ⟨⟨⟨v, hv, hrow, hlm⟩, hM⟩, hB, hS, hU⟩ ⟨Bx, hBx, hbx, rfl⟩ hlt
    have y0 : W.cell? ⟨Bx, 0, none⟩ = some (.int .i64 x.s.f) := by rw [cell_of_row _ _ _ _ _ _ hbx]; rfl
    have y1 : W.cell? ⟨Bx, 1, none⟩ = some (.int .i64 x.s.t) := by rw [cell_of_row _ _ _ _ _ _ hbx]; rfl
    have hc := hv.cell
    have hcm := hM.cell
    have hsz := Below.size hB
    have hS' := Lib.hid hS
    have hU' := Lib.hid hU
    have hB' := Lib.hid hB
    clear bO bM hx0 bS bU c0 c1 c2 hbx hS hU hB
    have hd : decide ((M : Int) < 1) = false := by simp; omega
    gi_wp2_with (gi_at_builtin; refine wpListIn_append_own _ rfl _ _ 28 rfl w.heap.size 31 i0 (.agg #[.int .i64 0, .int .i64 0, .int .i64 0]) 3 24 Try.underlying28 hi hz0 hz1 hz2 rfl (by decide) _ _ _ rfl (hrow.alloc _) ⟨W.heap.size, 0, none⟩ 1 1 [.int .i64 x.no, .int .i64 x.s.f, .int .i64 x.s.t] rfl rfl (World.news_of_block (heap_alloc_new W _)) (by simp [Value.oneCell']) (by unfold maxLen; omega) (by omega) (by simp; omega) ?_; intro v' w2 hown' hgrow _; obtain ⟨g', cap', rfl⟩ := ownsRow_succ hown'; obtain ⟨hv1, hv2, hr2, hk2, hb2⟩ := hv.appended (by decide) hrow hsz (by omega) hown' hgrow; have hc1 := hv1.cell; have hf1 := hv1.frozen; have hS2 := Lib.hid (appended_other hS'.out (by decide) (show _ ≠ w.heap.size + 1 + 1 by omega) hrow hgrow (v' := .slice (some ⟨g', 0, none⟩) (pre.length + 1) cap')); have hU2 := Lib.hid (appended_other hU'.out (by decide) (show _ ≠ w.heap.size + 1 + 1 by omega) hrow hgrow (v' := .slice (some ⟨g', 0, none⟩) (pre.length + 1) cap')); have hm2 := Boxed.cell (show Boxed _ _ _ _ from appended_other hM (by decide) (show _ ≠ w.heap.size + 1 + 1 by omega) hrow hgrow (v' := .slice (some ⟨g', 0, none⟩) (pre.length + 1) cap')))
    all_goals have hB2 := hB'.out.trans hb2
    all_goals have hk3 : KeepsFrom w1.heap.size W _ := hk2.from _
    · rename_i hq
      simp only [beq_iff_eq] at hq
      exact ⟨hk3, ⟨⟨_, hv2, by simpa [flatPt_append, flatPt_one] using hr2, rfl, by simp; omega⟩, show Boxed _ _ _ _ from appended_other hM (by decide) (by omega) hrow hgrow⟩, hB2⟩
    · rename_i hq
      simp only [beq_eq_false_iff_ne] at hq
      refine ⟨hk3, ⟨hS2.out.trans hS'.out.symm, hU2.out.trans hU'.out.symm⟩, ⟨⟨_, hv2, by simpa [flatPt_append, flatPt_one] using hr2, ?_⟩, ?_⟩, hB2, hS2.out, hU2.out⟩
      · simp; omega
      · exact show Boxed _ _ _ _ from appended_other hM (by decide) (by omega) hrow hgrow
  case done =>
    rintro D ys W hD rfl ⟨⟨⟨v, hv, hrow, hlm⟩, hM⟩, hB, _, _⟩ hK
    have hc := hv.cell
    go_wp2
    refine ⟨by simp, .inl ⟨_, _, rfl, run_takeDeferred hK, ?_⟩⟩
    have e : firstPts f t u M = partsL f t u := List.take_of_length_le (by simp; omega)
    rw [e]
    exact ⟨_, results_tmp rfl _ _ _, v, rfl, ownsRow_putObj hrow _ hK rfl, hB.trans (belowK_b (w := w) (Nat.le_refl _) W D _ _ (by omega) hK rfl rfl)⟩
  case stop =>
    rintro D c pre W hD hpre ⟨⟨⟨v, hv, hrow, rfl, hlm⟩, hM⟩, hB⟩ hK
    have hc := hv.cell
    gi_wp2
    go_wp2
    refine ⟨by simp, .inl ⟨_, _, rfl, run_takeDeferred hK, ?_⟩⟩
    have e : firstPts f t u M = pre := by
      unfold firstPts
      rw [← hlm]
      exact (List.prefix_iff_eq_take.1 hpre).symm
    rw [e]
    exact ⟨_, results_tmp rfl _ _ _, v, rfl, ownsRow_putObj hrow _ hK rfl, hB.trans (belowK_b (w := w) (Nat.le_refl _) W D _ _ (by omega) hK rfl rfl)⟩
end Go.Proofs.Ytoahjhkfnchdhaa
