/- At string: The contract of Next: the first number from one on. -/
import Derived.Test.YtcdjhoejnjbgkaaMaps
import Derived.Test.YtcdjhoejnjbgkaaSWalkB
namespace Go.Proofs.Ytcdjhoejnjbgkaa.St
open Go.RowKit
attribute [local go_sem] Oper.semAt_some

def nextV : List Pr → Value
  | [] => .tuple #[.int .u64 0, .string (str 0), .bool false]
  | x :: _ => .tuple #[.int .u64 (x.k : Int), .string (str x.v), .bool true]
def NextPost (w : World) (l : List Pr) (e : Ending) (w' : World) : Prop := e = .returned (nextV l) ∧ Ext w w'

theorem boxed_keep {A B : World} {row : Option Nat} {b n : Nat} {t : TypeId} {v : Value} (h : Boxed A b t v) (hg : A.grownBy B row) (hr : ∀ r, row = some r → n ≤ r ∧ ∃ o : Obj, A.heap[r]? = some o ∧ o.isCells = false) : Boxed B b t v :=
  h.kept hg (fun e => by obtain ⟨_, o, ho, hc⟩ := hr b e.symm; rw [show A.heap[b]? = _ from h] at ho; cases ho; cases hc)
theorem boxed_put {W : World} {b D : Nat} {t : TypeId} {v : Value} (h : Boxed W b t v) (hK : W.heap[D]? = some (.deferred (some []))) : Boxed (W.putObj D (.deferred none)) b t v :=
  boxed_keep (n := 0) h (grownBy_putObj' W D (.deferred none)) (fun r e => by cases e; exact ⟨Nat.zero_le _, _, hK, rfl⟩)

set_option maxRecDepth 100000 in
set_option maxHeartbeats 2000000 in
theorem next_calls (p : Option Addr) (t : Option Nd) (k : Nat) (w : World) (hp : AtO w p t) (hwf : Nd.oWF t) :
    Calls Try.prog 27 #[.agg #[.pointer p], .int .u64 k] w (NextPost w (fromO k t)) := by
  refine (callsIn_wide (n := 5)).1 ?_
  refine callsIn_of_wp_marks Try.func27 rfl trivial ?_ rfl
  simp only [Try.ntmps27, List.size_toArray, List.length_cons, List.length_nil, Nat.reduceAdd, Nat.reduceSub, Array.replicate_succ, Array.replicate_zero, List.push_toArray, List.append_toArray, List.nil_append, List.cons_append]
  gi_wp2_with (refine ⟨trivial, ?_⟩; gi_at_call 41; refine (callsIn_wide.2 (from_calls p k _)).mono ?_; rintro e w1 ⟨v, rfl, ⟨bm, bk, rfl, h1, h2⟩, hx1⟩)
  obtain ⟨A, hA⟩ : ∃ A : World, A = w.alloc (.cells #[.pointer p] 56) := ⟨_, rfl⟩
  obtain ⟨B, hB⟩ : ∃ B : World, B = A.alloc (.cells #[.int .u64 0] 23) := ⟨_, rfl⟩
  obtain ⟨C, hC⟩ : ∃ C : World, C = B.alloc (.cells #[.string (str 0)] 9) := ⟨_, rfl⟩
  have b4 : Boxed w1 (w.heap.size + 1) 23 (.int .u64 0) := by
    have h := ((Boxed.new A 23 (.int .u64 0)).alloc (.cells #[.string (str 0)] 9)).alloc (.cells #[.bool false] 4)
    rw [hA, World.size_alloc] at h
    exact hx1.block h
  have b5 : Boxed w1 (w.heap.size + 1 + 1) 9 (.string (str 0)) := by
    have h := (Boxed.new B 9 (.string (str 0))).alloc (.cells #[.bool false] 4)
    rw [hB, hA, World.size_alloc, World.size_alloc] at h
    exact hx1.block h
  have b6 : Boxed w1 (w.heap.size + 1 + 1 + 1) 4 (.bool false) := by
    have h := (Boxed.new C 4 (.bool false))
    rw [hC, hB, hA, World.size_alloc, World.size_alloc, World.size_alloc] at h
    exact hx1.block h
  have hB0 : Below w.heap.size w w1 := Ext.trans ((((Ext.refl w).alloc _).alloc _).alloc _ |>.alloc _) hx1
  clear hA hB hC A B C
  have hs1 := hx1.size
  simp only [World.size_alloc] at hs1
  refine wpIn_rangeFunc_ownF rfl (by omega) (gf := 47) (lb := #[.pointer (some ⟨bm, 0, none⟩), .pointer (some ⟨bk, 0, none⟩)]) rfl trivial (enters_of Try.func47 (by kernel_rfl) rfl)
    (from_stops k w t p hp hwf bm bk _ w1 hB0 h1 h2) belowK_t (belowK_b (by omega)) (Below.refl _ _) (fun _ => rfl)
    (fun pre W => pre = [] ∧ (Boxed W (w.heap.size + 1) 23 (.int .u64 0) ∧ Boxed W (w.heap.size + 1 + 1) 9 (.string (str 0)) ∧ Boxed W (w.heap.size + 1 + 1 + 1) 4 (.bool false)) ∧ Below w.heap.size w W)
    (fun c pre W => c = .ret ∧ ∃ x : Pr, pre = [x] ∧ (Boxed W (w.heap.size + 1) 23 (.int .u64 (x.k : Int)) ∧ Boxed W (w.heap.size + 1 + 1) 9 (.string (str x.v)) ∧ Boxed W (w.heap.size + 1 + 1 + 1) 4 (.bool true)) ∧ Below w.heap.size w W)
    (fun s A B row hs hg hr => ⟨hs.1, ⟨boxed_keep hs.2.1.1 hg hr, boxed_keep hs.2.1.2.1 hg hr, boxed_keep hs.2.1.2.2 hg hr⟩, ownFrom_below (β := Unit) (Nat.le_refl _) (by omega) () A B row hs.2.2 hg hr⟩)
    (fun c s A B row hs hg hr => by
      obtain ⟨hc, x, hx, ⟨g1, g2, g3⟩, hb⟩ := hs
      exact ⟨hc, x, hx, ⟨boxed_keep g1 hg hr, boxed_keep g2 hg hr, boxed_keep g3 hg hr⟩, ownFrom_below (β := Unit) (Nat.le_refl _) (by omega) () A B row hb hg hr⟩)
    ⟨rfl, ⟨b4, b5, b6⟩, hB0⟩
    (fun x => { tmps := #[.agg #[.pointer p], .int .u64 (k : Int), .pointer (some ⟨w.heap.size, 0, none⟩), undef, .pointer (some ⟨w.heap.size + 1, 0, none⟩), .pointer (some ⟨w.heap.size + 1 + 1, 0, none⟩), .pointer (some ⟨w.heap.size + 1 + 1 + 1, 0, none⟩), .int .u64 (x.k : Int), .string (str x.v), undef, .agg #[.pointer p], .int .u64 (k : Int), .func (.func 47) #[] #[.pointer (some ⟨bm, 0, none⟩), .pointer (some ⟨bk, 0, none⟩)], .int .u64 (x.k : Int), .string (str x.v), undef, undef, undef], defers := [] }) ?assign ?body ?done ?stop
  case assign =>
    intro l x W K hK
    gi_wp2
    exact hK
  case body =>
    rintro l pre x W ⟨rfl, ⟨g4, g5, g6⟩, hB⟩ hlt
    have c4 := g4.cell
    have c5 := g5.cell
    have c6 := g6.cell
    have f4 := g4.frozen
    have f5 := g5.frozen
    have f6 := g6.frozen
    clear hs1 b4 b5 b6 hx1 hB0 h1 h2 hp hwf
    gi_wp2
    refine ⟨((KeepsOthers.setCell _ _ _).trans (KeepsOthers.setCell _ _ _)).trans (KeepsOthers.setCell _ _ _), rfl, x, rfl, ⟨?_, ?_, ?_⟩, ?_⟩
    · exact ((g4.set _).other (by omega) _).other (by omega) _
    · exact (((g5.other (by omega) _).set _).other (by omega) _)
    · exact ((g6.other (by omega) _).other (by omega) _).set _
    · exact ((hB.setCell (p := ⟨w.heap.size + 1, 0, none⟩) (by simp) _).setCell (p := ⟨w.heap.size + 1 + 1, 0, none⟩) (by simp; omega) _).setCell (p := ⟨w.heap.size + 1 + 1 + 1, 0, none⟩) (by simp; omega) _
  case done =>
    rintro D ys W hD rfl ⟨hn, ⟨g4, g5, g6⟩, hB⟩ hK
    have c4 := g4.cell
    have c5 := g5.cell
    have c6 := g6.cell
    have f4 := g4.frozen
    have f5 := g5.frozen
    have f6 := g6.frozen
    clear b4 b5 b6 hx1 hB0 h1 h2 hp hwf
    gi_wp2
    rw [hn]
    have q4 : Boxed ((W.setCell ⟨w.heap.size + 1, 0, none⟩ (.int .u64 0)).setCell ⟨w.heap.size + 1 + 1, 0, none⟩ (.string (str 0)) |>.setCell ⟨w.heap.size + 1 + 1 + 1, 0, none⟩ (.bool false)) (w.heap.size + 1) 23 (.int .u64 0) := ((g4.set _).other (by omega) _).other (by omega) _
    have q5 : Boxed ((W.setCell ⟨w.heap.size + 1, 0, none⟩ (.int .u64 0)).setCell ⟨w.heap.size + 1 + 1, 0, none⟩ (.string (str 0)) |>.setCell ⟨w.heap.size + 1 + 1 + 1, 0, none⟩ (.bool false)) (w.heap.size + 1 + 1) 9 (.string (str 0)) := ((g5.other (by omega) _).set _).other (by omega) _
    have q6 : Boxed ((W.setCell ⟨w.heap.size + 1, 0, none⟩ (.int .u64 0)).setCell ⟨w.heap.size + 1 + 1, 0, none⟩ (.string (str 0)) |>.setCell ⟨w.heap.size + 1 + 1 + 1, 0, none⟩ (.bool false)) (w.heap.size + 1 + 1 + 1) 4 (.bool false) := ((g6.other (by omega) _).other (by omega) _).set _
    have hK' := (((KeepsOthers.setCell W ⟨w.heap.size + 1, 0, none⟩ (.int .u64 0)).trans (KeepsOthers.setCell _ ⟨w.heap.size + 1 + 1, 0, none⟩ (.string (str 0)))).trans (KeepsOthers.setCell _ ⟨w.heap.size + 1 + 1 + 1, 0, none⟩ (.bool false))).same D _ hK rfl
    have hB' : Below w.heap.size w ((W.setCell ⟨w.heap.size + 1, 0, none⟩ (.int .u64 0)).setCell ⟨w.heap.size + 1 + 1, 0, none⟩ (.string (str 0)) |>.setCell ⟨w.heap.size + 1 + 1 + 1, 0, none⟩ (.bool false)) := ((hB.setCell (p := ⟨w.heap.size + 1, 0, none⟩) (by simp) _).setCell (p := ⟨w.heap.size + 1 + 1, 0, none⟩) (by simp; omega) _).setCell (p := ⟨w.heap.size + 1 + 1 + 1, 0, none⟩) (by simp; omega) _
    refine ⟨by simp, .inl ⟨_, _, rfl, run_takeDeferred hK', ?_⟩⟩
    have u4 := (boxed_put q4 hK').cell
    have u5 := (boxed_put q5 hK').cell
    have u6 := (boxed_put q6 hK').cell
    simp only [str0] at u4 u5 u6
    refine ⟨nextV [], ?_, rfl, hB'.trans (belowK_b (w := w) (Nat.le_refl _) _ D _ _ (by omega) hK' rfl rfl)⟩
    simp [results, Try.f27, go_sem, u4, u5, u6, nextV, str0]
  case stop =>
    rintro D c pre W hD hpre ⟨rfl, x, rfl, ⟨g4, g5, g6⟩, hB⟩ hK
    gi_wp2
    obtain ⟨r, hr⟩ := hpre
    rw [← hr]
    refine ⟨by simp, .inl ⟨_, _, rfl, run_takeDeferred hK, ?_⟩⟩
    have u4 := (boxed_put g4 hK).cell
    have u5 := (boxed_put g5 hK).cell
    have u6 := (boxed_put g6 hK).cell
    refine ⟨nextV ([x] ++ r), ?_, rfl, hB.trans (belowK_b (w := w) (Nat.le_refl _) _ D _ _ (by omega) hK rfl rfl)⟩
    simp [results, Try.f27, go_sem, u4, u5, u6, nextV]
end Go.Proofs.Ytcdjhoejnjbgkaa.St
