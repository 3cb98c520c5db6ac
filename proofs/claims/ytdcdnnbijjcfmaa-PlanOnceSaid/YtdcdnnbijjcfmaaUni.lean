/- The contract of plan.Units. -/
import Derived.Test.YtdcdnnbijjcfmaaUnip
import Derived.Test.YtdcdnnbijjcfmaaOf
import Derived.Test.YtdcdnnbijjcfmaaAnd
import Derived.Test.YtdcdnnbijjcfmaaAllQ
import Derived.Test.YtdcdnnbijjcfmaaLess
import Derived.RangeFuncNested
import Derived.Maps.OwnIn
namespace Go.Proofs.Ytdcdnnbijjcfmaa
open Go.RowKit
attribute [local go_sem] Oper.semAt_some

theorem sat_one (W : World) (f t : Int) : SAt (W.alloc (.cells #[.int .i64 f, .int .i64 t] 48)) (some ⟨W.heap.size, 0, none⟩) [⟨f, t⟩] := fun k hk => by
  obtain rfl : k = 0 := by simpa using hk
  exact ⟨_, _, rfl, by simp, by simp⟩
theorem norm_one_length (s : Sp) : (ofS [s]).length ≤ 1 := of_length [s]
theorem SetPost.ext0 {w0 w w' : World} {l : List Sp} {e : Ending} (h : SetPost w l e w') (hx : Ext w0 w) : SetPost w0 l e w' := by
  obtain ⟨A, c, he, hS, hN, hx2⟩ := h
  exact ⟨A, c, he, hS, Lib.hid (fun b o e => Nat.le_trans hx.size (hN.out b o e)), hx.trans hx2⟩

theorem boxed_put {W : World} {b D : Nat} {t : TypeId} {v : Value} (h : Boxed W b t v) (hK : W.heap[D]? = some (.deferred (some []))) : Boxed (W.putObj D (.deferred none)) b t v := by
  refine ((grownBy_putObj' W D (.deferred none)).block b (Array.getElem?_eq_some_iff.1 h).1 (fun e => ?_)).trans h
  cases e
  have h2 : W.heap[b]? = some (.cells #[v] t (0, 0)) := h
  rw [h2] at hK
  cases hK
theorem SAt.blocks {w w' : World} {A : Option Addr} {l : List Sp} (h : SAt w A l) (hb : ∀ b o, A = some ⟨b, o, none⟩ → b < w.heap.size → w'.heap[b]? = w.heap[b]?) : SAt w' A l := fun k hk => by
  obtain ⟨b, o, e, p0, p1⟩ := h k hk
  have := hb b o e (block_of_cell p0)
  exact ⟨b, o, e, (World.cell?_of_block this).trans p0, (World.cell?_of_block this).trans p1⟩
theorem Kq.ext {a b c : World} {o : Nat} (h : Ext a b) (hk : Kq o b.heap.size b c) (ho : a.heap.size ≤ o) : Ext a c :=
  ⟨hk.os.trans h.os, hk.tape.trans h.tape, hk.output.trans h.output, Nat.le_trans h.size hk.size, fun k hka => (hk.block k (by have := h.size; omega) (by omega)).trans (Below.block h k hka)⟩
theorem moved_new {w w1 : World} {o : Obj} {v v' : Value} (hg : (w.alloc o).grownBy w1 v.ownBlock) (h4 : v'.ownBlock = v.ownBlock ∨ v'.ownBlock = some (w.alloc o).heap.size) : Moved w w1 v v' :=
  ⟨(World.grownBy_alloc w _ _).trans hg, h4.elim .inl fun e => .inr ⟨_, by simp, e⟩⟩
theorem news2 (W : World) (a b : Value) (t : TypeId) : ∀ j u, [a, b][j]? = some u → (W.alloc (.cells #[a, b] t)).cell? ((⟨W.heap.size, 0, none⟩ : Addr).add j) = some u := by
  exact World.news_of_block (heap_alloc_new W _)
theorem cell_of_block {w : World} {b i : Nat} {cs : Array Value} {t : TypeId} {o : Nat × Nat} (h : w.heap[b]? = some (.cells cs t o)) : w.cell? ⟨b, i, none⟩ = cs[i]? := by
  simp [World.cell?, h]
theorem Boxed.appendedQ {W w1 : World} {n₀ B : Nat} {t e : TypeId} {size : Nat} {v v' : Value} {k m : Nat} {xs ys : List Value}
    (hv : Boxed W B t v) (hte : t ≠ e) (hn₀ : n₀ ≤ W.heap.size) (hrow : W.ownsRow n₀ e size v k xs) (hown' : w1.ownsRow n₀ e size v' m ys) (hm : Moved W w1 v v') :
    Boxed w1 B t v ∧ Boxed (w1.setCell ⟨B, 0, none⟩ v') B t v' ∧ (w1.setCell ⟨B, 0, none⟩ v').ownsRow n₀ e size v' m ys ∧ KeepsOthers W (w1.setCell ⟨B, 0, none⟩ v') ∧ Kq B n₀ W (w1.setCell ⟨B, 0, none⟩ v') := by
  have hv1 : Boxed w1 B t v := hv.kept hm.1 (hv.not_row hte hrow)
  have hs : w1.heap.size = (w1.setCell ⟨B, 0, none⟩ v').heap.size := by simp [World.setCell]
  refine ⟨hv1, hv1.set v', hown'.kept (grownBy_setCell' w1 B v') (.inr (hv1.not_row hte hown').symm), ?_, ?_⟩
  · refine (KeepsOthers.of_grownBy hm.1 fun j o ej hj => ?_).trans (KeepsOthers.setCell _ _ _)
    rcases hrow.2 with ⟨rfl, _⟩ | ⟨g, cap, cur, rfl, _, hgb, _⟩
    · simp [Value.ownBlock] at ej
    · obtain rfl : g = j := by simpa [Value.ownBlock] using ej
      rw [hgb] at hj; cases hj; rfl
  · refine ⟨hm.1.os, hm.1.tape, hm.1.output, by rw [← hs]; exact hm.1.size, fun i hi hne => ?_⟩
    refine (Below.heap_setCell w1 ⟨B, 0, none⟩ v' i hne).trans ?_
    rcases Nat.lt_or_ge i W.heap.size with h1 | h1
    · refine hm.1.block i h1 (fun e => ?_)
      have := own_base hrow e.symm
      omega
    · omega

set_option maxHeartbeats 8000000 in
set_option maxRecDepth 100000 in
theorem unitsC_calls (A : Option Addr) (c : Nat) (g : List Sp) (n u : Int) (w : World) (h : SAt w A g) (hn : Norm g) (hl : g.length ≤ 100000) :
    Calls Try.prog 20 #[.agg #[.slice A g.length c], .int .i64 n, .int .i64 u] w fun e w' => SetPost w (unitsS g n u) e w' ∧ (unitsS g n u).length ≤ g.length + 2 := by
  obtain ⟨i0, hi, hz0, hz1, hz2⟩ := info_parts infoSpan
  have hx0 : Ext w (((w.alloc (.cells #[.slice A g.length c] 30)).alloc (.cells #[.int .i64 u] 2)).alloc (.cells #[.slice none 0 0] 30)) := (((Ext.refl w).alloc _).alloc _).alloc _
  have c0 : (((w.alloc (.cells #[.slice A g.length c] 30)).alloc (.cells #[.int .i64 u] 2)).alloc (.cells #[.slice none 0 0] 30)).cell? ⟨w.heap.size, 0, none⟩ = some (.slice A g.length c) := by simp [go_sem]
  have c1 : (((w.alloc (.cells #[.slice A g.length c] 30)).alloc (.cells #[.int .i64 u] 2)).alloc (.cells #[.slice none 0 0] 30)).cell? ⟨w.heap.size + 1, 0, none⟩ = some (.int .i64 u) := by simp [go_sem]
  have c2 : (((w.alloc (.cells #[.slice A g.length c] 30)).alloc (.cells #[.int .i64 u] 2)).alloc (.cells #[.slice none 0 0] 30)).cell? ⟨w.heap.size + 1 + 1, 0, none⟩ = some (.slice none 0 0) := by simp [go_sem]
  have f2 : (((w.alloc (.cells #[.slice A g.length c] 30)).alloc (.cells #[.int .i64 u] 2)).alloc (.cells #[.slice none 0 0] 30)).frozen? ⟨w.heap.size + 1 + 1, 0, none⟩ = false := by simp [go_sem]
  have b2 : (((w.alloc (.cells #[.slice A g.length c] 30)).alloc (.cells #[.int .i64 u] 2)).alloc (.cells #[.slice none 0 0] 30)).heap[w.heap.size + 1 + 1]? = some (.cells #[.slice none 0 0] 30 (0, 0)) := by
    have := heap_alloc_new ((w.alloc (.cells #[.slice A g.length c] 30)).alloc (.cells #[.int .i64 u] 2)) (.cells #[.slice none 0 0] 30)
    simpa using this
  have z2 : w.heap.size + 1 + 1 < (((w.alloc (.cells #[.slice A g.length c] 30)).alloc (.cells #[.int .i64 u] 2)).alloc (.cells #[.slice none 0 0] 30)).heap.size := by simp
  cases hm : measB n u
  · have hU : unitsS g n u = [] := by unfold unitsS; rw [hm]; rfl
    have HU := Lib.hid hU
    have HM := Lib.hid hm
    clear hm hU
    go_enter Try.func20, Try.ntmps20
    go_wp2_with (go_at_call 44; refine (measures_calls n u _).mono ?_; rintro e w' ⟨rfl, rfl⟩; rw [HM.out])
    refine bodyPost_ret (v := .agg #[.slice none 0 0]) (by simp [results, Try.results20, go_sem, c2]) rfl ⟨?_, by rw [HU.out]; simp⟩
    refine ⟨none, 0, by rw [HU.out]; rfl, Lib.hid (by rw [HU.out]; exact SAt.nil _ _), Lib.hid (fun b o e => by cases e), ?_⟩
    exact hx0
  · have hU : unitsS g n u = andS (ofS ((andS g (boxS n)).map fun s => alnS s u)) (boxS n) := by unfold unitsS; rw [hm]; rfl
    have hUb : unitB u = true ∧ lengthB n = true := by simpa [measB] using hm
    have HU := Lib.hid hU
    have HM := Lib.hid hm
    have HB := Lib.hid hUb
    have hOT : boxS n = ofS [⟨0, objT n⟩] := by unfold boxS; rw [objT_end hUb.2]
    have HOT := Lib.hid hOT
    have HN := Lib.hid hn
    replace h := h.ext hx0
    clear hm hU hUb hOT hn
    generalize unitsS g n u = R at *
    refine (callsIn_wide (n := 5)).1 ?_
    refine callsIn_of_wp_marks Try.func20 rfl trivial ?_ rfl
    simp only [Try.ntmps20, List.size_toArray, List.length_cons, List.length_nil, Nat.reduceAdd, Nat.reduceSub, Array.replicate_succ, Array.replicate_zero, List.push_toArray, List.append_toArray, List.nil_append, List.cons_append]
    refine wpIn_wide.2 ?_
    go_wp2_with (go_at_call 44; refine (measures_calls n u _).mono ?_; rintro e w' ⟨rfl, rfl⟩; rw [HM.out])
    generalize (((w.alloc (.cells #[.slice A g.length c] 30)).alloc (.cells #[.int .i64 u] 2)).alloc (.cells #[.slice none 0 0] 30)) = w3 at *
    refine (object_calls n _).mono ?_
    rintro e w1 ⟨rfl, hx1⟩
    have hS1 := sat_one w1 0 (objT n)
    have hof := fun c' => of_calls (some ⟨w1.heap.size, 0, none⟩) c' [⟨0, objT n⟩] _ hS1 (by simp)
    rw [← HOT.out] at hof
    have HOF := Lib.hid hof
    clear hof hS1
    generalize objT n = ot at *
    go_wp2_with fail
    refine (HOF.out _).mono ?_
    rintro e w2 ⟨Ab, cb, rfl, HSb, _, hx2⟩
    replace hx2 := (hx1.alloc (.cells #[.int .i64 0, .int .i64 ot] 48)).trans hx2
    clear hx1 HOF
    have hbl : (boxS n).length ≤ 1 := norm_one_length _
    have hc0 := (hx2.alloc (.cells #[.slice Ab (boxS n).length cb] 30)).alloc (.cells #[.slice none 0 0] 22)
    have d0 := hc0.cell c0
    have d1 := hc0.cell c1
    have e0 : ((w2.alloc (.cells #[.slice Ab (boxS n).length cb] 30)).alloc (.cells #[.slice none 0 0] 22)).cell? ⟨w2.heap.size, 0, none⟩ = some (.slice Ab (boxS n).length cb) := by simp [go_sem]
    have hbn : Norm (boxS n) := norm_box n
    have HBN := Lib.hid hbn
    have hand := and_calls A c g Ab cb (boxS n) _ (h.ext hc0) (HSb.out.ext (((Ext.refl w2).alloc (.cells #[.slice Ab (boxS n).length cb] 30)).alloc (.cells #[.slice none 0 0] 22))) HN.out hbn (by omega) (by omega)
    have HA := Lib.hid hand
    clear hand hbn
    generalize boxS n = bx at *
    go_wp2_with fail
    refine HA.out.mono ?_
    rintro e w4 ⟨⟨A4, c4, rfl, HS4, HN4, hx4⟩, hl4⟩
    have hLl : (andS g bx).length ≤ 100001 := by omega
    have hLg : (andS g bx).length ≤ g.length + 1 := by omega
    have HNL : Hid (Norm (andS g bx)) := Lib.hid (norm_and _ _)
    have bL : w4.heap[w2.heap.size + 1]? = some (.cells #[.slice none 0 0] 22 (0, 0)) := hx4.block (by have := heap_alloc_new (w2.alloc (.cells #[.slice Ab bx.length cb] 30)) (.cells #[.slice none 0 0] 22); simpa using this)
    replace d0 := hx4.cell d0
    replace d1 := hx4.cell d1
    replace e0 := hx4.cell e0
    have hx34 := hc0.trans hx4
    have z4 : w2.heap.size + 1 < w4.heap.size := (Array.getElem?_eq_some_iff.1 bL).1
    have z3 : w.heap.size + 1 + 1 < w2.heap.size := Nat.lt_of_lt_of_le z2 hx2.size
    have HN4' : Hid (NewA w2 A4) := Lib.hid (fun b o e => by have := HN4.out b o e; simp at this; omega)
    have HN5 : Hid (∀ b o, A4 = some ⟨b, o, none⟩ → w2.heap.size + 1 < b) := Lib.hid (fun b o e => by have := HN4.out b o e; simp at this; omega)
    clear HA hc0 hl4 HN4 HN4'
    generalize hLe : andS g bx = L at *
    have HLE := Lib.hid hLe
    clear hLe
    have HSW : Hid (SAt w4 Ab bx ∧ (0 < bx.length → ∀ b o, Ab = some ⟨b, o, none⟩ → b < w2.heap.size)) := Lib.hid ⟨HSb.out.ext ((((Ext.refl w2).alloc _).alloc _).trans hx4), fun h b o e => by obtain ⟨b', o', e', q, _⟩ := HSb.out 0 h; rw [e] at e'; cases e'; exact block_of_cell q⟩
    clear HSb
    generalize hxb : w2.heap.size = xb at *
    clear hxb
    go_wp2_with (go_at_call 46; refine (setall_calls A4 c4 L _).mono ?_; rintro e w5 ⟨rfl, rfl⟩)
    have hbb : 0 < L.length → ∀ b o, A4 = some ⟨b, o, none⟩ → b < w4.heap.size ∧ b ≠ xb + 1 := fun h b o e => by
      obtain ⟨b', o', e', q, _⟩ := HS4.out 0 h
      have h1 := HN5.out b o e
      rw [e] at e'
      cases e'
      exact ⟨block_of_cell q, by omega⟩
    have hsq := Boxed.new w4 30 (.slice A4 L.length c4)
    have hE6 : Ext w4 (w4.alloc (.cells #[.slice A4 L.length c4] 30)) := (Ext.refl _).alloc _
    have hz6 : (w4.alloc (.cells #[.slice A4 L.length c4] 30)).heap.size = w4.heap.size + 1 := World.size_alloc _ _
    have bL6 : Boxed (w4.alloc (.cells #[.slice A4 L.length c4] 30)) (xb + 1) 22 (.slice none 0 0) := hE6.block bL
    refine (wpIn_wide (n := 5)).1 ?_
    generalize hW6 : w4.alloc (.cells #[.slice A4 L.length c4] 30) = W6 at *
    have hnk : W6.heap.size = w4.heap.size + 1 := hz6
    refine wpIn_rangeFunc_ownH rfl (by omega) (gf := 64) (lb := #[.pointer (some ⟨w4.heap.size, 0, none⟩)]) rfl trivial (enters_of Try.func64 (by kernel_rfl) rfl)
      (all_stopsQ Fence.wide 4 trivial rfl (by omega) w4.heap.size (xb + 1) w4.heap.size A4 c4 L (by omega) hbb W6 (by omega) (by omega) hsq.cell (HS4.out.ext hE6)) kq_t (kq_b (by omega)) (Below.refl _ _) (fun _ => rfl)
      (fun pre W => (∃ v, Boxed W (xb + 1) 22 v ∧ W.ownsRow w4.heap.size 48 2 v pre.length (spans (pre.map fun s => alnS s.1 u)) ∧ True) ∧ Kq (xb + 1) w4.heap.size W6 W)
      (fun _ _ _ => False)
      (OwnFrom.and (Own.from (holdsRow_own w4.heap.size (xb + 1) 22 48 2 (fun pre : List {s : Sp // s ∈ L} => pre.length) (fun pre => spans (pre.map fun s => alnS s.1 u)) (fun _ _ => True)) _) (ownFrom_kq (by omega) (by omega)))
      (fun _ _ _ _ _ hs _ _ => hs)
      ⟨⟨_, bL6, World.ownsRow_nil _ _ _ _, trivial⟩, Kq.refl _ _ _⟩
      (fun x a' W => ∃ Bx, W6.heap.size ≤ Bx ∧ W.heap[Bx]? = some (.cells #[.int .i64 x.1.f, .int .i64 x.1.t] 48 (0, 0)) ∧ a' = { tmps := #[.agg #[.slice A g.length c], .int .i64 n, .int .i64 u, .pointer (some ⟨w.heap.size, 0, none⟩), undef, .pointer (some ⟨w.heap.size + 1, 0, none⟩), .pointer (some ⟨w.heap.size + 1 + 1, 0, none⟩), .pointer (some ⟨xb, 0, none⟩), .pointer (some ⟨xb + 1, 0, none⟩), .pointer (some ⟨Bx, 0, none⟩), undef, undef, .int .i64 n, .int .i64 u, .bool true, .bool false, undef, .int .i64 n, .agg #[.int .i64 0, .int .i64 ot], .slice (some ⟨w1.heap.size, 0, none⟩) 1 1, .agg #[.slice Ab bx.length cb], .agg #[.slice A g.length c], .agg #[.slice Ab bx.length cb], .agg #[.slice A4 L.length c4], .func (.func 64) #[] #[.pointer (some ⟨w4.heap.size, 0, none⟩)], .agg #[.int .i64 x.1.f, .int .i64 x.1.t], undef, undef, undef, undef, undef, undef, undef, undef, undef, undef, undef, undef, undef, undef], defers := [] })
      (fun x a' _ X Y row hs hg hr => by
        obtain ⟨Bx, h1, h2, h3⟩ := hs
        exact ⟨Bx, h1, (hg.block Bx (Array.getElem?_eq_some_iff.1 h2).1 (fun e => by obtain ⟨_, o, ho, hc⟩ := hr Bx e.symm; rw [h2] at ho; cases ho; cases hc)).trans h2, h3⟩)
      ?assign ?body ?done ?stop
    case assign =>
      rintro l pre x W K ⟨⟨v, hv, hrow, _⟩, hB⟩ hK
      have hzW := hB.size
      gi_wp2
      have hvB := (Array.getElem?_eq_some_iff.1 hv).1
      exact hK _ _ ((KeepsOthers.alloc _ _).from _) (Kq.of_ext ((Ext.refl W).alloc _) (by omega)) ⟨⟨v, ((Ext.refl W).alloc _).block hv, hrow.alloc _, trivial⟩, hB.alloc (by omega) _⟩ ⟨W.heap.size, hzW, heap_alloc_new W _, rfl⟩
    case body =>
      rintro l pre x a' W hl _ ⟨⟨v, hv, hrow, _⟩, hB⟩ ⟨Bx, hBx, hbx, rfl⟩ hlt
      have HROW := Lib.hid hrow
      have y0 : W.cell? ⟨Bx, 0, none⟩ = some (.int .i64 x.1.f) := by rw [cell_of_block hbx]; rfl
      have y1 : W.cell? ⟨Bx, 1, none⟩ = some (.int .i64 x.1.t) := by rw [cell_of_block hbx]; rfl
      have hc := hv.cell
      have hd1 := (hB.cell (p := ⟨w.heap.size + 1, 0, none⟩) (by show w.heap.size + 1 < _; omega) (by show w.heap.size + 1 ≠ _; omega)).trans (hE6.cell d1)
      have hok := HNL.out.1 x.1 x.2
      obtain ⟨x1, x2, x3⟩ := hok
      obtain ⟨u1, u2⟩ := unit_bound HB.out.1
      obtain ⟨q, hq⟩ : ∃ q, alnS ⟨x.1.f, x.1.t⟩ u = q := ⟨_, rfl⟩
      have hAl : ∀ w, Calls Try.prog 47 #[.agg #[.int .i64 x.1.f, .int .i64 x.1.t], .int .i64 u] w fun e w' => e = .returned (.tuple #[.agg #[.int .i64 q.f, .int .i64 q.t], .int .i64 0]) ∧ Ext w w' := fun w => by
        have := align_calls x.1.f x.1.t u w x1 (by omega) x3 u1 u2
        rw [hq] at this
        exact this
      have HQ : Hid (alnS x.1 u = q) := Lib.hid hq
      clear hq
      have HAL := Lib.hid hAl
      have hzW := hB.size
      clear hAl x1 x2 x3
      have hll : pre.length ≤ 100001 := by omega
      clear hrow HS4 hx4 hx34 hx2 h hbb
      gi_wp2_with (first
        | (refine ⟨trivial, ?_⟩; gi_at_call 47; refine (CallsIn.inRound l (callsIn_wide.2 (HAL.out _))).mono ?_; rintro e w7 ⟨rfl, hx7⟩; have hx8 := hx7.alloc (.cells #[.int .i64 q.f, .int .i64 q.t] 48); have hc8 := hx8.cell hc; have hv8 : Boxed (w7.alloc (.cells #[.int .i64 q.f, .int .i64 q.t] 48)) (xb + 1) 22 v := hx8.block hv; have hrow8 := ownsRow_ext HROW.out hx8; have hz8 := hx8.size)
        | (gi_at_builtin; refine wpListIn_append_own_at _ rfl _ _ 22 rfl w4.heap.size 48 i0 (.agg #[.int .i64 0, .int .i64 0]) 2 16 Try.underlying22 hi hz0 hz1 hz2 rfl (by decide) _ _ _ rfl (hrow8.alloc _) ⟨w7.heap.size + 1, 0, none⟩ 1 1 [.int .i64 q.f, .int .i64 q.t] rfl rfl (by have := news2 (w7.alloc (.cells #[.int .i64 q.f, .int .i64 q.t] 48)) (.int .i64 q.f) (.int .i64 q.t) 48; simpa using this) (by simp [Value.oneCell']) (by unfold maxLen; omega) (by omega) (by simp at hz8 ⊢; omega) ?_; intro v' w9 hown' hgrow _ hvb; have hmv := moved_new hgrow hvb; obtain ⟨g9, cap9, rfl⟩ := ownsRow_succ hown'; obtain ⟨hv1, hv2, hr2, hk2, hb2⟩ := Boxed.appendedQ hv8 (by decide) (by simp at hz8 ⊢; omega) hrow8 hown' hmv; have hc1 := hv1.cell; have hf1 := hv1.frozen))
      have hko : KeepsOthers W (w7.alloc (.cells #[.int .i64 q.f, .int .i64 q.t] 48)) := ⟨hx8.size, fun k o h _ => hx8.block h⟩
      refine ⟨(hko.trans hk2).from _, (Kq.of_ext hx8 (by omega)).trans hb2, ⟨_, hv2, ?_, trivial⟩, hB.trans ((Kq.of_ext hx8 (by omega)).trans hb2)⟩
      rw [List.length_append, List.map_append, spans_append, List.map_cons, List.map_nil, HQ.out]
      exact hr2
    case done =>
      rintro D ys W hD rfl ⟨⟨v, hv, hrow, _⟩, hB⟩ hK
      have hmap : (L.attach.map fun s => alnS s.1 u) = L.map fun s => alnS s u := by
        rw [← List.attach_map_val (l := L) (f := fun s => alnS s u)]
      rw [List.length_attach, hmap] at hrow
      have HLm : Hid (∃ Lm, (L.map fun s => alnS s u) = Lm ∧ Lm.length = L.length) := Lib.hid ⟨_, rfl, by simp⟩
      obtain ⟨Lm, hLm, hLl2⟩ := HLm.out
      clear HLm hmap
      rw [hLm] at hrow
      have HLM := Lib.hid hLm
      clear hLm
      obtain ⟨V, cv, rfl, _⟩ := own_shape hrow
      have hc := hv.cell
      have hE6W : Kq (xb + 1) w4.heap.size w4 W := (Kq.of_ext hE6 (Nat.le_refl _)).trans hB
      have t0 := (hE6W.cell (p := ⟨xb, 0, none⟩) (by show xb < _; omega) (by show xb ≠ _; omega)).trans e0
      have t1 := (hE6W.cell (p := ⟨w.heap.size + 1 + 1, 0, none⟩) (by show w.heap.size + 1 + 1 < _; omega) (by show w.heap.size + 1 + 1 ≠ _; omega)).trans (hx34.cell c2)
      have bW : Boxed W (w.heap.size + 1 + 1) 30 (.slice none 0 0) := ((hE6W.block _ (by omega) (by omega)).trans (Below.block hx34 _ z2)).trans b2
      have hSb : SAt W Ab bx := HSW.out.1.kq hE6W (fun h b o e => by have := HSW.out.2 h b o e; omega)
      have hSm : SAt W V Lm := sat_of_own hrow
      have hNm : (ofS Lm).length ≤ 100001 := by have := of_length Lm; omega
      have hR : Hid (R = andS (ofS Lm) bx) := Lib.hid (by rw [HU.out, HLM.out])
      have hMl : Hid ((ofS Lm).length + bx.length ≤ g.length + 2) := Lib.hid (by have := of_length Lm; omega)
      have HOF : Hid (∀ W', Ext W W' → Calls Try.prog 22 #[.slice V L.length cv] W' (SetPost W' (ofS Lm))) := Lib.hid fun W' hW => by
        have := of_calls V cv Lm W' (hSm.ext hW) (by omega)
        rwa [hLl2] at this
      have HAN : Hid (∀ W' A1 c1, Ext W W' → SAt W' A1 (ofS Lm) → Calls Try.prog 25 #[.agg #[.slice A1 (ofS Lm).length c1], .agg #[.slice Ab bx.length cb]] W' fun e w' => SetPost W' (andS (ofS Lm) bx) e w' ∧ (andS (ofS Lm) bx).length ≤ (ofS Lm).length + bx.length) := Lib.hid fun W' A1 c1 hW hS =>
        (and_calls A1 c1 (ofS Lm) Ab cb bx W' hS (hSb.ext hW) (norm_of _) HBN.out (by omega) (by omega))
      have HKW : Hid (Ext w w3 ∧ Ext w3 w4 ∧ Kq (xb + 1) w4.heap.size w4 W) := Lib.hid ⟨hx0, hx34, hE6W⟩
      clear hrow HS4 hx4 hx34 hx2 h hbb hE6W hSb hSm hB HSW hx0 hsq hE6 bL6 bL
      generalize ofS Lm = M at *
      generalize andS M bx = N at *
      go_wp2
      go_region_held3 (fun w' => w'.cell? ⟨xb + 1, 0, none⟩ = some (.slice V L.length cv) ∧ w'.cell? ⟨xb, 0, none⟩ = some (.slice Ab bx.length cb))
        (first | exact hS9 _ | (refine (fun hE => ⟨Ext.cell hE hc, Ext.cell hE t0⟩ : Ext W _ → _) ?_; (repeat' first | exact Ext.refl _ | exact hE8.out | exact hE9.out | refine Ext.drew ?_ | refine Ext.alloc ?_ _)))
        (first
          | (go_at_call 22
             (with_reducible refine (HOF.out _ (Ext.refl W).drew).mono ?_)
             rintro e w8 ⟨A8, c8, rfl, HS8, _, hx8⟩
             have hE8 : Hid (Ext W w8) := Lib.hid ((Ext.refl W).drew.trans hx8))
          | (go_at_call 25
             (with_reducible refine (HAN.out _ _ _ hE8.out HS8.out).mono ?_)
             rintro e w9 ⟨⟨A9, c9, rfl, HS9, HN9, hx9⟩, hl9⟩
             have hE9 : Hid (Ext W w9) := Lib.hid (hE8.out.trans hx9)
             have b9 : Boxed w9 (w.heap.size + 1 + 1) 30 (.slice none 0 0) := hE9.out.block bW
             have hS9 : ∀ u, (w9.setCell ⟨w.heap.size + 1 + 1, 0, none⟩ u).cell? ⟨xb + 1, 0, none⟩ = some (.slice V L.length cv) ∧ (w9.setCell ⟨w.heap.size + 1 + 1, 0, none⟩ u).cell? ⟨xb, 0, none⟩ = some (.slice Ab bx.length cb) := fun u => ⟨(World.cell?_setCell_other w9 _ _ u (fun e => by injection e; omega)).trans (hE9.out.cell hc), (World.cell?_setCell_other w9 _ _ u (fun e => by injection e; omega)).trans (hE9.out.cell t0)⟩
             have q9 := b9.cell
             have f9 := b9.frozen))
      obtain ⟨k1, k2, k3⟩ := HKW.out
      have hK9 : (w9.setCell ⟨w.heap.size + 1 + 1, 0, none⟩ (.slice A9 N.length c9)).heap[D]? = some (.deferred (some [])) := (Below.heap_setCell w9 ⟨w.heap.size + 1 + 1, 0, none⟩ _ D (by show D ≠ w.heap.size + 1 + 1; omega)).trans (hE9.out.block hK)
      have y1 : Boxed (w9.setCell ⟨w.heap.size + 1 + 1, 0, none⟩ (.slice A9 N.length c9)) (w.heap.size + 1 + 1) 30 (.slice A9 N.length c9) := b9.set _
      have hEW : Ext w W := Kq.ext (k1.trans k2) k3 (by omega)
      have hE10 : Ext w (w9.setCell ⟨w.heap.size + 1 + 1, 0, none⟩ (.slice A9 N.length c9)) := (hEW.trans hE9.out).setCell (by show w.heap.size ≤ w.heap.size + 1 + 1; omega) _
      have hD8 : D < w8.heap.size := Nat.lt_of_lt_of_le (Array.getElem?_eq_some_iff.1 hK).1 hE8.out.size
      have hw8 : w.heap.size + 1 + 1 < w8.heap.size := Nat.lt_of_lt_of_le (Array.getElem?_eq_some_iff.1 bW).1 hE8.out.size
      go_wp2
      refine ⟨by simp, .inl ⟨_, _, rfl, run_takeDeferred hK9, ?_⟩⟩
      have u1 := (boxed_put y1 hK9).cell
      refine ⟨.agg #[.slice A9 N.length c9], ?_, ?_⟩
      · simp [results, Try.f20, go_sem, u1]
      · refine ⟨⟨A9, c9, by rw [hR.out], Lib.hid ?_, Lib.hid (fun b o e => ?_), ?_⟩, by rw [hR.out]; exact Nat.le_trans hl9 hMl.out⟩
        · rw [hR.out]
          refine HS9.out.blocks fun b o e hbl => ?_
          have hbn := HN9.out b o e
          exact ((grownBy_putObj' _ D (.deferred none)).block b (by rw [show (w9.setCell ⟨w.heap.size + 1 + 1, 0, none⟩ (.slice A9 N.length c9)).heap.size = w9.heap.size by simp [World.setCell]]; exact hbl) (fun e2 => by cases e2; omega)).trans (Below.heap_setCell w9 ⟨w.heap.size + 1 + 1, 0, none⟩ _ b (by show b ≠ w.heap.size + 1 + 1; omega))
        · have := HN9.out b o e
          omega
        · exact Below.trans hE10 (belowK_b (w := w) (Nat.le_refl _) _ D _ _ (by omega) hK9 rfl rfl)
    case stop =>
      rintro D c pre W _ _ h _
      exact h.elim
end Go.Proofs.Ytdcdnnbijjcfmaa
