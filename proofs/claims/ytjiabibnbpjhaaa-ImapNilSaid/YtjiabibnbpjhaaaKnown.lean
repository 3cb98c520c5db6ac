/- The contracts of Map.Known and Map.Of: the bytes of which anything, or one value, is told. -/
import Derived.Test.YtjiabibnbpjhaaaAllR
import Derived.Test.YtjiabibnbpjhaaaAlike
import Derived.Test.YtjiabibnbpjhaaaMeet
namespace Go.Proofs.Ytjiabibnbpjhaaa.Rg
open Go.RowKit
attribute [local go_sem] Oper.semAt_some

theorem info_parts {i? : Option TypeInfo} {z : Value} {n m : Nat} (h : i?.map (fun i => (i.zero, i.size, i.bytes)) = some (some z, n, m)) : ∃ i, i? = some i ∧ i.zero = some z ∧ i.size = n ∧ i.bytes = m := by
  cases i? with
  | none => simp at h
  | some i => simp at h; exact ⟨i, rfl, h.1, h.2.1, h.2.2⟩
theorem boxed_put {W : World} {b D : Nat} {t : TypeId} {v : Value} (h : Boxed W b t v) (hK : W.heap[D]? = some (.deferred (some []))) : Boxed (W.putObj D (.deferred none)) b t v := by
  refine ((grownBy_putObj' W D (.deferred none)).block b (Array.getElem?_eq_some_iff.1 h).1 (fun e => ?_)).trans h
  cases e
  have h2 : W.heap[b]? = some (.cells #[v] t (0, 0)) := h
  rw [h2] at hK
  cases hK
theorem SAt.blocks {w w' : World} {A : Option Addr} {l : List Sp} (h : SAt w A l) (hb : ∀ b o, A = some ⟨b, o, none⟩ → b < w.heap.size → w'.heap[b]? = w.heap[b]?) : SAt w' A l := fun k hk => by
  obtain ⟨b, o, e, p0, p1⟩ := h k hk
  have := hb b o e (block_of_cell p0)
  exact ⟨b, o, e, (World.cell?_of_block this).trans p0, (World.cell?_of_block this).trans p1⟩
theorem moved_new {w w1 : World} {o : Obj} {v v' : Value} (hg : (w.alloc o).grownBy w1 v.ownBlock) (h4 : v'.ownBlock = v.ownBlock ∨ v'.ownBlock = some (w.alloc o).heap.size) : Moved w w1 v v' :=
  ⟨(World.grownBy_alloc w _ _).trans hg, h4.elim .inl fun e => .inr ⟨_, by simp, e⟩⟩
theorem news2 (W : World) (a b : Value) (t : TypeId) : ∀ j u, [a, b][j]? = some u → (W.alloc (.cells #[a, b] t)).cell? ((⟨W.heap.size, 0, none⟩ : Addr).add j) = some u := by
  exact World.news_of_block (heap_alloc_new W _)
theorem cell_of_block {w : World} {b i : Nat} {cs : Array Value} {t : TypeId} {o : Nat × Nat} (h : w.heap[b]? = some (.cells cs t o)) : w.cell? ⟨b, i, none⟩ = cs[i]? := by
  simp [World.cell?, h]
theorem Boxed.appendedQ {W w1 : World} {n₀ B : Nat} {t e : TypeId} {size : Nat} {v v' : Value} {k m : Nat} {xs ys : List Value}
    (hv : Boxed W B t v) (hte : t ≠ e) (hn₀ : n₀ ≤ W.heap.size) (hrow : W.ownsRow n₀ e size v k xs) (hown' : w1.ownsRow n₀ e size v' m ys) (hm : Moved W w1 v v') :
    Boxed w1 B t v ∧ Boxed (w1.setCell ⟨B, 0, none⟩ v') B t v' ∧ (w1.setCell ⟨B, 0, none⟩ v').ownsRow n₀ e size v' m ys ∧ KeepsOthers W (w1.setCell ⟨B, 0, none⟩ v') ∧ Kq B n₀ W (w1.setCell ⟨B, 0, none⟩ v') := by
  have hv1 : Boxed w1 B t v := hv.kept hm.1 (hv.not_row hte hrow)
  have hs : w1.heap.size = (w1.setCell ⟨B, 0, none⟩ v').heap.size := by simp [World.setCell]
  refine ⟨hv1, hv1.set v', hown'.kept (grownBy_setCell' w1 B v') (.inr (hv1.not_row hte hown').symm), ?_, ?_⟩
  · refine (KeepsOthers.of_grownBy hm.1 fun j o ej hj => ?_).trans (KeepsOthers.setCell _ _ _)
    rcases hrow.2 with ⟨rfl, _⟩ | ⟨g, cap, cur, rfl, _, hgb, _⟩
    · simp [Value.ownBlock] at ej
    · obtain rfl : g = j := by simpa [Value.ownBlock] using ej
      rw [hgb] at hj; cases hj; rfl
  · refine ⟨hm.1.os, hm.1.tape, hm.1.output, by rw [← hs]; exact hm.1.size, fun i hi hne => ?_⟩
    refine (Below.heap_setCell w1 ⟨B, 0, none⟩ v' i hne).trans ?_
    rcases Nat.lt_or_ge i W.heap.size with h1 | h1
    · refine hm.1.block i h1 (fun e => ?_)
      have := own_base hrow e.symm
      omega
    · omega
/-- The spans of those that are so. -/
def selS (p : Rn → Bool) (l : List Rn) : List Sp := (l.filter p).map fun r => ⟨r.f, r.t⟩
theorem sel_len (p : Rn → Bool) (l : List Rn) : (selS p l).length ≤ l.length := by
  unfold selS
  rw [List.length_map]
  exact List.length_filter_le _ _

set_option maxHeartbeats 8000000 in
set_option maxRecDepth 100000 in
theorem known_calls (mb : Nat) (l : List Rn) (w : World) (hm : Holds w mb l) (hok : ∀ r ∈ l, RnOk r) (hl : l.length ≤ 5000) :
    Calls Try.prog 33 #[.pointer (some ⟨mb, 0, none⟩)] w (SetPost w (ofS (selS (fun _ => true) l))) := by
  obtain ⟨i0, hi, hz0, hz1, hz2⟩ := info_parts infoSpan
  have hx0 : Ext w ((w.alloc (.cells #[.slice none 0 0] 65)).alloc (.cells #[.slice none 0 0] 63)) := ((Ext.refl w).alloc _).alloc _
  have bX : ((w.alloc (.cells #[.slice none 0 0] 65)).alloc (.cells #[.slice none 0 0] 63)).heap[w.heap.size + 1]? = some (.cells #[.slice none 0 0] 63 (0, 0)) := by
    have := heap_alloc_new (w.alloc (.cells #[.slice none 0 0] 65)) (.cells #[.slice none 0 0] 63)
    simpa using this
  have bR : ((w.alloc (.cells #[.slice none 0 0] 65)).alloc (.cells #[.slice none 0 0] 63)).heap[w.heap.size]? = some (.cells #[.slice none 0 0] 65 (0, 0)) :=
    ((Ext.refl (w.alloc (.cells #[.slice none 0 0] 65))).alloc _).block (heap_alloc_new w _)
  refine (callsIn_wide (n := 5)).1 ?_
  refine callsIn_of_wp_marks Try.func33 rfl trivial ?_ rfl
  simp only [Try.ntmps33, List.size_toArray, List.length_cons, List.length_nil, Nat.reduceAdd, Nat.reduceSub, Array.replicate_succ, Array.replicate_zero, List.push_toArray, List.append_toArray, List.nil_append, List.cons_append]
  refine wpIn_wide.2 ?_
  go_wp2_with fail
  generalize ((w.alloc (.cells #[.slice none 0 0] 65)).alloc (.cells #[.slice none 0 0] 63)) = w1 at *
  refine (all_seq_calls mb l w w1 hx0 hm).mono ?_
  rintro e w2 ⟨v, rfl, ⟨br, bs, A, c, rfl, hbr, hbs, hru⟩, hx2⟩
  replace bX := hx2.block bX
  replace bR := hx2.block bR
  have hx02 := hx0.trans hx2
  have hne : bs ≠ w.heap.size + 1 := fun e => by rw [e, bX] at hbs; cases hbs
  have c0 := cell_of_block hbr (i := 0)
  have hbsl := (Array.getElem?_eq_some_iff.1 hbs).1
  have hbrl := (Array.getElem?_eq_some_iff.1 hbr).1
  have hxl := (Array.getElem?_eq_some_iff.1 bX).1
  generalize hxb : w.heap.size + 1 = xb at *
  go_wp2
  have hxs := hx02.size
  have hbb : 0 < l.length → ∀ b o, A = some ⟨b, o, none⟩ → b < w2.heap.size ∧ b ≠ xb := fun h b o e => by
    obtain ⟨b', e', hlt, _⟩ := hru 0 h
    rw [e] at e'
    cases e'
    omega
  refine (wpIn_wide (n := 5)).1 ?_
  refine wpIn_rangeFunc_ownH rfl (by omega) (gf := 47) (lb := #[.pointer (some ⟨br, 0, none⟩), .pointer (some ⟨bs, 0, none⟩)]) rfl trivial (enters_of Try.func47 (by kernel_rfl) rfl)
    (all_stopsR 4 (by omega) br bs xb w2.heap.size A c l (by omega) hok hbb ⟨hbsl, hne⟩ w2 hbrl (Nat.le_refl _) (by rw [cell_of_block hbr]; rfl) (by rw [cell_of_block hbs]; rfl) (by rw [cell_of_block hbs]; rfl)
      (fun k hk => by obtain ⟨b, e, hlt, p⟩ := hru k hk; exact ⟨b, e, by omega, p⟩)) kq_t (kq_b (by omega)) (Below.refl _ _) (fun _ => rfl)
    (fun pre W => (∃ v, Boxed W xb 63 v ∧ W.ownsRow w2.heap.size 34 2 v (selS (fun _ => true) (pre.map (·.1))).length (spans (selS (fun _ => true) (pre.map (·.1)))) ∧ True) ∧ Kq xb w2.heap.size w2 W)
    (fun _ _ _ => False)
    (OwnFrom.and (Own.from (holdsRow_own w2.heap.size xb 63 34 2 (fun pre : List {r : Rn // r ∈ l} => (selS (fun _ => true) (pre.map (·.1))).length) (fun pre => spans (selS (fun _ => true) (pre.map (·.1)))) (fun _ _ => True)) _) (ownFrom_kq (by omega) (by omega)))
    (fun _ _ _ _ _ hs _ _ => hs)
    ⟨⟨_, bX, World.ownsRow_nil _ _ _ _, trivial⟩, Kq.refl _ _ _⟩
    (fun x a' W => ∃ Bx, w2.heap.size ≤ Bx ∧ W.heap[Bx]? = some (.cells #[.int .i64 x.1.f, .int .i64 x.1.t] 34 (0, 0)) ∧ a' = { tmps := #[.pointer (some ⟨mb, 0, none⟩), undef, .pointer (some ⟨w.heap.size, 0, none⟩), .pointer (some ⟨xb, 0, none⟩), .pointer (some ⟨Bx, 0, none⟩), .pointer (some ⟨mb, 0, none⟩), .func (.func 47) #[] #[.pointer (some ⟨br, 0, none⟩), .pointer (some ⟨bs, 0, none⟩)], .agg #[.int .i64 x.1.f, .int .i64 x.1.t], .int .i64 x.1.v, undef, undef, undef, undef, undef, undef], defers := [] })
    (fun x a' _ X Y row hs hg hr => by
      obtain ⟨Bx, h1, h2, h3⟩ := hs
      exact ⟨Bx, h1, (hg.block Bx (Array.getElem?_eq_some_iff.1 h2).1 (fun e => by obtain ⟨_, o, ho, hc⟩ := hr Bx e.symm; rw [h2] at ho; cases ho; cases hc)).trans h2, h3⟩)
    ?assign ?body ?done ?stop
  case assign =>
    rintro l pre x W K ⟨⟨v, hv, hrow, _⟩, hB⟩ hK
    have hzW := hB.size
    gi_wp2
    exact hK _ _ ((KeepsOthers.alloc _ _).from _) (Kq.of_ext ((Ext.refl W).alloc _) (by omega)) ⟨⟨v, ((Ext.refl W).alloc _).block hv, hrow.alloc _, trivial⟩, hB.alloc (by omega) _⟩ ⟨W.heap.size, hzW, heap_alloc_new W _, rfl⟩
  case body =>
    rintro l pre x a' W hl _ ⟨⟨v, hv, hrow, _⟩, hB⟩ ⟨Bx, hBx, hbx, rfl⟩ hlt
    have y0 : W.cell? ⟨Bx, 0, none⟩ = some (.int .i64 x.1.f) := by rw [cell_of_block hbx]; rfl
    have y1 : W.cell? ⟨Bx, 1, none⟩ = some (.int .i64 x.1.t) := by rw [cell_of_block hbx]; rfl
    have hc := hv.cell
    have hzW := hB.size
    have hsel : selS (fun _ => true) ((pre ++ [x]).map (·.1)) = selS (fun _ => true) (pre.map (·.1)) ++ [⟨x.1.f, x.1.t⟩] := by simp [selS]
    have hsl : (selS (fun _ => true) (pre.map (·.1))).length ≤ 5000 := by have := sel_len (fun _ => true) (pre.map (·.1)); rw [List.length_map] at this; omega
    have HSEL := Lib.hid hsel
    clear hsel
    generalize selS (fun _ => true) (pre.map (·.1)) = T at *
    gi_wp2_with (gi_at_builtin; refine wpListIn_append_own_at _ rfl _ _ 63 rfl w2.heap.size 34 i0 (.agg #[.int .i64 0, .int .i64 0]) 2 16 Try.underlying63 hi hz0 hz1 hz2 rfl (by decide) _ _ _ rfl (hrow.alloc _) ⟨W.heap.size, 0, none⟩ 1 1 [.int .i64 x.1.f, .int .i64 x.1.t] rfl rfl (news2 W (.int .i64 x.1.f) (.int .i64 x.1.t) 34) (by simp [Value.oneCell']) (by unfold maxLen; omega) (by omega) (by simp; omega) ?_; intro v' w9 hown' hgrow _ hvb; have hmv := moved_new hgrow hvb; obtain ⟨g9, cap9, rfl⟩ := ownsRow_succ hown'; obtain ⟨hv1, hv2, hr2, hk2, hb2⟩ := Boxed.appendedQ hv (by decide) (by omega) hrow hown' hmv; have hc1 := hv1.cell; have hf1 := hv1.frozen)
    refine ⟨hk2.from _, hb2, ⟨_, hv2, ?_, trivial⟩, hB.trans hb2⟩
    rw [HSEL.out, List.length_append, spans_append]
    exact hr2
  case done =>
    rintro D ys W hD rfl ⟨⟨v, hv, hrow, _⟩, hB⟩ hK
    have hmap : l.attach.map (·.1) = l := by simp
    rw [hmap] at hrow
    have hsl : (selS (fun _ => true) l).length ≤ 5000 := by have := sel_len (fun _ => true) l; omega
    obtain ⟨T, hT⟩ : ∃ T, selS (fun _ => true) l = T := ⟨_, rfl⟩
    rw [hT] at hrow hsl
    have HTT := Lib.hid hT
    clear hT
    obtain ⟨V, cv, rfl, _⟩ := own_shape hrow
    have hc := hv.cell
    have bW := (hB.block w.heap.size (by omega) (by omega)).trans bR
    have hSm := sat_of_own hrow
    have HOF := Lib.hid (of_calls V cv T W hSm (by omega))
    have HKW : Hid (Ext w W) := Lib.hid (Kq.ext hx02 hB (by omega))
    clear hrow hbb hB hru hm hok
    go_wp2_with fail
    refine HOF.out.mono ?_
    rintro e w9 ⟨A9, c9, rfl, HS9, HN9, hx9⟩
    have b9 : Boxed w9 w.heap.size 65 (.slice none 0 0) := hx9.block bW
    have q9 := b9.cell
    have f9 := b9.frozen
    obtain ⟨N, hN⟩ : ∃ N, ofS T = N := ⟨_, rfl⟩
    rw [hN] at HS9 ⊢
    have HNN := Lib.hid hN
    clear hN
    have hDl := (Array.getElem?_eq_some_iff.1 hK).1
    have hK9 : (w9.setCell ⟨w.heap.size, 0, none⟩ (.slice A9 N.length c9)).heap[D]? = some (.deferred (some [])) := (Below.heap_setCell w9 ⟨w.heap.size, 0, none⟩ _ D (by show D ≠ w.heap.size; omega)).trans (hx9.block hK)
    have y1 : Boxed (w9.setCell ⟨w.heap.size, 0, none⟩ (.slice A9 N.length c9)) w.heap.size 65 (.slice A9 N.length c9) := b9.set _
    have hE10 : Ext w (w9.setCell ⟨w.heap.size, 0, none⟩ (.slice A9 N.length c9)) := (HKW.out.trans hx9).setCell (Nat.le_refl _) _
    have hwW := (Array.getElem?_eq_some_iff.1 bW).1
    go_wp2
    refine ⟨by simp, .inl ⟨_, _, rfl, run_takeDeferred hK9, ?_⟩⟩
    have u1 := (boxed_put y1 hK9).cell
    refine ⟨.agg #[.slice A9 N.length c9], ?_, ?_⟩
    · simp [results, Try.f33, go_sem, u1]
    · refine ⟨A9, c9, by rw [HTT.out, HNN.out], Lib.hid ?_, Lib.hid (fun b o e => ?_), ?_⟩
      · rw [HTT.out, HNN.out]
        refine HS9.out.blocks fun b o e hbl => ?_
        have hbn := HN9.out b o e
        exact ((grownBy_putObj' _ D (.deferred none)).block b (by rw [show (w9.setCell ⟨w.heap.size, 0, none⟩ (.slice A9 N.length c9)).heap.size = w9.heap.size by simp [World.setCell]]; exact hbl) (fun e2 => by cases e2; omega)).trans (Below.heap_setCell w9 ⟨w.heap.size, 0, none⟩ _ b (by show b ≠ w.heap.size; omega))
      · have := HN9.out b o e
        omega
      · exact Below.trans hE10 (belowK_b (w := w) (Nat.le_refl _) _ D _ _ (by omega) hK9 rfl rfl)
  case stop =>
    rintro D c pre W _ _ h _
    exact h.elim
set_option maxHeartbeats 8000000 in
set_option maxRecDepth 100000 in
theorem mapOf_calls (mb : Nat) (v0 : Int) (l : List Rn) (w : World) (hm : Holds w mb l) (hok : ∀ r ∈ l, RnOk r) (hl : l.length ≤ 5000) :
    Calls Try.prog 30 #[.pointer (some ⟨mb, 0, none⟩), .int .i64 v0] w (SetPost w (ofS (selS (fun r => r.v == v0) l))) := by
  obtain ⟨i0, hi, hz0, hz1, hz2⟩ := info_parts infoSpan
  have hx0 : Ext w (((w.alloc (.cells #[.int .i64 v0] 3)).alloc (.cells #[.slice none 0 0] 65)).alloc (.cells #[.slice none 0 0] 63)) := (((Ext.refl w).alloc _).alloc _).alloc _
  have bX : (((w.alloc (.cells #[.int .i64 v0] 3)).alloc (.cells #[.slice none 0 0] 65)).alloc (.cells #[.slice none 0 0] 63)).heap[w.heap.size + 1 + 1]? = some (.cells #[.slice none 0 0] 63 (0, 0)) := by
    have := heap_alloc_new ((w.alloc (.cells #[.int .i64 v0] 3)).alloc (.cells #[.slice none 0 0] 65)) (.cells #[.slice none 0 0] 63)
    simpa using this
  have bR : (((w.alloc (.cells #[.int .i64 v0] 3)).alloc (.cells #[.slice none 0 0] 65)).alloc (.cells #[.slice none 0 0] 63)).heap[w.heap.size + 1]? = some (.cells #[.slice none 0 0] 65 (0, 0)) := by
    refine ((Ext.refl ((w.alloc (.cells #[.int .i64 v0] 3)).alloc (.cells #[.slice none 0 0] 65))).alloc _).block ?_
    have := heap_alloc_new (w.alloc (.cells #[.int .i64 v0] 3)) (.cells #[.slice none 0 0] 65)
    simpa using this
  have bV : (((w.alloc (.cells #[.int .i64 v0] 3)).alloc (.cells #[.slice none 0 0] 65)).alloc (.cells #[.slice none 0 0] 63)).heap[w.heap.size]? = some (.cells #[.int .i64 v0] 3 (0, 0)) :=
    (((Ext.refl (w.alloc (.cells #[.int .i64 v0] 3))).alloc _).alloc _).block (heap_alloc_new w _)
  refine (callsIn_wide (n := 5)).1 ?_
  refine callsIn_of_wp_marks Try.func30 rfl trivial ?_ rfl
  simp only [Try.ntmps30, List.size_toArray, List.length_cons, List.length_nil, Nat.reduceAdd, Nat.reduceSub, Array.replicate_succ, Array.replicate_zero, List.push_toArray, List.append_toArray, List.nil_append, List.cons_append]
  refine wpIn_wide.2 ?_
  go_wp2_with fail
  generalize (((w.alloc (.cells #[.int .i64 v0] 3)).alloc (.cells #[.slice none 0 0] 65)).alloc (.cells #[.slice none 0 0] 63)) = w1 at *
  refine (all_seq_calls mb l w w1 hx0 hm).mono ?_
  rintro e w2 ⟨v, rfl, ⟨br, bs, A, c, rfl, hbr, hbs, hru⟩, hx2⟩
  replace bX := hx2.block bX
  replace bR := hx2.block bR
  replace bV := hx2.block bV
  have hx02 := hx0.trans hx2
  have hne : bs ≠ w.heap.size + 1 + 1 := fun e => by rw [e, bX] at hbs; cases hbs
  have c0 := cell_of_block hbr (i := 0)
  have hbsl := (Array.getElem?_eq_some_iff.1 hbs).1
  have hbrl := (Array.getElem?_eq_some_iff.1 hbr).1
  have hxl := (Array.getElem?_eq_some_iff.1 bX).1
  have hrl := (Array.getElem?_eq_some_iff.1 bR).1
  generalize hrb : w.heap.size + 1 = rb at *
  generalize hxb : rb + 1 = xb at *
  go_wp2
  have hxs := hx02.size
  have hbb : 0 < l.length → ∀ b o, A = some ⟨b, o, none⟩ → b < w2.heap.size ∧ b ≠ xb := fun h b o e => by
    obtain ⟨b', e', hlt, _⟩ := hru 0 h
    rw [e] at e'
    cases e'
    omega
  refine (wpIn_wide (n := 5)).1 ?_
  refine wpIn_rangeFunc_ownH rfl (by omega) (gf := 47) (lb := #[.pointer (some ⟨br, 0, none⟩), .pointer (some ⟨bs, 0, none⟩)]) rfl trivial (enters_of Try.func47 (by kernel_rfl) rfl)
    (all_stopsR 4 (by omega) br bs xb w2.heap.size A c l (by omega) hok hbb ⟨hbsl, hne⟩ w2 hbrl (Nat.le_refl _) (by rw [cell_of_block hbr]; rfl) (by rw [cell_of_block hbs]; rfl) (by rw [cell_of_block hbs]; rfl)
      (fun k hk => by obtain ⟨b, e, hlt, p⟩ := hru k hk; exact ⟨b, e, by omega, p⟩)) kq_t (kq_b (by omega)) (Below.refl _ _) (fun _ => rfl)
    (fun pre W => (∃ v, Boxed W xb 63 v ∧ W.ownsRow w2.heap.size 34 2 v (selS (fun r => r.v == v0) (pre.map (·.1))).length (spans (selS (fun r => r.v == v0) (pre.map (·.1)))) ∧ True) ∧ Kq xb w2.heap.size w2 W)
    (fun _ _ _ => False)
    (OwnFrom.and (Own.from (holdsRow_own w2.heap.size xb 63 34 2 (fun pre : List {r : Rn // r ∈ l} => (selS (fun r => r.v == v0) (pre.map (·.1))).length) (fun pre => spans (selS (fun r => r.v == v0) (pre.map (·.1)))) (fun _ _ => True)) _) (ownFrom_kq (by omega) (by omega)))
    (fun _ _ _ _ _ hs _ _ => hs)
    ⟨⟨_, bX, World.ownsRow_nil _ _ _ _, trivial⟩, Kq.refl _ _ _⟩
    (fun x a' W => ∃ Bx, w2.heap.size ≤ Bx ∧ W.heap[Bx]? = some (.cells #[.int .i64 x.1.f, .int .i64 x.1.t] 34 (0, 0)) ∧ a' = { tmps := #[.pointer (some ⟨mb, 0, none⟩), .int .i64 v0, undef, .pointer (some ⟨w.heap.size, 0, none⟩), .pointer (some ⟨rb, 0, none⟩), .pointer (some ⟨xb, 0, none⟩), .pointer (some ⟨Bx, 0, none⟩), .int .i64 x.1.v, .pointer (some ⟨mb, 0, none⟩), .func (.func 47) #[] #[.pointer (some ⟨br, 0, none⟩), .pointer (some ⟨bs, 0, none⟩)], .agg #[.int .i64 x.1.f, .int .i64 x.1.t], .int .i64 x.1.v, undef, undef, undef, undef, undef, undef, undef, undef, undef], defers := [] })
    (fun x a' _ X Y row hs hg hr => by
      obtain ⟨Bx, h1, h2, h3⟩ := hs
      exact ⟨Bx, h1, (hg.block Bx (Array.getElem?_eq_some_iff.1 h2).1 (fun e => by obtain ⟨_, o, ho, hc⟩ := hr Bx e.symm; rw [h2] at ho; cases ho; cases hc)).trans h2, h3⟩)
    ?assign ?body ?done ?stop
  case assign =>
    rintro l pre x W K ⟨⟨v, hv, hrow, _⟩, hB⟩ hK
    have hzW := hB.size
    gi_wp2
    exact hK _ _ ((KeepsOthers.alloc _ _).from _) (Kq.of_ext ((Ext.refl W).alloc _) (by omega)) ⟨⟨v, ((Ext.refl W).alloc _).block hv, hrow.alloc _, trivial⟩, hB.alloc (by omega) _⟩ ⟨W.heap.size, hzW, heap_alloc_new W _, rfl⟩
  case body =>
    rintro l pre x a' W hl _ ⟨⟨v, hv, hrow, _⟩, hB⟩ ⟨Bx, hBx, hbx, rfl⟩ hlt
    obtain ⟨VO, cO, rfl, _⟩ := own_shape hrow
    have y0 : W.cell? ⟨Bx, 0, none⟩ = some (.int .i64 x.1.f) := by rw [cell_of_block hbx]; rfl
    have y1 : W.cell? ⟨Bx, 1, none⟩ = some (.int .i64 x.1.t) := by rw [cell_of_block hbx]; rfl
    have hc := hv.cell
    have hzW := hB.size
    have hv0 := (hB.cell (p := ⟨w.heap.size, 0, none⟩) (by show w.heap.size < _; omega) (by show w.heap.size ≠ _; omega)).trans (cell_of_block bV)
    replace hv0 : W.cell? ⟨w.heap.size, 0, none⟩ = some (.int .i64 v0) := hv0
    have hsel : selS (fun r => r.v == v0) ((pre ++ [x]).map (·.1)) = selS (fun r => r.v == v0) (pre.map (·.1)) ++ (if x.1.v == v0 then [⟨x.1.f, x.1.t⟩] else []) := by
      simp [selS, List.filter_append]
      cases h : x.1.v == v0 <;> simp_all
    have hsl : (selS (fun r => r.v == v0) (pre.map (·.1))).length ≤ 5000 := by have := sel_len (fun r => r.v == v0) (pre.map (·.1)); rw [List.length_map] at this; omega
    obtain ⟨qb, hqb⟩ : ∃ qb, (x.1.v == v0) = qb := ⟨_, rfl⟩
    rw [hqb] at hsel
    have HAL : Hid (∀ W, Calls Try.prog 45 #[.int .i64 x.1.v, .int .i64 v0] W fun e w' => e = .returned (.bool qb) ∧ Ext W w') := Lib.hid fun W => by
      have := alike_calls x.1.v v0 W
      rw [hqb] at this
      exact this
    have HSEL := Lib.hid hsel
    clear hsel hqb
    generalize selS (fun r => r.v == v0) (pre.map (·.1)) = T at *
    have HROW := Lib.hid hrow
    have HBW := Lib.hid hB
    clear hrow hB
    cases qb
    · gi_wp2_with (refine ⟨trivial, ?_⟩; gi_at_call 45; refine (CallsIn.inRound l (callsIn_wide.2 (HAL.out _))).mono ?_; rintro e w7 ⟨rfl, hx7⟩)
      refine ⟨(⟨hx7.size, fun k o h _ => hx7.block h⟩ : KeepsOthers W w7).from _, Kq.of_ext hx7 (by omega), ⟨_, hx7.block hv, ?_, trivial⟩, HBW.out.trans (Kq.of_ext hx7 (by omega))⟩
      rw [HSEL.out]
      simpa using ownsRow_ext HROW.out hx7
    · gi_wp2_with (first
        | (refine ⟨trivial, ?_⟩; gi_at_call 45; refine (CallsIn.inRound l (callsIn_wide.2 (HAL.out _))).mono ?_; rintro e w7 ⟨rfl, hx7⟩; have hc8 := hx7.cell hc; have hv8 : Boxed w7 xb 63 (.slice VO T.length cO) := hx7.block hv; have hrow8 := ownsRow_ext HROW.out hx7; have hz8 := hx7.size; have y07 := hx7.cell y0; have y17 := hx7.cell y1)
        | (gi_at_builtin; refine wpListIn_append_own_at _ rfl _ _ 63 rfl w2.heap.size 34 i0 (.agg #[.int .i64 0, .int .i64 0]) 2 16 Try.underlying63 hi hz0 hz1 hz2 rfl (by decide) _ _ _ rfl (hrow8.alloc _) ⟨w7.heap.size, 0, none⟩ 1 1 [.int .i64 x.1.f, .int .i64 x.1.t] rfl rfl (news2 w7 (.int .i64 x.1.f) (.int .i64 x.1.t) 34) (by simp [Value.oneCell']) (by unfold maxLen; omega) (by omega) (by simp; omega) ?_; intro v' w9 hown' hgrow _ hvb; have hmv := moved_new hgrow hvb; obtain ⟨g9, cap9, rfl⟩ := ownsRow_succ hown'; obtain ⟨hv1, hv2, hr2, hk2, hb2⟩ := Boxed.appendedQ hv8 (by decide) (by omega) hrow8 hown' hmv; have hc1 := hv1.cell; have hf1 := hv1.frozen))
      have hko : KeepsOthers W w7 := ⟨hx7.size, fun k o h _ => hx7.block h⟩
      refine ⟨(hko.trans hk2).from _, (Kq.of_ext hx7 (by omega)).trans hb2, ⟨_, hv2, ?_, trivial⟩, HBW.out.trans ((Kq.of_ext hx7 (by omega)).trans hb2)⟩
      rw [HSEL.out]
      simp only [if_true, List.length_append, spans_append]
      exact hr2
  case done =>
    rintro D ys W hD rfl ⟨⟨v, hv, hrow, _⟩, hB⟩ hK
    have hmap : l.attach.map (·.1) = l := by simp
    rw [hmap] at hrow
    have hsl : (selS (fun r => r.v == v0) l).length ≤ 5000 := by have := sel_len (fun r => r.v == v0) l; omega
    obtain ⟨T, hT⟩ : ∃ T, selS (fun r => r.v == v0) l = T := ⟨_, rfl⟩
    rw [hT] at hrow hsl
    have HTT := Lib.hid hT
    clear hT
    obtain ⟨V, cv, rfl, _⟩ := own_shape hrow
    have hc := hv.cell
    have bW := (hB.block rb (by omega) (by omega)).trans bR
    have hSm := sat_of_own hrow
    have HOF := Lib.hid (of_calls V cv T W hSm (by omega))
    have HKW : Hid (Ext w W) := Lib.hid (Kq.ext hx02 hB (by omega))
    clear hrow hbb hB hru hm hok
    go_wp2_with fail
    refine HOF.out.mono ?_
    rintro e w9 ⟨A9, c9, rfl, HS9, HN9, hx9⟩
    have b9 : Boxed w9 rb 65 (.slice none 0 0) := hx9.block bW
    have q9 := b9.cell
    have f9 := b9.frozen
    obtain ⟨N, hN⟩ : ∃ N, ofS T = N := ⟨_, rfl⟩
    rw [hN] at HS9 ⊢
    have HNN := Lib.hid hN
    clear hN
    have hDl := (Array.getElem?_eq_some_iff.1 hK).1
    have hK9 : (w9.setCell ⟨rb, 0, none⟩ (.slice A9 N.length c9)).heap[D]? = some (.deferred (some [])) := (Below.heap_setCell w9 ⟨rb, 0, none⟩ _ D (by show D ≠ rb; omega)).trans (hx9.block hK)
    have y1 : Boxed (w9.setCell ⟨rb, 0, none⟩ (.slice A9 N.length c9)) rb 65 (.slice A9 N.length c9) := b9.set _
    have hE10 : Ext w (w9.setCell ⟨rb, 0, none⟩ (.slice A9 N.length c9)) := (HKW.out.trans hx9).setCell (by show w.heap.size ≤ rb; omega) _
    have hwW := (Array.getElem?_eq_some_iff.1 bW).1
    go_wp2
    refine ⟨by simp, .inl ⟨_, _, rfl, run_takeDeferred hK9, ?_⟩⟩
    have u1 := (boxed_put y1 hK9).cell
    refine ⟨.agg #[.slice A9 N.length c9], ?_, ?_⟩
    · simp [results, Try.f30, go_sem, u1]
    · refine ⟨A9, c9, by rw [HTT.out, HNN.out], Lib.hid ?_, Lib.hid (fun b o e => ?_), ?_⟩
      · rw [HTT.out, HNN.out]
        refine HS9.out.blocks fun b o e hbl => ?_
        have hbn := HN9.out b o e
        exact ((grownBy_putObj' _ D (.deferred none)).block b (by rw [show (w9.setCell ⟨rb, 0, none⟩ (.slice A9 N.length c9)).heap.size = w9.heap.size by simp [World.setCell]]; exact hbl) (fun e2 => by cases e2; omega)).trans (Below.heap_setCell w9 ⟨rb, 0, none⟩ _ b (by show b ≠ rb; omega))
      · have := HN9.out b o e
        omega
      · exact Below.trans hE10 (belowK_b (w := w) (Nat.le_refl _) _ D _ _ (by omega) hK9 rfl rfl)
  case stop =>
    rintro D c pre W _ _ h _
    exact h.elim
end Go.Proofs.Ytjiabibnbpjhaaa.Rg
