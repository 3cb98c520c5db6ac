/- What a nil map tells: the contracts. -/
import Derived.Test.YtjiabibnbpjhaaaKnown
import Derived.Test.YtjiabibnbpjhaaaAll
import Derived.Test.YtjiabibnbpjhaaaGet
namespace Go.Proofs.Ytjiabibnbpjhaaa.Rg
open Go.RowKit
attribute [local go_sem] Oper.semAt_some

set_option maxRecDepth 100000 in
theorem in_none (f t : Int) (w0 w : World) :
    Calls Try.prog 38 #[.pointer none, .agg #[.int .i64 f, .int .i64 t]] w (InPost w0.heap.size w [] f t) := by
  have hmf : ∀ (fn : Fn) (first cap : Array Value) (w : World), (Instr.makeFunc fn first cap).run Try.prog w = .ok (.func fn first cap) w := fun _ _ _ _ => rfl
  go_enter Try.func38, Try.ntmps38
  go_wp2
  go_ret
  have hx : Ext w ((w.alloc (.cells #[.int .i64 f, .int .i64 t] 34)).alloc (.cells #[.slice none 0 0] 71)) := ((Ext.refl w).alloc _).alloc _
  refine ⟨_, rfl, ⟨w.heap.size + 1, w.heap.size, none, 0, rfl, ?_, ?_, fun k hk => absurd hk (by simp)⟩, hx⟩
  · have := heap_alloc_new (w.alloc (.cells #[.int .i64 f, .int .i64 t] 34)) (.cells #[.slice none 0 0] 71)
    simpa using this
  · exact ((Ext.refl _).alloc _).block (heap_alloc_new w _)
set_option maxRecDepth 100000 in
theorem all_seq_none (w0 w : World) :
    Calls Try.prog 19 #[.pointer none] w (InPost w0.heap.size w [] 0 4611686018427387904) := by
  go_enter Try.func19, Try.ntmps19
  go_wp2_with fail
  refine (in_none _ _ w0 _).mono ?_
  rintro e w1 ⟨v, rfl, h1, h2⟩
  go_wp2
  go_ret
  exact ⟨_, rfl, h1, h2⟩
theorem get_none (x : Int) (w : World) :
    Calls Try.prog 26 #[.pointer none, .int .i64 x] w fun e w' => e = .returned (.tuple #[.int .i64 0, .agg #[.int .i64 0, .int .i64 0], .bool false]) ∧ Ext w w' := by
  go_enter Try.func26, Try.ntmps26
  go_wp2
  refine bodyPost_ret (v := .tuple #[.int .i64 0, .agg #[.int .i64 0, .int .i64 0], .bool false]) (by simp [results, Try.results26, go_sem]) rfl ⟨rfl, ?_⟩
  exact (Ext.refl w).alloc _
theorem len_none (w : World) :
    Calls Try.prog 14 #[.pointer none] w fun e w' => e = .returned (.int .i64 0) ∧ Ext w w' := by
  go_enter Try.func14, Try.ntmps14
  go_wp2
  go_ret
  exact ⟨rfl, Ext.refl w⟩
theorem clone_none (w : World) :
    Calls Try.prog 21 #[.pointer none] w fun e w' => e = .returned (.pointer none) ∧ Ext w w' := by
  go_enter Try.func21, Try.ntmps21
  go_wp2
  go_ret
  exact ⟨rfl, Ext.refl w⟩
set_option maxRecDepth 100000 in
theorem all_none (w : World) :
    Calls Try.prog 16 #[.pointer none] w (ListPost w (([] : List Rn))) := by
  have hl0 : ([] : List Rn).length = 0 := rfl
  have hmf : ∀ (fn : Fn) (first cap : Array Value) (w : World), (Instr.makeFunc fn first cap).run Try.prog w = .ok (.func fn first cap) w := fun _ _ _ _ => rfl
  have hxo : Ext w (w.alloc (.cells #[.slice none 0 0] 27)) := (Ext.refl w).alloc _
  have hob : (w.alloc (.cells #[.slice none 0 0] 27)).heap[w.heap.size]? = some (.cells #[.slice none 0 0] 27 (0, 0)) := heap_alloc_new w _
  go_enter Try.func16, Try.ntmps16
  go_wp2_with fail
  refine (all_seq_none w _).mono ?_
  rintro e w1 ⟨v, rfl, ⟨br, bs, A, c, rfl, h1, h2, h3⟩, hx⟩
  replace hob := hx.block hob
  have hO : Out w.heap.size w.heap.size [] w1 := ⟨_, hob, World.ownsRow_nil _ _ _ _, Nat.le_refl _⟩
  have hx1 := hxo.trans hx
  have hne1 : br ≠ w.heap.size := by rintro rfl; rw [hob] at h1; injection h1 with h1; injection h1 with _ h1; exact absurd h1 (by decide)
  have hne2 : bs ≠ w.heap.size := by rintro rfl; rw [hob] at h2; injection h2 with h2; injection h2 with _ h2; exact absurd h2 (by decide)
  have hz1 : w.heap.size + 1 ≤ w1.heap.size := by have := hx.size; simpa using this
  clear hob hx hxo
  go_wp2_with fail
  refine (iter_calls 37 w.heap.size w.heap.size bs br enters37 [] A c 0 4611686018427387904 (Out w.heap.size w.heap.size) (fun _ _ => False) (fun L a b h hx => h.ext hx) ?_ w1 (by omega) h1 h2 hne1 hne2 h3 (by omega) hO).mono ?_
  · exact tell_hy (by simp) (fun L r w a b c => all1_calls _ _ L r w a b c)
  rintro e w2 ⟨rfl, hk, hJ | ⟨_, _, hJ⟩⟩
  · obtain ⟨v, ho, hown, _⟩ := hJ
    have o0 : w2.cell? ⟨w.heap.size, 0, none⟩ = some v := by rw [cell_of_row w2 _ 0 _ _ _ ho]; rfl
    obtain ⟨A', c', rfl, _⟩ := own_shape hown
    have hx2 := ext_of_kp hx1 hk
    clear h1 h2 h3 hO hx1 hne1 hne2 ho hk
    go_wp2
    go_ret
    exact ⟨_, rfl, hown, hx2⟩
  · exact hJ.elim

set_option maxRecDepth 100000 in
theorem inl_none (f t : Int) (w : World) :
    Calls Try.prog 17 #[.pointer none, .agg #[.int .i64 f, .int .i64 t]] w (ListPost w (([] : List Rn))) := by
  have hl0 : ([] : List Rn).length = 0 := rfl
  have hmf : ∀ (fn : Fn) (first cap : Array Value) (w : World), (Instr.makeFunc fn first cap).run Try.prog w = .ok (.func fn first cap) w := fun _ _ _ _ => rfl
  have hxo : Ext w ((w.alloc (.cells #[.int .i64 f, .int .i64 t] 34)).alloc (.cells #[.slice none 0 0] 27)) := ((Ext.refl w).alloc _).alloc _
  have hob : ((w.alloc (.cells #[.int .i64 f, .int .i64 t] 34)).alloc (.cells #[.slice none 0 0] 27)).heap[w.heap.size + 1]? = some (.cells #[.slice none 0 0] 27 (0, 0)) := by
    have := heap_alloc_new (w.alloc (.cells #[.int .i64 f, .int .i64 t] 34)) (.cells #[.slice none 0 0] 27)
    simpa using this
  go_enter Try.func17, Try.ntmps17
  go_wp2_with fail
  refine (in_none _ _ w _).mono ?_
  rintro e w1 ⟨v, rfl, ⟨br, bs, A, c, rfl, h1, h2, h3⟩, hx⟩
  replace hob := hx.block hob
  have hO : Out w.heap.size (w.heap.size + 1) [] w1 := ⟨_, hob, World.ownsRow_nil _ _ _ _, by omega⟩
  have hx1 := hxo.trans hx
  have hne1 : br ≠ w.heap.size + 1 := by rintro rfl; rw [hob] at h1; injection h1 with h1; injection h1 with _ h1; exact absurd h1 (by decide)
  have hne2 : bs ≠ w.heap.size + 1 := by rintro rfl; rw [hob] at h2; injection h2 with h2; injection h2 with _ h2; exact absurd h2 (by decide)
  have hz1 : w.heap.size + 1 + 1 ≤ w1.heap.size := by have := hx.size; simpa using this
  clear hob hx hxo
  go_wp2_with fail
  refine (iter_calls 39 (w.heap.size + 1) w.heap.size bs br enters39 [] A c f t (Out w.heap.size (w.heap.size + 1)) (fun _ _ => False) (fun L a b h hx => h.ext hx) ?_ w1 (by omega) h1 h2 hne1 hne2 h3 (by omega) hO).mono ?_
  · exact tell_hy (by simp) (fun L r w a b c => in1_calls _ _ L r w a b c)
  rintro e w2 ⟨rfl, hk, hJ | ⟨_, _, hJ⟩⟩
  · obtain ⟨v, ho, hown, _⟩ := hJ
    have o0 : w2.cell? ⟨w.heap.size + 1, 0, none⟩ = some v := by rw [cell_of_row w2 _ 0 _ _ _ ho]; rfl
    obtain ⟨A', c', rfl, _⟩ := own_shape hown
    have hx2 := ext_of_kp hx1 hk
    clear h1 h2 h3 hO hx1 hne1 hne2 ho hk
    go_wp2
    go_ret
    exact ⟨_, rfl, hown, hx2⟩
  · exact hJ.elim
set_option maxHeartbeats 8000000 in
set_option maxRecDepth 100000 in
theorem known_none (w : World) :
    Calls Try.prog 33 #[.pointer none] w (SetPost w (ofS (selS (fun _ => true) []))) := by
  have hl0 : ([] : List Rn).length = 0 := rfl
  obtain ⟨i0, hi, hz0, hz1, hz2⟩ := info_parts infoSpan
  have hx0 : Ext w ((w.alloc (.cells #[.slice none 0 0] 65)).alloc (.cells #[.slice none 0 0] 63)) := ((Ext.refl w).alloc _).alloc _
  have bX : ((w.alloc (.cells #[.slice none 0 0] 65)).alloc (.cells #[.slice none 0 0] 63)).heap[w.heap.size + 1]? = some (.cells #[.slice none 0 0] 63 (0, 0)) := by
    have := heap_alloc_new (w.alloc (.cells #[.slice none 0 0] 65)) (.cells #[.slice none 0 0] 63)
    simpa using this
  have bR : ((w.alloc (.cells #[.slice none 0 0] 65)).alloc (.cells #[.slice none 0 0] 63)).heap[w.heap.size]? = some (.cells #[.slice none 0 0] 65 (0, 0)) :=
    ((Ext.refl (w.alloc (.cells #[.slice none 0 0] 65))).alloc _).block (heap_alloc_new w _)
  refine (callsIn_wide (n := 5)).1 ?_
  refine callsIn_of_wp_marks Try.func33 rfl trivial ?_ rfl
  simp only [Try.ntmps33, List.size_toArray, List.length_cons, List.length_nil, Nat.reduceAdd, Nat.reduceSub, Array.replicate_succ, Array.replicate_zero, List.push_toArray, List.append_toArray, List.nil_append, List.cons_append]
  refine wpIn_wide.2 ?_
  go_wp2_with fail
  generalize ((w.alloc (.cells #[.slice none 0 0] 65)).alloc (.cells #[.slice none 0 0] 63)) = w1 at *
  refine (all_seq_none w w1).mono ?_
  rintro e w2 ⟨v, rfl, ⟨br, bs, A, c, rfl, hbr, hbs, hru⟩, hx2⟩
  replace bX := hx2.block bX
  replace bR := hx2.block bR
  have hx02 := hx0.trans hx2
  have hne : bs ≠ w.heap.size + 1 := fun e => by rw [e, bX] at hbs; cases hbs
  have c0 := cell_of_block hbr (i := 0)
  have hbsl := (Array.getElem?_eq_some_iff.1 hbs).1
  have hbrl := (Array.getElem?_eq_some_iff.1 hbr).1
  have hxl := (Array.getElem?_eq_some_iff.1 bX).1
  generalize hxb : w.heap.size + 1 = xb at *
  go_wp2
  have hxs := hx02.size
  have hbb : 0 < ([] : List Rn).length → ∀ b o, A = some ⟨b, o, none⟩ → b < w2.heap.size ∧ b ≠ xb := fun h b o e => by
    obtain ⟨b', e', hlt, _⟩ := hru 0 h
    rw [e] at e'
    cases e'
    omega
  refine (wpIn_wide (n := 5)).1 ?_
  refine wpIn_rangeFunc_ownH rfl (by omega) (gf := 47) (lb := #[.pointer (some ⟨br, 0, none⟩), .pointer (some ⟨bs, 0, none⟩)]) rfl trivial (enters_of Try.func47 (by kernel_rfl) rfl)
    (all_stopsR 4 (by omega) br bs xb w2.heap.size A c [] (by simp) (by simp) hbb ⟨hbsl, hne⟩ w2 hbrl (Nat.le_refl _) (by rw [cell_of_block hbr]; rfl) (by rw [cell_of_block hbs]; rfl) (by rw [cell_of_block hbs]; rfl)
      (fun k hk => by obtain ⟨b, e, hlt, p⟩ := hru k hk; exact ⟨b, e, by omega, p⟩)) kq_t (kq_b (by omega)) (Below.refl _ _) (fun _ => rfl)
    (fun pre W => (∃ v, Boxed W xb 63 v ∧ W.ownsRow w2.heap.size 34 2 v (selS (fun _ => true) (pre.map (·.1))).length (spans (selS (fun _ => true) (pre.map (·.1)))) ∧ True) ∧ Kq xb w2.heap.size w2 W)
    (fun _ _ _ => False)
    (OwnFrom.and (Own.from (holdsRow_own w2.heap.size xb 63 34 2 (fun pre : List {r : Rn // r ∈ ([] : List Rn)} => (selS (fun _ => true) (pre.map (·.1))).length) (fun pre => spans (selS (fun _ => true) (pre.map (·.1)))) (fun _ _ => True)) _) (ownFrom_kq (by omega) (by omega)))
    (fun _ _ _ _ _ hs _ _ => hs)
    ⟨⟨_, bX, World.ownsRow_nil _ _ _ _, trivial⟩, Kq.refl _ _ _⟩
    (fun x a' W => ∃ Bx, w2.heap.size ≤ Bx ∧ W.heap[Bx]? = some (.cells #[.int .i64 x.1.f, .int .i64 x.1.t] 34 (0, 0)) ∧ a' = { tmps := #[.pointer none, undef, .pointer (some ⟨w.heap.size, 0, none⟩), .pointer (some ⟨xb, 0, none⟩), .pointer (some ⟨Bx, 0, none⟩), .pointer none, .func (.func 47) #[] #[.pointer (some ⟨br, 0, none⟩), .pointer (some ⟨bs, 0, none⟩)], .agg #[.int .i64 x.1.f, .int .i64 x.1.t], .int .i64 x.1.v, undef, undef, undef, undef, undef, undef], defers := [] })
    (fun x a' _ X Y row hs hg hr => by
      obtain ⟨Bx, h1, h2, h3⟩ := hs
      exact ⟨Bx, h1, (hg.block Bx (Array.getElem?_eq_some_iff.1 h2).1 (fun e => by obtain ⟨_, o, ho, hc⟩ := hr Bx e.symm; rw [h2] at ho; cases ho; cases hc)).trans h2, h3⟩)
    ?assign ?body ?done ?stop
  case assign =>
    rintro l pre x W K ⟨⟨v, hv, hrow, _⟩, hB⟩ hK
    have hzW := hB.size
    gi_wp2
    exact hK _ _ ((KeepsOthers.alloc _ _).from _) (Kq.of_ext ((Ext.refl W).alloc _) (by omega)) ⟨⟨v, ((Ext.refl W).alloc _).block hv, hrow.alloc _, trivial⟩, hB.alloc (by omega) _⟩ ⟨W.heap.size, hzW, heap_alloc_new W _, rfl⟩
  case body =>
    rintro l pre x
    exact absurd x.2 (by simp)
  case done =>
    rintro D ys W hD rfl ⟨⟨v, hv, hrow, _⟩, hB⟩ hK
    have hmap : ([] : List Rn).attach.map (·.1) = [] := by simp
    rw [hmap] at hrow
    have hsl : (selS (fun _ => true) []).length ≤ 5000 := by have := sel_len (fun _ => true) []; omega
    obtain ⟨T, hT⟩ : ∃ T, selS (fun _ => true) [] = T := ⟨_, rfl⟩
    rw [hT] at hrow hsl
    have HTT := Lib.hid hT
    clear hT
    obtain ⟨V, cv, rfl, _⟩ := own_shape hrow
    have hc := hv.cell
    have bW := (hB.block w.heap.size (by omega) (by omega)).trans bR
    have hSm := sat_of_own hrow
    have HOF := Lib.hid (of_calls V cv T W hSm (by omega))
    have HKW : Hid (Ext w W) := Lib.hid (Kq.ext hx02 hB (by omega))
    clear hrow hbb hB hru
    go_wp2_with fail
    refine HOF.out.mono ?_
    rintro e w9 ⟨A9, c9, rfl, HS9, HN9, hx9⟩
    have b9 : Boxed w9 w.heap.size 65 (.slice none 0 0) := hx9.block bW
    have q9 := b9.cell
    have f9 := b9.frozen
    obtain ⟨N, hN⟩ : ∃ N, ofS T = N := ⟨_, rfl⟩
    rw [hN] at HS9 ⊢
    have HNN := Lib.hid hN
    clear hN
    have hDl := (Array.getElem?_eq_some_iff.1 hK).1
    have hK9 : (w9.setCell ⟨w.heap.size, 0, none⟩ (.slice A9 N.length c9)).heap[D]? = some (.deferred (some [])) := (Below.heap_setCell w9 ⟨w.heap.size, 0, none⟩ _ D (by show D ≠ w.heap.size; omega)).trans (hx9.block hK)
    have y1 : Boxed (w9.setCell ⟨w.heap.size, 0, none⟩ (.slice A9 N.length c9)) w.heap.size 65 (.slice A9 N.length c9) := b9.set _
    have hE10 : Ext w (w9.setCell ⟨w.heap.size, 0, none⟩ (.slice A9 N.length c9)) := (HKW.out.trans hx9).setCell (Nat.le_refl _) _
    have hwW := (Array.getElem?_eq_some_iff.1 bW).1
    go_wp2
    refine ⟨by simp, .inl ⟨_, _, rfl, run_takeDeferred hK9, ?_⟩⟩
    have u1 := (boxed_put y1 hK9).cell
    refine ⟨.agg #[.slice A9 N.length c9], ?_, ?_⟩
    · simp [results, Try.f33, go_sem, u1]
    · refine ⟨A9, c9, by rw [HTT.out, HNN.out], Lib.hid ?_, Lib.hid (fun b o e => ?_), ?_⟩
      · rw [HTT.out, HNN.out]
        refine HS9.out.blocks fun b o e hbl => ?_
        have hbn := HN9.out b o e
        exact ((grownBy_putObj' _ D (.deferred none)).block b (by rw [show (w9.setCell ⟨w.heap.size, 0, none⟩ (.slice A9 N.length c9)).heap.size = w9.heap.size by simp [World.setCell]]; exact hbl) (fun e2 => by cases e2; omega)).trans (Below.heap_setCell w9 ⟨w.heap.size, 0, none⟩ _ b (by show b ≠ w.heap.size; omega))
      · have := HN9.out b o e
        omega
      · exact Below.trans hE10 (belowK_b (w := w) (Nat.le_refl _) _ D _ _ (by omega) hK9 rfl rfl)
  case stop =>
    rintro D c pre W _ _ h _
    exact h.elim
set_option maxHeartbeats 8000000 in
set_option maxRecDepth 100000 in
theorem mapOf_none (v0 : Int) (w : World) :
    Calls Try.prog 30 #[.pointer none, .int .i64 v0] w (SetPost w (ofS (selS (fun r => r.v == v0) []))) := by
  have hl0 : ([] : List Rn).length = 0 := rfl
  obtain ⟨i0, hi, hz0, hz1, hz2⟩ := info_parts infoSpan
  have hx0 : Ext w (((w.alloc (.cells #[.int .i64 v0] 3)).alloc (.cells #[.slice none 0 0] 65)).alloc (.cells #[.slice none 0 0] 63)) := (((Ext.refl w).alloc _).alloc _).alloc _
  have bX : (((w.alloc (.cells #[.int .i64 v0] 3)).alloc (.cells #[.slice none 0 0] 65)).alloc (.cells #[.slice none 0 0] 63)).heap[w.heap.size + 1 + 1]? = some (.cells #[.slice none 0 0] 63 (0, 0)) := by
    have := heap_alloc_new ((w.alloc (.cells #[.int .i64 v0] 3)).alloc (.cells #[.slice none 0 0] 65)) (.cells #[.slice none 0 0] 63)
    simpa using this
  have bR : (((w.alloc (.cells #[.int .i64 v0] 3)).alloc (.cells #[.slice none 0 0] 65)).alloc (.cells #[.slice none 0 0] 63)).heap[w.heap.size + 1]? = some (.cells #[.slice none 0 0] 65 (0, 0)) := by
    refine ((Ext.refl ((w.alloc (.cells #[.int .i64 v0] 3)).alloc (.cells #[.slice none 0 0] 65))).alloc _).block ?_
    have := heap_alloc_new (w.alloc (.cells #[.int .i64 v0] 3)) (.cells #[.slice none 0 0] 65)
    simpa using this
  have bV : (((w.alloc (.cells #[.int .i64 v0] 3)).alloc (.cells #[.slice none 0 0] 65)).alloc (.cells #[.slice none 0 0] 63)).heap[w.heap.size]? = some (.cells #[.int .i64 v0] 3 (0, 0)) :=
    (((Ext.refl (w.alloc (.cells #[.int .i64 v0] 3))).alloc _).alloc _).block (heap_alloc_new w _)
  refine (callsIn_wide (n := 5)).1 ?_
  refine callsIn_of_wp_marks Try.func30 rfl trivial ?_ rfl
  simp only [Try.ntmps30, List.size_toArray, List.length_cons, List.length_nil, Nat.reduceAdd, Nat.reduceSub, Array.replicate_succ, Array.replicate_zero, List.push_toArray, List.append_toArray, List.nil_append, List.cons_append]
  refine wpIn_wide.2 ?_
  go_wp2_with fail
  generalize (((w.alloc (.cells #[.int .i64 v0] 3)).alloc (.cells #[.slice none 0 0] 65)).alloc (.cells #[.slice none 0 0] 63)) = w1 at *
  refine (all_seq_none w w1).mono ?_
  rintro e w2 ⟨v, rfl, ⟨br, bs, A, c, rfl, hbr, hbs, hru⟩, hx2⟩
  replace bX := hx2.block bX
  replace bR := hx2.block bR
  replace bV := hx2.block bV
  have hx02 := hx0.trans hx2
  have hne : bs ≠ w.heap.size + 1 + 1 := fun e => by rw [e, bX] at hbs; cases hbs
  have c0 := cell_of_block hbr (i := 0)
  have hbsl := (Array.getElem?_eq_some_iff.1 hbs).1
  have hbrl := (Array.getElem?_eq_some_iff.1 hbr).1
  have hxl := (Array.getElem?_eq_some_iff.1 bX).1
  have hrl := (Array.getElem?_eq_some_iff.1 bR).1
  generalize hrb : w.heap.size + 1 = rb at *
  generalize hxb : rb + 1 = xb at *
  go_wp2
  have hxs := hx02.size
  have hbb : 0 < ([] : List Rn).length → ∀ b o, A = some ⟨b, o, none⟩ → b < w2.heap.size ∧ b ≠ xb := fun h b o e => by
    obtain ⟨b', e', hlt, _⟩ := hru 0 h
    rw [e] at e'
    cases e'
    omega
  refine (wpIn_wide (n := 5)).1 ?_
  refine wpIn_rangeFunc_ownH rfl (by omega) (gf := 47) (lb := #[.pointer (some ⟨br, 0, none⟩), .pointer (some ⟨bs, 0, none⟩)]) rfl trivial (enters_of Try.func47 (by kernel_rfl) rfl)
    (all_stopsR 4 (by omega) br bs xb w2.heap.size A c [] (by simp) (by simp) hbb ⟨hbsl, hne⟩ w2 hbrl (Nat.le_refl _) (by rw [cell_of_block hbr]; rfl) (by rw [cell_of_block hbs]; rfl) (by rw [cell_of_block hbs]; rfl)
      (fun k hk => by obtain ⟨b, e, hlt, p⟩ := hru k hk; exact ⟨b, e, by omega, p⟩)) kq_t (kq_b (by omega)) (Below.refl _ _) (fun _ => rfl)
    (fun pre W => (∃ v, Boxed W xb 63 v ∧ W.ownsRow w2.heap.size 34 2 v (selS (fun r => r.v == v0) (pre.map (·.1))).length (spans (selS (fun r => r.v == v0) (pre.map (·.1)))) ∧ True) ∧ Kq xb w2.heap.size w2 W)
    (fun _ _ _ => False)
    (OwnFrom.and (Own.from (holdsRow_own w2.heap.size xb 63 34 2 (fun pre : List {r : Rn // r ∈ ([] : List Rn)} => (selS (fun r => r.v == v0) (pre.map (·.1))).length) (fun pre => spans (selS (fun r => r.v == v0) (pre.map (·.1)))) (fun _ _ => True)) _) (ownFrom_kq (by omega) (by omega)))
    (fun _ _ _ _ _ hs _ _ => hs)
    ⟨⟨_, bX, World.ownsRow_nil _ _ _ _, trivial⟩, Kq.refl _ _ _⟩
    (fun x a' W => ∃ Bx, w2.heap.size ≤ Bx ∧ W.heap[Bx]? = some (.cells #[.int .i64 x.1.f, .int .i64 x.1.t] 34 (0, 0)) ∧ a' = { tmps := #[.pointer none, .int .i64 v0, undef, .pointer (some ⟨w.heap.size, 0, none⟩), .pointer (some ⟨rb, 0, none⟩), .pointer (some ⟨xb, 0, none⟩), .pointer (some ⟨Bx, 0, none⟩), .int .i64 x.1.v, .pointer none, .func (.func 47) #[] #[.pointer (some ⟨br, 0, none⟩), .pointer (some ⟨bs, 0, none⟩)], .agg #[.int .i64 x.1.f, .int .i64 x.1.t], .int .i64 x.1.v, undef, undef, undef, undef, undef, undef, undef, undef, undef], defers := [] })
    (fun x a' _ X Y row hs hg hr => by
      obtain ⟨Bx, h1, h2, h3⟩ := hs
      exact ⟨Bx, h1, (hg.block Bx (Array.getElem?_eq_some_iff.1 h2).1 (fun e => by obtain ⟨_, o, ho, hc⟩ := hr Bx e.symm; rw [h2] at ho; cases ho; cases hc)).trans h2, h3⟩)
    ?assign ?body ?done ?stop
  case assign =>
    rintro l pre x W K ⟨⟨v, hv, hrow, _⟩, hB⟩ hK
    have hzW := hB.size
    gi_wp2
    exact hK _ _ ((KeepsOthers.alloc _ _).from _) (Kq.of_ext ((Ext.refl W).alloc _) (by omega)) ⟨⟨v, ((Ext.refl W).alloc _).block hv, hrow.alloc _, trivial⟩, hB.alloc (by omega) _⟩ ⟨W.heap.size, hzW, heap_alloc_new W _, rfl⟩
  case body =>
    rintro l pre x
    exact absurd x.2 (by simp)
  case done =>
    rintro D ys W hD rfl ⟨⟨v, hv, hrow, _⟩, hB⟩ hK
    have hmap : ([] : List Rn).attach.map (·.1) = [] := by simp
    rw [hmap] at hrow
    have hsl : (selS (fun r => r.v == v0) []).length ≤ 5000 := by have := sel_len (fun r => r.v == v0) []; omega
    obtain ⟨T, hT⟩ : ∃ T, selS (fun r => r.v == v0) [] = T := ⟨_, rfl⟩
    rw [hT] at hrow hsl
    have HTT := Lib.hid hT
    clear hT
    obtain ⟨V, cv, rfl, _⟩ := own_shape hrow
    have hc := hv.cell
    have bW := (hB.block rb (by omega) (by omega)).trans bR
    have hSm := sat_of_own hrow
    have HOF := Lib.hid (of_calls V cv T W hSm (by omega))
    have HKW : Hid (Ext w W) := Lib.hid (Kq.ext hx02 hB (by omega))
    clear hrow hbb hB hru
    go_wp2_with fail
    refine HOF.out.mono ?_
    rintro e w9 ⟨A9, c9, rfl, HS9, HN9, hx9⟩
    have b9 : Boxed w9 rb 65 (.slice none 0 0) := hx9.block bW
    have q9 := b9.cell
    have f9 := b9.frozen
    obtain ⟨N, hN⟩ : ∃ N, ofS T = N := ⟨_, rfl⟩
    rw [hN] at HS9 ⊢
    have HNN := Lib.hid hN
    clear hN
    have hDl := (Array.getElem?_eq_some_iff.1 hK).1
    have hK9 : (w9.setCell ⟨rb, 0, none⟩ (.slice A9 N.length c9)).heap[D]? = some (.deferred (some [])) := (Below.heap_setCell w9 ⟨rb, 0, none⟩ _ D (by show D ≠ rb; omega)).trans (hx9.block hK)
    have y1 : Boxed (w9.setCell ⟨rb, 0, none⟩ (.slice A9 N.length c9)) rb 65 (.slice A9 N.length c9) := b9.set _
    have hE10 : Ext w (w9.setCell ⟨rb, 0, none⟩ (.slice A9 N.length c9)) := (HKW.out.trans hx9).setCell (by show w.heap.size ≤ rb; omega) _
    have hwW := (Array.getElem?_eq_some_iff.1 bW).1
    go_wp2
    refine ⟨by simp, .inl ⟨_, _, rfl, run_takeDeferred hK9, ?_⟩⟩
    have u1 := (boxed_put y1 hK9).cell
    refine ⟨.agg #[.slice A9 N.length c9], ?_, ?_⟩
    · simp [results, Try.f30, go_sem, u1]
    · refine ⟨A9, c9, by rw [HTT.out, HNN.out], Lib.hid ?_, Lib.hid (fun b o e => ?_), ?_⟩
      · rw [HTT.out, HNN.out]
        refine HS9.out.blocks fun b o e hbl => ?_
        have hbn := HN9.out b o e
        exact ((grownBy_putObj' _ D (.deferred none)).block b (by rw [show (w9.setCell ⟨rb, 0, none⟩ (.slice A9 N.length c9)).heap.size = w9.heap.size by simp [World.setCell]]; exact hbl) (fun e2 => by cases e2; omega)).trans (Below.heap_setCell w9 ⟨rb, 0, none⟩ _ b (by show b ≠ rb; omega))
      · have := HN9.out b o e
        omega
      · exact Below.trans hE10 (belowK_b (w := w) (Nat.le_refl _) _ D _ _ (by omega) hK9 rfl rfl)
  case stop =>
    rintro D c pre W _ _ h _
    exact h.elim
end Go.Proofs.Ytjiabibnbpjhaaa.Rg
