/- The contracts of coming, span.Has, Flying and Serves. -/
import Derived.Test.YtaanbgagdanalaaLeave
import Derived.Test.YtaanbgagdanalaaRgOf
import Derived.BigRegion
namespace Go.Proofs.Ytaanbgagdanalaa.Rg
open Go.RowKit

/-- A flight's bytes to come. -/
def com (f : Fl) : Sp := if f.he then ⟨f.pl, f.stop⟩ else if 0 < f.en then ⟨f.fr, f.to⟩ else ⟨0, 0⟩
def ofEn (en : Int) (f : Fl) : Bool := decide (1 ≤ en) && (f.en == en)
def comL (t : Tab) (en : Int) : List Sp := (t.l.filter (ofEn en)).map com
def hasB (s : Sp) (x : Int) : Bool := rightB s.f s.t && decide (s.f ≤ x) && decide (x < s.t)
/-- The flight that brings a byte. -/
def srvF (t : Tab) (en x : Int) : Option Fl := t.l.find? fun f => ofEn en f && hasB (com f) x
def idO (o : Option Fl) : Int := match o with
  | some f => f.id
  | none => 0

set_option maxRecDepth 100000 in
theorem spanhas_calls (f t x : Int) (w : World) :
    Calls Try.prog 57 #[.agg #[.int .i64 f, .int .i64 t], .int .i64 x] w fun e w' => e = .returned (.bool (hasB ⟨f, t⟩ x)) ∧ Ext w w' := by
  have hx0 : Ext w (w.alloc (.cells #[.int .i64 f, .int .i64 t] 24)) := (Ext.refl w).alloc _
  have a0 : (w.alloc (.cells #[.int .i64 f, .int .i64 t] 24)).cell? ⟨w.heap.size, 0, none⟩ = some (.int .i64 f) := by simp
  have a1 : (w.alloc (.cells #[.int .i64 f, .int .i64 t] 24)).cell? ⟨w.heap.size, 1, none⟩ = some (.int .i64 t) := by simp
  have hd : hasB ⟨f, t⟩ x = (rightB f t && decide (f ≤ x) && decide (x < t)) := rfl
  rw [hd]
  go_enter Try.func57, Try.ntmps57
  go_wp2_with fail
  generalize (w.alloc (.cells #[.int .i64 f, .int .i64 t] 24)) = w0 at *
  refine (right_calls f t w0).mono ?_
  rintro e w1 ⟨rfl, hx1⟩
  replace a0 := hx1.cell a0
  replace a1 := hx1.cell a1
  have hx := hx0.trans hx1
  clear hx0 hx1
  cases eR : rightB f t
  · go_wp2
    go_ret
    exact ⟨by simp [eR], hx⟩
  · cases e1 : decide (f ≤ x)
    · have e2 : ¬ f ≤ x := by simpa using e1
      go_wp2
      go_ret
      exact ⟨by simp [eR]; omega, hx⟩
    · have e2 : f ≤ x := by simpa using e1
      go_wp2
      go_ret
      exact ⟨by simp [eR, e2], hx⟩

set_option maxHeartbeats 1000000 in
set_option maxRecDepth 100000 in
theorem coming_calls (N : Nat) (y : Fy) (w : World) (h : FyAt N w y) :
    Calls Try.prog 55 #[.pointer (some ⟨y.b, 0, none⟩)] w fun e w' => e = .returned (.agg #[.int .i64 (com y.f).f, .int .i64 (com y.f).t]) ∧ Ext w w' := by
  have hx0 : Ext w (w.alloc (.cells #[.int .i64 0, .int .i64 0] 24)) := (Ext.refl w).alloc _
  have c13 := hx0.cell (h.cell 13 (u := .bool y.f.he) rfl)
  have c12 := hx0.cell (h.cell 12 (u := .int .i64 y.f.pl) rfl)
  have c14 := hx0.cell (h.cell 14 (u := .int .i64 y.f.stop) rfl)
  have c8 := hx0.cell (h.cell 8 (u := .int .i64 y.f.en) rfl)
  have c2 := hx0.cell (h.cell 2 (u := .int .i64 y.f.fr) rfl)
  have c3 := hx0.cell (h.cell 3 (u := .int .i64 y.f.to) rfl)
  have hz : (w.alloc (.cells #[.int .i64 0, .int .i64 0] 24)).heap.size = w.heap.size + 1 := World.size_alloc _ _
  have bR : (w.alloc (.cells #[.int .i64 0, .int .i64 0] 24)).heap[w.heap.size]? = some (.cells #[.int .i64 0, .int .i64 0] 24 (0, 0)) := heap_alloc_new w _
  have hyb : y.b < w.heap.size := block_of_cell (h.cell 13 (u := .bool y.f.he) rfl)
  have hne : y.b ≠ w.heap.size := by omega
  clear h
  cases hhe : y.f.he
  · rw [hhe] at c13
    by_cases hen : 0 < y.f.en
    · have hc : com y.f = ⟨y.f.fr, y.f.to⟩ := by simp [com, hhe, hen]
      rw [hc]
      have hen' : decide (0 < y.f.en) = true := decide_eq_true hen
      go_enter Try.func55, Try.ntmps55
      go_wp2
      refine bodyPost_ret (v := .agg #[.int .i64 y.f.fr, .int .i64 y.f.to]) (by simp [results, Try.results55, go_sem]) rfl ⟨rfl, ?_⟩
      exact (Ext.refl w).alloc _
    · have hc : com y.f = ⟨0, 0⟩ := by simp [com, hhe, hen]
      rw [hc]
      have hen' : decide (0 < y.f.en) = false := decide_eq_false hen
      go_enter Try.func55, Try.ntmps55
      go_wp2
      refine bodyPost_ret (v := .agg #[.int .i64 0, .int .i64 0]) (by simp [results, Try.results55, go_sem]) rfl ⟨rfl, ?_⟩
      exact hx0
  · rw [hhe] at c13
    have hc : com y.f = ⟨y.f.pl, y.f.stop⟩ := by simp [com, hhe]
    rw [hc]
    go_enter Try.func55, Try.ntmps55
    go_wp2
    go_region
    go_wp2
    refine bodyPost_ret (v := .agg #[.int .i64 y.f.pl, .int .i64 y.f.stop]) (by simp [results, Try.results55, go_sem]) rfl ⟨rfl, ?_⟩
    exact ((Ext.refl w).alloc _).drew
theorem com_len (t : Tab) (en : Int) : (comL t en).length ≤ t.l.length := by
  unfold comL
  rw [List.length_map]
  exact List.length_filter_le _ _
theorem map_snoc_filter (l : List Fl) (k : Nat) (en : Int) (hk : k < l.length) : ((l.take (k + 1)).filter (ofEn en)).map com = ((l.take k).filter (ofEn en)).map com ++ (if ofEn en l[k] then [com l[k]] else []) := by
  rw [List.take_succ_eq_append_getElem hk, List.filter_append, List.map_append]
  cases h : ofEn en l[k] <;> simp [h]
set_option maxHeartbeats 2000000 in
set_option maxRecDepth 100000 in
theorem flying_calls (N tb : Nat) (O : List Nat) (t : Tab) (en : Int) (w : World) (h : TabR N w tb O t) (hs : Small t) :
    Calls Try.prog 33 #[.pointer (some ⟨tb, 0, none⟩), .int .i64 en] w (SetPost w (ofS (comL t en))) := by
  obtain ⟨lv, ys, hT, el, rfl⟩ := h
  obtain ⟨s1, _, _, _, _⟩ := hs
  rw [el] at s1
  have hcd : comL t en = ((ys.map Fy.f).filter (ofEn en)).map com := by unfold comL; rw [el]
  rw [hcd]
  have hl : ys.length ≤ 1000 := by simpa using s1
  have hx0 : Ext w (w.alloc (.cells #[.slice none 0 0] 74)) := (Ext.refl w).alloc _
  have bR : (w.alloc (.cells #[.slice none 0 0] 74)).heap[w.heap.size]? = some (.cells #[.slice none 0 0] 74 (0, 0)) := heap_alloc_new w _
  replace hT := hT.keep (C := []) (Turn.of_ext hx0) (fun _ _ a => by cases a)
  obtain ⟨A, c, e, hc, hrow⟩ := hT.shape
  have c0 := hT.c0
  rw [e] at c0
  have HT := Lib.hid hT
  clear s1 el e hT hcd
  go_enter Try.func33, Try.ntmps33
  go_wp2
  have hzR := (Array.getElem?_eq_some_iff.1 bR).1
  generalize (w.alloc (.cells #[.slice none 0 0] 74)) = w0 at *
  go_loopw [5, 13] (fun out i wr => ∃ k : Nat, k ≤ ys.length ∧ i = .int .i64 k ∧ wr.ownsRow w0.heap.size 24 2 out ((((ys.map Fy.f).take k).filter (ofEn en)).map com).length (spans ((((ys.map Fy.f).take k).filter (ofEn en)).map com)) ∧ Ext w0 wr) (fun _ i _ => ys.length - (intOf i).toNat)
  case atStart => exact ⟨0, Nat.zero_le _, rfl, World.ownsRow_nil _ _ _ _, Ext.refl _⟩
  case round =>
    obtain ⟨k, hk, rfl, hown, hx⟩ := hrel
    by_cases hlt : k < ys.length
    · obtain ⟨g, rfl, hcell⟩ := hrow k hlt
      have hy := (HT.out.all k hlt).keep (C := []) (Turn.of_ext hx) (fun _ _ a => by cases a)
      replace hcell := hx.cell hcell
      have hstep := map_snoc_filter (ys.map Fy.f) k en (by simpa using hlt)
      rw [List.getElem_map] at hstep
      obtain ⟨y, hyy⟩ : ∃ y, ys[k] = y := ⟨_, rfl⟩
      rw [hyy] at hy hcell hstep
      have c8 := hy.cell 8 (u := .int .i64 y.f.en) rfl
      have hlen : ((((ys.map Fy.f).take k).filter (ofEn en)).map com).length ≤ 1000 := by
        rw [List.length_map]
        refine Nat.le_trans (List.length_filter_le _ _) ?_
        simp; omega
      have HS := Lib.hid hstep
      have hsz := hx.size
      have HC := Lib.hid (coming_calls N y wr hy)
      clear hyy hstep hy hrow
      obtain ⟨L, hL⟩ : ∃ L, (((ys.map Fy.f).take k).filter (ofEn en)).map com = L := ⟨_, rfl⟩
      rw [hL] at hown hlen
      have HL := Lib.hid hL
      clear hL
      obtain ⟨A3, c3, rfl, _⟩ := own_shape hown
      cases hm : ofEn en y.f
      · have HM : Hid (((((ys.map Fy.f).take (k + 1)).filter (ofEn en)).map com) = L) := Lib.hid (by rw [HS.out, hm, HL.out]; simp)
        have hq : ¬ (1 ≤ en) ∨ ¬ (y.f.en = en) := by
          unfold ofEn at hm
          by_cases h1 : 1 ≤ en
          · right; intro h2; simp [h1, h2] at hm
          · exact .inl h1
        clear hm HS HL
        by_cases h1 : 1 ≤ en
        · have h2 : ¬ (y.f.en = en) := hq.resolve_left (fun h => h h1)
          have h3 : (y.f.en == en) = false := beq_eq_false_iff_ne.2 h2
          have h4 : decide (1 ≤ en) = true := decide_eq_true h1
          clear hq h1 h2
          go_wp2
          go_roundw
          case rel =>
            refine ⟨k + 1, by omega, by go_num, ?_, hx⟩
            rw [HM.out]
            exact hown
          case measure => simp [intOf] <;> omega
        · have h4 : decide (1 ≤ en) = false := decide_eq_false h1
          clear hq h1
          go_wp2
          go_roundw
          case rel =>
            refine ⟨k + 1, by omega, by go_num, ?_, hx⟩
            rw [HM.out]
            exact hown
          case measure => simp [intOf] <;> omega
      · have HM : Hid (((((ys.map Fy.f).take (k + 1)).filter (ofEn en)).map com) = L ++ [com y.f]) := Lib.hid (by rw [HS.out, hm, HL.out]; simp)
        have h1 : decide (1 ≤ en) = true ∧ (y.f.en == en) = true := by unfold ofEn at hm; simpa using hm
        obtain ⟨h4, h3⟩ := h1
        clear hm HS HL
        generalize com y.f = q at *
        go_wp2_with fail
        refine HC.out.mono ?_
        rintro e w2 ⟨rfl, hx2⟩
        have hown1 := ownsRow_ext hown hx2
        have hx12 := hx.trans hx2
        have hsz2 := hx12.size
        clear hown
        go_wp2_with (at_builtin; refine wpList_append_new _ rfl _ _ 72 rfl w0.heap.size 24 _ 2 16 Try.underlying72 infoSpan rfl (by omega) _ L.length (spans L) rfl hown1 1 1 _ rfl _ rfl rfl (by simp [Value.oneCell']) (by simp [maxLen]; omega) (by omega) hsz2 ?_; intro v1 w3 hown2 hm2)
        have hx3 := ext_moved hx12 hown1 hm2
        go_roundw
        case rel =>
          refine ⟨k + 1, by omega, by go_num, ?_, hx3⟩
          rw [HM.out, spans_append, spans_one, List.length_append]
          exact hown2
        case measure => simp [intOf] <;> omega
    · obtain rfl : k = ys.length := by omega
      have e1 : (ys.map Fy.f).take ys.length = ys.map Fy.f := List.take_of_length_le (by simp)
      rw [e1] at hown
      have hlen : (((ys.map Fy.f).filter (ofEn en)).map com).length ≤ 1000 := by
        rw [List.length_map]
        refine Nat.le_trans (List.length_filter_le _ _) ?_
        simp; omega
      obtain ⟨L, hL⟩ : ∃ L, ((ys.map Fy.f).filter (ofEn en)).map com = L := ⟨_, rfl⟩
      rw [hL] at hown hlen
      have HL := Lib.hid hL
      obtain ⟨A3, c3, rfl, _⟩ := own_shape hown
      have hS := sat_of_own hown
      have HO := Lib.hid (of_calls A3 c3 L wr hS (by omega))
      have b3 := hx.block bR
      clear hown hL hrow hS
      go_wp2_with fail
      refine HO.out.mono ?_
      rintro e w2 ⟨A9, c9, rfl, HS9, HN9, hx9⟩
      have b9 := hx9.block b3
      have f9 : w2.frozen? ⟨w.heap.size, 0, none⟩ = false := by rw [World.frozen?, b9]; simp
      have q9 : w2.cell? ⟨w.heap.size, 0, none⟩ = some (.slice none 0 0) := by rw [cell_of_row w2 _ 0 _ _ _ b9]; rfl
      have hxx := hx0.trans (hx.trans hx9)
      have hy1 : (w2.setCell ⟨w.heap.size, 0, none⟩ (.slice A9 (ofS L).length c9)).cell? ⟨w.heap.size, 0, none⟩ = some (.slice A9 (ofS L).length c9) := by
        rw [cell_of_row _ _ 0 _ _ _ (heap_set_same b9 _)]; rfl
      go_wp2
      refine bodyPost_ret (v := .agg #[.slice A9 (ofS L).length c9]) (by simp [results, Try.results33, go_sem, hy1]) rfl ?_
      refine ⟨A9, c9, by rw [HL.out], Lib.hid ?_, Lib.hid (fun b o e => ?_), ?_⟩
      · rw [HL.out]
        intro j hj
        obtain ⟨b, o, e, p0, p1⟩ := HS9.out j hj
        have hn := HN9.out b o e
        have hwr : w.heap.size < wr.heap.size := by have := hx.size; omega
        have hbk := Below.heap_setCell w2 ⟨w.heap.size, 0, none⟩ (.slice A9 (ofS L).length c9) b (by show b ≠ w.heap.size; omega)
        exact ⟨b, o, e, (World.cell?_of_block hbk).trans p0, (World.cell?_of_block hbk).trans p1⟩
      · have := HN9.out b o e
        have := hx.size
        omega
      · exact hxx.setCell (Nat.le_refl _) _

set_option maxHeartbeats 2000000 in
set_option maxRecDepth 100000 in
theorem serves_calls (N tb : Nat) (O : List Nat) (t : Tab) (en x : Int) (w : World) (h : TabR N w tb O t) (hs : Small t) :
    Calls Try.prog 35 #[.pointer (some ⟨tb, 0, none⟩), .int .i64 en, .int .i64 x] w fun e w' => e = .returned (.tuple #[.int .i64 (idO (srvF t en x)), .bool (srvF t en x).isSome]) ∧ Ext w w' := by
  obtain ⟨lv, ys, hT, el, rfl⟩ := h
  obtain ⟨s1, _, _, _, _⟩ := hs
  rw [el] at s1
  have hcd : srvF t en x = (ys.map Fy.f).find? fun f => ofEn en f && hasB (com f) x := by unfold srvF; rw [el]
  rw [hcd]
  have hl : ys.length ≤ 1000 := by simpa using s1
  obtain ⟨A, c, e, hc, hrow⟩ := hT.shape
  have c0 := hT.c0
  rw [e] at c0
  have HT := Lib.hid hT
  clear s1 el e hT hcd
  obtain ⟨R, hR⟩ : ∃ R, ((ys.map Fy.f).find? fun f => ofEn en f && hasB (com f) x) = R := ⟨_, rfl⟩
  rw [hR]
  have HR := Lib.hid hR
  clear hR
  go_enter Try.func35, Try.ntmps35
  go_wp2
  go_loopw [15] (fun i wr => ∃ k : Nat, k ≤ ys.length ∧ i = .int .i64 k ∧ Hid (R = ((ys.map Fy.f).drop k).find? fun f => ofEn en f && hasB (com f) x) ∧ Ext w wr) (fun i _ => ys.length - (intOf i).toNat)
  case atStart => exact ⟨0, Nat.zero_le _, rfl, Lib.hid (by rw [← HR.out]; rfl), Ext.refl _⟩
  case round =>
    obtain ⟨k, hk, rfl, HQ, hx⟩ := hrel
    by_cases hlt : k < ys.length
    · obtain ⟨g, rfl, hcell⟩ := hrow k hlt
      have hy := (HT.out.all k hlt).keep (C := []) (Turn.of_ext hx) (fun _ _ a => by cases a)
      replace hcell := hx.cell hcell
      have hstep : R = if ofEn en ys[k].f && hasB (com ys[k].f) x then some ys[k].f else ((ys.map Fy.f).drop (k + 1)).find? fun f => ofEn en f && hasB (com f) x := by
        rw [HQ.out, List.drop_eq_getElem_cons (by simpa using hlt), List.find?_cons, List.getElem_map]
        split <;> simp_all
      obtain ⟨y, hyy⟩ : ∃ y, ys[k] = y := ⟨_, rfl⟩
      rw [hyy] at hy hcell hstep
      have c8 := hy.cell 8 (u := .int .i64 y.f.en) rfl
      have c0' := hy.cell 0 (u := .int .i64 y.f.id) rfl
      have HS := Lib.hid hstep
      have HC := Lib.hid (coming_calls N y wr hy)
      clear hyy hstep hy hrow HQ
      cases hm : ofEn en y.f
      · have HM : Hid (R = ((ys.map Fy.f).drop (k + 1)).find? fun f => ofEn en f && hasB (com f) x) := Lib.hid (by rw [HS.out, hm]; rfl)
        have hq : ¬ (1 ≤ en) ∨ ¬ (y.f.en = en) := by
          unfold ofEn at hm
          by_cases h1 : 1 ≤ en
          · right; intro h2; simp [h1, h2] at hm
          · exact .inl h1
        clear hm HS
        by_cases h1 : 1 ≤ en
        · have h2 : ¬ (y.f.en = en) := hq.resolve_left (fun h => h h1)
          have h3 : (y.f.en == en) = false := beq_eq_false_iff_ne.2 h2
          have h4 : decide (1 ≤ en) = true := decide_eq_true h1
          clear hq h1 h2
          go_wp2
          go_roundw
          case rel => exact ⟨k + 1, by omega, by go_num, HM, hx⟩
          case measure => simp [intOf] <;> omega
        · have h4 : decide (1 ≤ en) = false := decide_eq_false h1
          clear hq h1
          go_wp2
          go_roundw
          case rel => exact ⟨k + 1, by omega, by go_num, HM, hx⟩
          case measure => simp [intOf] <;> omega
      · have HM : Hid (R = if hasB (com y.f) x then some y.f else ((ys.map Fy.f).drop (k + 1)).find? fun f => ofEn en f && hasB (com f) x) := Lib.hid (by rw [HS.out, hm]; rfl)
        have h1 : decide (1 ≤ en) = true ∧ (y.f.en == en) = true := by unfold ofEn at hm; simpa using hm
        obtain ⟨h4, h3⟩ := h1
        clear hm HS
        generalize com y.f = q at *
        go_wp2_with fail
        refine HC.out.mono ?_
        rintro e w2 ⟨rfl, hx2⟩
        replace c0' := hx2.cell c0'
        have hx12 := hx.trans hx2
        go_wp2_with fail
        refine (spanhas_calls q.f q.t x w2).mono ?_
        rintro e w3 ⟨rfl, hx3⟩
        replace c0' := hx3.cell c0'
        have hx13 := hx12.trans hx3
        change Hid (R = if hasB ⟨q.f, q.t⟩ x then some y.f else _) at HM
        cases hb : hasB ⟨q.f, q.t⟩ x
        · have HM2 : Hid (R = ((ys.map Fy.f).drop (k + 1)).find? fun f => ofEn en f && hasB (com f) x) := Lib.hid (by rw [HM.out, hb]; rfl)
          clear HM hb
          go_wp2
          go_roundw
          case rel => exact ⟨k + 1, by omega, by go_num, HM2, hx13⟩
          case measure => simp [intOf] <;> omega
        · have HM2 : Hid (R = some y.f) := Lib.hid (by rw [HM.out, hb]; rfl)
          clear HM hb
          go_wp2
          refine bodyPost_ret (v := .tuple #[.int .i64 y.f.id, .bool true]) (by simp [results, Try.results35, go_sem]) rfl ⟨by rw [HM2.out]; rfl, hx13⟩
    · obtain rfl : k = ys.length := by omega
      have HM : Hid (R = none) := Lib.hid (by rw [HQ.out, List.drop_of_length_le (by simp)]; rfl)
      clear HQ
      go_wp2
      refine bodyPost_ret (v := .tuple #[.int .i64 0, .bool false]) (by simp [results, Try.results35, go_sem]) rfl ⟨by rw [HM.out]; rfl, hx⟩
end Go.Proofs.Ytaanbgagdanalaa.Rg
