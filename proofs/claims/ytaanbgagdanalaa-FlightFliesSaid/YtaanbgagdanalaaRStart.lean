/- The contract of the reference's Start, where a flight begins. -/
import Derived.Test.YtaanbgagdanalaaRStartN
import Derived.Test.YtaanbgagdanalaaStart
import Derived.BigRegion
import Derived.Deep.RegionLaw
import Derived.Deep.Cut
namespace Go.Proofs.Ytaanbgagdanalaa
open Go.RowKit


set_option maxHeartbeats 4000000 in
set_option maxRecDepth 100000 in
theorem startR_yes (N tb : Nat) (O : List Nat) (t : Tab) (f : Fl) (w : World) (h : RTabR N w tb O t) (hN : N ≤ w.heap.size) (hs : Small t) (hf : starts f = true) :
    Calls Try.prog 19 #[.pointer (some ⟨tb, 0, none⟩), agR { f with stop := 0 } (.slice none 0 0)] w (RAct N w tb O (t.start f).1 (.tuple #[.int .i64 (t.last + 1), .int .i64 0])) := by
  have et : (t.start f).1 = ⟨t.l ++ [{ f with id := t.last + 1, pl := f.fr, stop := 0, who := [] }], t.last + 1⟩ := by simp [Tab.start, hf]
  rw [et]
  obtain ⟨lv, ys, hT, el, rfl⟩ := h
  obtain ⟨s1, s2, s2', s3, s4⟩ := hs
  rw [el] at s1
  have hl : ys.length ≤ 1000 := by simpa using s1
  obtain ⟨h1, h2, h3, h4, h5, h6, h7, h8⟩ := starts_yes f hf
  have HP : ∀ W W' v', Turn [tb] w W → W.heap[tb]? = some (.cells #[lv, .int .i64 (t.last + 1)] 51 (0, 0)) →
      W'.ownsRow N 57 16 v' (ys.length + 1) (rows ys ++ rowOf { f with id := t.last + 1, pl := f.fr, stop := 0, who := [] } (.slice none 0 0)) → Moved W W' lv v' →
      W'.cell? ⟨tb, 0, none⟩ = some lv ∧ W'.frozen? ⟨tb, 0, none⟩ = false ∧ (W'.setCell ⟨tb, 0, none⟩ v').cell? ⟨tb, 1, none⟩ = some (.int .i64 (t.last + 1)) ∧
      RAct N w tb (ownR tb lv ys) ⟨t.l ++ [{ f with id := t.last + 1, pl := f.fr, stop := 0, who := [] }], t.last + 1⟩ (.tuple #[.int .i64 (t.last + 1), .int .i64 0]) (.returned (.tuple #[.int .i64 (t.last + 1), .int .i64 0])) (W'.setCell ⟨tb, 0, none⟩ v') := by
    intro W W' v' a1 a2 a5 a6
    obtain ⟨m1, m2⟩ := moved_turn a6
    have b1 := m1.blk a2 hT.d1
    have ho : Of (ob lv) (ob v') w := fun x hx => (m2 x hx).imp_right fun e => Nat.le_trans a1.size e
    have hlt := blk_lt hT.blk
    refine ⟨by rw [cell_of_row W' tb 0 _ _ _ b1]; rfl, by simp [World.frozen?, b1], by rw [cell_of_row _ tb 1 _ _ _ (heap_set_same b1 v')]; rfl, ?_⟩
    have ht : Turn (tb :: ob lv) w (W'.setCell ⟨tb, 0, none⟩ v') := ((a1.mono fun x hx _ => by simp at hx; simp [hx]).trans (m1.mono fun x hx _ => List.mem_cons_of_mem _ hx)).setCell (p := ⟨tb, 0, none⟩) (fun _ => by simp) v'
    have htv : tb ∉ ob v' := fun e => by
      rcases ho _ e with e | e
      · exact hT.d1 e
      · omega
    have hr := ((Turn.refl [tb] W').setCell (p := ⟨tb, 0, none⟩) (fun _ => by simp) v').row a5 fun x hx e => htv (by simp at e; rwa [e] at hx)
    obtain ⟨p1, p2⟩ := hT.push (w' := W'.setCell ⟨tb, 0, none⟩ v') (lv' := v') (last' := t.last + 1) (f' := { f with id := t.last + 1, pl := f.fr, stop := 0, who := [] }) rfl
      (by rw [heap_set_same b1]; rfl) ht ho (by rw [rows_append, rows_one]; exact hr)
    refine ⟨rfl, _, ⟨v', _, p1, by simp [el], rfl⟩, ht.mono fun x hx _ => ?_, p2⟩
    rcases List.mem_cons.1 hx with rfl | hx
    · exact mem_ownR.2 (.inl rfl)
    · exact mem_ownR.2 (.inr (.inl hx))
  have hHP := Lib.hid HP
  have hd1 := hT.d1
  obtain ⟨A, c, rfl, hcap⟩ := own_shape hT.row
  have c0 := hT.c0
  have c1 := hT.c1
  have hblk := hT.blk
  have hrow := hT.row
  clear hT HP et s3 s4 s1 h5 hf el
  unfold agR
  obtain ⟨id, obj, fr, to, mt, mw, nt, nw, en, sa, mo, ge, pl, he, stop, who⟩ := f
  dsimp only at h1 h2 h3 h4 h6 h7 h8 hHP ⊢
  subst h1 h2 h3
  rw [show heI ⟨0, obj, fr, to, mt, mw, nt, nw, en, sa, mo, ge, 0, false, 0, who⟩ = 0 from rfl]
  generalize t.last = la at *
  generalize t.l = tl at *
  have h9 : ¬ fr < 0 := by omega
  have h10 : ¬ to ≤ fr := by omega
  have h11 : ¬ 4611686018427387904 < to := by omega
  have hm2 : (mt.toList == []) = mt.toList.isEmpty := by rw [Bool.eq_iff_iff]; simp
  have HP := hHP
  clear hHP
  rcases h4 with rfl | ⟨h4, h5⟩
  · cases hm : mt.toList.isEmpty
    all_goals
      rw [hm] at hm2
      have hm3 := hm
      simp only [List.isEmpty_iff, List.isEmpty_eq_false_iff, ne_eq] at hm3
      have x1 : Ext w ((w.alloc (.cells #[.int .i64 0, .string obj, .int .i64 fr, .int .i64 to, .string mt, .bool mw, .string nt, .bool nw, .int .i64 0, .int .i64 sa, .int .i64 mo, .int .i64 ge, .int .i64 0, .int .i64 0, .int .i64 0, .slice none 0 0] 57)).alloc (.cells #[.int .i64 fr, .int .i64 to] 24)) := ((Ext.refl w).alloc _).alloc _
      have p0 : ((w.alloc (.cells #[.int .i64 0, .string obj, .int .i64 fr, .int .i64 to, .string mt, .bool mw, .string nt, .bool nw, .int .i64 0, .int .i64 sa, .int .i64 mo, .int .i64 ge, .int .i64 0, .int .i64 0, .int .i64 0, .slice none 0 0] 57)).alloc (.cells #[.int .i64 fr, .int .i64 to] 24)).heap[w.heap.size]? = some (.cells #[.int .i64 0, .string obj, .int .i64 fr, .int .i64 to, .string mt, .bool mw, .string nt, .bool nw, .int .i64 0, .int .i64 sa, .int .i64 mo, .int .i64 ge, .int .i64 0, .int .i64 0, .int .i64 0, .slice none 0 0] 57 (0, 0)) := by
        rw [Below.heap_alloc _ _ _ (by simp)]; exact heap_alloc_new w _
      have p1 : ((w.alloc (.cells #[.int .i64 0, .string obj, .int .i64 fr, .int .i64 to, .string mt, .bool mw, .string nt, .bool nw, .int .i64 0, .int .i64 sa, .int .i64 mo, .int .i64 ge, .int .i64 0, .int .i64 0, .int .i64 0, .slice none 0 0] 57)).alloc (.cells #[.int .i64 fr, .int .i64 to] 24)).heap[w.heap.size + 1]? = some (.cells #[.int .i64 fr, .int .i64 to] 24 (0, 0)) := by
        have := heap_alloc_new (w.alloc (.cells #[.int .i64 0, .string obj, .int .i64 fr, .int .i64 to, .string mt, .bool mw, .string nt, .bool nw, .int .i64 0, .int .i64 sa, .int .i64 mo, .int .i64 ge, .int .i64 0, .int .i64 0, .int .i64 0, .slice none 0 0] 57)) (.cells #[.int .i64 fr, .int .i64 to] 24); simpa using this
      have c1' := x1.cell c1
      have z1' : ((w.alloc (.cells #[.int .i64 0, .string obj, .int .i64 fr, .int .i64 to, .string mt, .bool mw, .string nt, .bool nw, .int .i64 0, .int .i64 sa, .int .i64 mo, .int .i64 ge, .int .i64 0, .int .i64 0, .int .i64 0, .slice none 0 0] 57)).alloc (.cells #[.int .i64 fr, .int .i64 to] 24)).frozen? ⟨tb, 1, none⟩ = false := by have := x1.block hblk; simp [World.frozen?, this]
      go_enter Try.func19, Try.ntmps19
      go_upto_region 6 with (fail)
      have hlt := blk_lt hblk
      have hne : w.heap.size ≠ tb := by omega
      have hne1 : w.heap.size + 1 ≠ tb := by omega
      have a1 : Turn [tb] w (((w.alloc (.cells #[.int .i64 0, .string obj, .int .i64 fr, .int .i64 to, .string mt, .bool mw, .string nt, .bool nw, .int .i64 0, .int .i64 sa, .int .i64 mo, .int .i64 ge, .int .i64 0, .int .i64 0, .int .i64 0, .slice none 0 0] 57)).alloc (.cells #[.int .i64 fr, .int .i64 to] 24)).setCell ⟨tb, 1, none⟩ (.int .i64 (la + 1))) := (Turn.of_ext x1).setCell (fun _ => by simp) _
      have a2 : (((w.alloc (.cells #[.int .i64 0, .string obj, .int .i64 fr, .int .i64 to, .string mt, .bool mw, .string nt, .bool nw, .int .i64 0, .int .i64 sa, .int .i64 mo, .int .i64 ge, .int .i64 0, .int .i64 0, .int .i64 0, .slice none 0 0] 57)).alloc (.cells #[.int .i64 fr, .int .i64 to] 24)).setCell ⟨tb, 1, none⟩ (.int .i64 (la + 1))).heap[tb]? = some (.cells #[.slice A ys.length c, .int .i64 (la + 1)] 51 (0, 0)) := by rw [heap_set_same (x1.block hblk)]; rfl
      have a3 : (((w.alloc (.cells #[.int .i64 0, .string obj, .int .i64 fr, .int .i64 to, .string mt, .bool mw, .string nt, .bool nw, .int .i64 0, .int .i64 sa, .int .i64 mo, .int .i64 ge, .int .i64 0, .int .i64 0, .int .i64 0, .slice none 0 0] 57)).alloc (.cells #[.int .i64 fr, .int .i64 to] 24)).setCell ⟨tb, 1, none⟩ (.int .i64 (la + 1))).heap[w.heap.size]? = some (.cells #[.int .i64 0, .string obj, .int .i64 fr, .int .i64 to, .string mt, .bool mw, .string nt, .bool nw, .int .i64 0, .int .i64 sa, .int .i64 mo, .int .i64 ge, .int .i64 0, .int .i64 0, .int .i64 0, .slice none 0 0] 57 (0, 0)) := by rw [heap_set_other hne]; exact p0
      have a4 : (((w.alloc (.cells #[.int .i64 0, .string obj, .int .i64 fr, .int .i64 to, .string mt, .bool mw, .string nt, .bool nw, .int .i64 0, .int .i64 sa, .int .i64 mo, .int .i64 ge, .int .i64 0, .int .i64 0, .int .i64 0, .slice none 0 0] 57)).alloc (.cells #[.int .i64 fr, .int .i64 to] 24)).setCell ⟨tb, 1, none⟩ (.int .i64 (la + 1))).cell? ⟨w.heap.size + 1, 0, none⟩ = some (.int .i64 fr) := by
        rw [World.cell?_of_block (heap_set_other (b := w.heap.size + 1) hne1 _), cell_of_row _ _ 0 _ _ _ p1]; rfl
      clear p0 p1 c1' z1' x1
      generalize ((w.alloc (.cells #[.int .i64 0, .string obj, .int .i64 fr, .int .i64 to, .string mt, .bool mw, .string nt, .bool nw, .int .i64 0, .int .i64 sa, .int .i64 mo, .int .i64 ge, .int .i64 0, .int .i64 0, .int .i64 0, .slice none 0 0] 57)).alloc (.cells #[.int .i64 fr, .int .i64 to] 24)).setCell ⟨tb, 1, none⟩ (.int .i64 (la + 1)) = wa at *
      have c1'' : wa.cell? ⟨tb, 1, none⟩ = some (.int .i64 (la + 1)) := by rw [cell_of_row wa tb 1 _ _ _ a2]; rfl
      have p0 : wa.cell? ⟨w.heap.size, 0, none⟩ = some (.int .i64 0) := by rw [cell_of_row wa _ 0 _ _ _ a3]; rfl
      have p12 : wa.cell? ⟨w.heap.size, 12, none⟩ = some (.int .i64 0) := by rw [cell_of_row wa _ 12 _ _ _ a3]; rfl
      have p15 : wa.cell? ⟨w.heap.size, 15, none⟩ = some (.slice none 0 0) := by rw [cell_of_row wa _ 15 _ _ _ a3]; rfl
      have z : ∀ i, wa.frozen? ⟨w.heap.size, i, none⟩ = false := fun i => by simp [World.frozen?, a3]
      go_region
      have b1 : Turn [tb] w (((wa.setCell ⟨w.heap.size, 0, none⟩ (.int .i64 (la + 1))).setCell ⟨w.heap.size, 12, none⟩ (.int .i64 fr)).setCell ⟨w.heap.size, 15, none⟩ (.slice none 0 0)).drew := (((a1.setCell (fun e => absurd e (Nat.lt_irrefl _)) _).setCell (fun e => absurd e (Nat.lt_irrefl _)) _).setCell (fun e => absurd e (Nat.lt_irrefl _)) _).drew
      have b2 : (((wa.setCell ⟨w.heap.size, 0, none⟩ (.int .i64 (la + 1))).setCell ⟨w.heap.size, 12, none⟩ (.int .i64 fr)).setCell ⟨w.heap.size, 15, none⟩ (.slice none 0 0)).drew.heap[tb]? = some (.cells #[.slice A ys.length c, .int .i64 (la + 1)] 51 (0, 0)) := by
        show (((wa.setCell _ _).setCell _ _).setCell _ _).heap[tb]? = _
        rw [heap_set_other hne.symm, heap_set_other hne.symm, heap_set_other hne.symm]; exact a2
      have b3 : (((wa.setCell ⟨w.heap.size, 0, none⟩ (.int .i64 (la + 1))).setCell ⟨w.heap.size, 12, none⟩ (.int .i64 fr)).setCell ⟨w.heap.size, 15, none⟩ (.slice none 0 0)).drew.heap[w.heap.size]? = some (.cells #[.int .i64 (la + 1), .string obj, .int .i64 fr, .int .i64 to, .string mt, .bool mw, .string nt, .bool nw, .int .i64 0, .int .i64 sa, .int .i64 mo, .int .i64 ge, .int .i64 fr, .int .i64 0, .int .i64 0, .slice none 0 0] 57 (0, 0)) := by
        show (((wa.setCell _ _).setCell _ _).setCell _ _).heap[w.heap.size]? = _
        rw [heap_set_same (heap_set_same (heap_set_same a3 _) _)]; rfl
      clear a1 a2 a3 a4 c1'' p0 p12 p15 z
      generalize (((wa.setCell ⟨w.heap.size, 0, none⟩ (.int .i64 (la + 1))).setCell ⟨w.heap.size, 12, none⟩ (.int .i64 fr)).setCell ⟨w.heap.size, 15, none⟩ (.slice none 0 0)).drew = wb at *
      have c0' : wb.cell? ⟨tb, 0, none⟩ = some (.slice A ys.length c) := by rw [cell_of_row wb tb 0 _ _ _ b2]; rfl
      have q0 : wb.cell? ⟨w.heap.size, 0, none⟩ = some (.int .i64 (la + 1)) := by rw [cell_of_row wb _ 0 _ _ _ b3]; rfl
      have q1 : wb.cell? ⟨w.heap.size, 1, none⟩ = some (.string obj) := by rw [cell_of_row wb _ 1 _ _ _ b3]; rfl
      have q2 : wb.cell? ⟨w.heap.size, 2, none⟩ = some (.int .i64 fr) := by rw [cell_of_row wb _ 2 _ _ _ b3]; rfl
      have q3 : wb.cell? ⟨w.heap.size, 3, none⟩ = some (.int .i64 to) := by rw [cell_of_row wb _ 3 _ _ _ b3]; rfl
      have q4 : wb.cell? ⟨w.heap.size, 4, none⟩ = some (.string mt) := by rw [cell_of_row wb _ 4 _ _ _ b3]; rfl
      have q5 : wb.cell? ⟨w.heap.size, 5, none⟩ = some (.bool mw) := by rw [cell_of_row wb _ 5 _ _ _ b3]; rfl
      have q6 : wb.cell? ⟨w.heap.size, 6, none⟩ = some (.string nt) := by rw [cell_of_row wb _ 6 _ _ _ b3]; rfl
      have q7 : wb.cell? ⟨w.heap.size, 7, none⟩ = some (.bool nw) := by rw [cell_of_row wb _ 7 _ _ _ b3]; rfl
      have q8 : wb.cell? ⟨w.heap.size, 8, none⟩ = some (.int .i64 0) := by rw [cell_of_row wb _ 8 _ _ _ b3]; rfl
      have q9 : wb.cell? ⟨w.heap.size, 9, none⟩ = some (.int .i64 sa) := by rw [cell_of_row wb _ 9 _ _ _ b3]; rfl
      have q10 : wb.cell? ⟨w.heap.size, 10, none⟩ = some (.int .i64 mo) := by rw [cell_of_row wb _ 10 _ _ _ b3]; rfl
      have q11 : wb.cell? ⟨w.heap.size, 11, none⟩ = some (.int .i64 ge) := by rw [cell_of_row wb _ 11 _ _ _ b3]; rfl
      have q12 : wb.cell? ⟨w.heap.size, 12, none⟩ = some (.int .i64 fr) := by rw [cell_of_row wb _ 12 _ _ _ b3]; rfl
      have q13 : wb.cell? ⟨w.heap.size, 13, none⟩ = some (.int .i64 0) := by rw [cell_of_row wb _ 13 _ _ _ b3]; rfl
      have q14 : wb.cell? ⟨w.heap.size, 14, none⟩ = some (.int .i64 0) := by rw [cell_of_row wb _ 14 _ _ _ b3]; rfl
      have q15 : wb.cell? ⟨w.heap.size, 15, none⟩ = some (.slice none 0 0) := by rw [cell_of_row wb _ 15 _ _ _ b3]; rfl
      have hR : ∀ o1, (wb.alloc o1).ownsRow N 57 16 (.slice A ys.length c) ys.length (rows ys) := fun o1 => (b1.row hrow fun x hx e => hd1 (by simp at e; rwa [e] at hx)).alloc o1
      have hN2 : ∀ cs, (wb.alloc (.cells cs 57)).heap[wb.heap.size]? = some (.cells cs 57 (0, 0)) := fun cs => heap_alloc_new wb _
      have hNb : ∀ o1, N ≤ (wb.alloc o1).heap.size := fun o1 => by have := b1.size; simp; omega
      have hT2 : ∀ o1, Turn [tb] w (wb.alloc o1) := fun o1 => b1.alloc o1
      have hK : ∀ o1, (wb.alloc o1).heap[tb]? = some (.cells #[.slice A ys.length c, .int .i64 (la + 1)] 51 (0, 0)) := fun o1 => by rw [Below.heap_alloc _ _ _ (blk_lt b2)]; exact b2
      have e1' : ∀ o1, (wb.alloc o1).cell? ⟨tb, 0, none⟩ = some (.slice A ys.length c) := fun o1 => ((Ext.refl wb).alloc o1).cell c0'
      have HR := Lib.hid hR
      have HN2 := Lib.hid hN2
      have HT2 := Lib.hid hT2
      have HK := Lib.hid hK
      clear hR hN2 hT2 hK b1 b2 b3 hrow hblk hd1 c0 c1
      go_upto_region 7 with (fail)
      go_region_law (refine step_append_new _ (by rfl) _ _ 49 (by rfl) N 57 _ 16 168 Try.underlying49 info57 rfl (by omega) (.slice A ys.length c) ys.length _ (by rfl) (HR.out _) wb.heap.size 1 1 #[.int .i64 (la + 1), .string obj, .int .i64 fr, .int .i64 to, .string mt, .bool mw, .string nt, .bool nw, .int .i64 0, .int .i64 sa, .int .i64 mo, .int .i64 ge, .int .i64 fr, .int .i64 0, .int .i64 0, .slice none 0 0] (0, 0) (by rfl) (HN2.out _) (by rfl) (by simp [Value.oneCell']) (by simp [maxLen]; omega) (by omega) (hNb _) ?_; intro v1 w3 hown2 hm2; obtain ⟨A1, k1, rfl, _⟩ := own_shape hown2; obtain ⟨d1, d2, d5, d3⟩ := HP.out _ w3 _ (HT2.out _).drew (HK.out _) hown2 hm2; have D3 := Lib.hid d3; clear d3 hown2 hm2)
      all_goals
        go_wp2
        exact bodyPost_ret (v := .tuple #[.int .i64 (la + 1), .int .i64 0]) (by simp [results, Try.results19, go_sem]) rfl D3.out
  · have e1 : ¬ en < 0 := by omega
    have e2 : (en == 0) = false := by simp; omega
    have e3 : (en != 0) = true := by simp; omega
    cases hm : mt.toList.isEmpty
    · rw [hm] at hm2
      have hm3 := hm
      simp only [List.isEmpty_eq_false_iff, ne_eq] at hm3
      clear h5
      have x1 : Ext w ((w.alloc (.cells #[.int .i64 0, .string obj, .int .i64 fr, .int .i64 to, .string mt, .bool mw, .string nt, .bool nw, .int .i64 en, .int .i64 sa, .int .i64 mo, .int .i64 ge, .int .i64 0, .int .i64 0, .int .i64 0, .slice none 0 0] 57)).alloc (.cells #[.int .i64 fr, .int .i64 to] 24)) := ((Ext.refl w).alloc _).alloc _
      have p0 : ((w.alloc (.cells #[.int .i64 0, .string obj, .int .i64 fr, .int .i64 to, .string mt, .bool mw, .string nt, .bool nw, .int .i64 en, .int .i64 sa, .int .i64 mo, .int .i64 ge, .int .i64 0, .int .i64 0, .int .i64 0, .slice none 0 0] 57)).alloc (.cells #[.int .i64 fr, .int .i64 to] 24)).heap[w.heap.size]? = some (.cells #[.int .i64 0, .string obj, .int .i64 fr, .int .i64 to, .string mt, .bool mw, .string nt, .bool nw, .int .i64 en, .int .i64 sa, .int .i64 mo, .int .i64 ge, .int .i64 0, .int .i64 0, .int .i64 0, .slice none 0 0] 57 (0, 0)) := by
        rw [Below.heap_alloc _ _ _ (by simp)]; exact heap_alloc_new w _
      have p1 : ((w.alloc (.cells #[.int .i64 0, .string obj, .int .i64 fr, .int .i64 to, .string mt, .bool mw, .string nt, .bool nw, .int .i64 en, .int .i64 sa, .int .i64 mo, .int .i64 ge, .int .i64 0, .int .i64 0, .int .i64 0, .slice none 0 0] 57)).alloc (.cells #[.int .i64 fr, .int .i64 to] 24)).heap[w.heap.size + 1]? = some (.cells #[.int .i64 fr, .int .i64 to] 24 (0, 0)) := by
        have := heap_alloc_new (w.alloc (.cells #[.int .i64 0, .string obj, .int .i64 fr, .int .i64 to, .string mt, .bool mw, .string nt, .bool nw, .int .i64 en, .int .i64 sa, .int .i64 mo, .int .i64 ge, .int .i64 0, .int .i64 0, .int .i64 0, .slice none 0 0] 57)) (.cells #[.int .i64 fr, .int .i64 to] 24); simpa using this
      have c1' := x1.cell c1
      have z1' : ((w.alloc (.cells #[.int .i64 0, .string obj, .int .i64 fr, .int .i64 to, .string mt, .bool mw, .string nt, .bool nw, .int .i64 en, .int .i64 sa, .int .i64 mo, .int .i64 ge, .int .i64 0, .int .i64 0, .int .i64 0, .slice none 0 0] 57)).alloc (.cells #[.int .i64 fr, .int .i64 to] 24)).frozen? ⟨tb, 1, none⟩ = false := by have := x1.block hblk; simp [World.frozen?, this]
      go_enter Try.func19, Try.ntmps19
      go_upto_region 6 with (fail)
      have hlt := blk_lt hblk
      have hne : w.heap.size ≠ tb := by omega
      have hne1 : w.heap.size + 1 ≠ tb := by omega
      have a1 : Turn [tb] w (((w.alloc (.cells #[.int .i64 0, .string obj, .int .i64 fr, .int .i64 to, .string mt, .bool mw, .string nt, .bool nw, .int .i64 en, .int .i64 sa, .int .i64 mo, .int .i64 ge, .int .i64 0, .int .i64 0, .int .i64 0, .slice none 0 0] 57)).alloc (.cells #[.int .i64 fr, .int .i64 to] 24)).setCell ⟨tb, 1, none⟩ (.int .i64 (la + 1))) := (Turn.of_ext x1).setCell (fun _ => by simp) _
      have a2 : (((w.alloc (.cells #[.int .i64 0, .string obj, .int .i64 fr, .int .i64 to, .string mt, .bool mw, .string nt, .bool nw, .int .i64 en, .int .i64 sa, .int .i64 mo, .int .i64 ge, .int .i64 0, .int .i64 0, .int .i64 0, .slice none 0 0] 57)).alloc (.cells #[.int .i64 fr, .int .i64 to] 24)).setCell ⟨tb, 1, none⟩ (.int .i64 (la + 1))).heap[tb]? = some (.cells #[.slice A ys.length c, .int .i64 (la + 1)] 51 (0, 0)) := by rw [heap_set_same (x1.block hblk)]; rfl
      have a3 : (((w.alloc (.cells #[.int .i64 0, .string obj, .int .i64 fr, .int .i64 to, .string mt, .bool mw, .string nt, .bool nw, .int .i64 en, .int .i64 sa, .int .i64 mo, .int .i64 ge, .int .i64 0, .int .i64 0, .int .i64 0, .slice none 0 0] 57)).alloc (.cells #[.int .i64 fr, .int .i64 to] 24)).setCell ⟨tb, 1, none⟩ (.int .i64 (la + 1))).heap[w.heap.size]? = some (.cells #[.int .i64 0, .string obj, .int .i64 fr, .int .i64 to, .string mt, .bool mw, .string nt, .bool nw, .int .i64 en, .int .i64 sa, .int .i64 mo, .int .i64 ge, .int .i64 0, .int .i64 0, .int .i64 0, .slice none 0 0] 57 (0, 0)) := by rw [heap_set_other hne]; exact p0
      have a4 : (((w.alloc (.cells #[.int .i64 0, .string obj, .int .i64 fr, .int .i64 to, .string mt, .bool mw, .string nt, .bool nw, .int .i64 en, .int .i64 sa, .int .i64 mo, .int .i64 ge, .int .i64 0, .int .i64 0, .int .i64 0, .slice none 0 0] 57)).alloc (.cells #[.int .i64 fr, .int .i64 to] 24)).setCell ⟨tb, 1, none⟩ (.int .i64 (la + 1))).cell? ⟨w.heap.size + 1, 0, none⟩ = some (.int .i64 fr) := by
        rw [World.cell?_of_block (heap_set_other (b := w.heap.size + 1) hne1 _), cell_of_row _ _ 0 _ _ _ p1]; rfl
      clear p0 p1 c1' z1' x1
      generalize ((w.alloc (.cells #[.int .i64 0, .string obj, .int .i64 fr, .int .i64 to, .string mt, .bool mw, .string nt, .bool nw, .int .i64 en, .int .i64 sa, .int .i64 mo, .int .i64 ge, .int .i64 0, .int .i64 0, .int .i64 0, .slice none 0 0] 57)).alloc (.cells #[.int .i64 fr, .int .i64 to] 24)).setCell ⟨tb, 1, none⟩ (.int .i64 (la + 1)) = wa at *
      have c1'' : wa.cell? ⟨tb, 1, none⟩ = some (.int .i64 (la + 1)) := by rw [cell_of_row wa tb 1 _ _ _ a2]; rfl
      have p0 : wa.cell? ⟨w.heap.size, 0, none⟩ = some (.int .i64 0) := by rw [cell_of_row wa _ 0 _ _ _ a3]; rfl
      have p12 : wa.cell? ⟨w.heap.size, 12, none⟩ = some (.int .i64 0) := by rw [cell_of_row wa _ 12 _ _ _ a3]; rfl
      have p15 : wa.cell? ⟨w.heap.size, 15, none⟩ = some (.slice none 0 0) := by rw [cell_of_row wa _ 15 _ _ _ a3]; rfl
      have z : ∀ i, wa.frozen? ⟨w.heap.size, i, none⟩ = false := fun i => by simp [World.frozen?, a3]
      go_region
      have b1 : Turn [tb] w (((wa.setCell ⟨w.heap.size, 0, none⟩ (.int .i64 (la + 1))).setCell ⟨w.heap.size, 12, none⟩ (.int .i64 fr)).setCell ⟨w.heap.size, 15, none⟩ (.slice none 0 0)).drew := (((a1.setCell (fun e => absurd e (Nat.lt_irrefl _)) _).setCell (fun e => absurd e (Nat.lt_irrefl _)) _).setCell (fun e => absurd e (Nat.lt_irrefl _)) _).drew
      have b2 : (((wa.setCell ⟨w.heap.size, 0, none⟩ (.int .i64 (la + 1))).setCell ⟨w.heap.size, 12, none⟩ (.int .i64 fr)).setCell ⟨w.heap.size, 15, none⟩ (.slice none 0 0)).drew.heap[tb]? = some (.cells #[.slice A ys.length c, .int .i64 (la + 1)] 51 (0, 0)) := by
        show (((wa.setCell _ _).setCell _ _).setCell _ _).heap[tb]? = _
        rw [heap_set_other hne.symm, heap_set_other hne.symm, heap_set_other hne.symm]; exact a2
      have b3 : (((wa.setCell ⟨w.heap.size, 0, none⟩ (.int .i64 (la + 1))).setCell ⟨w.heap.size, 12, none⟩ (.int .i64 fr)).setCell ⟨w.heap.size, 15, none⟩ (.slice none 0 0)).drew.heap[w.heap.size]? = some (.cells #[.int .i64 (la + 1), .string obj, .int .i64 fr, .int .i64 to, .string mt, .bool mw, .string nt, .bool nw, .int .i64 en, .int .i64 sa, .int .i64 mo, .int .i64 ge, .int .i64 fr, .int .i64 0, .int .i64 0, .slice none 0 0] 57 (0, 0)) := by
        show (((wa.setCell _ _).setCell _ _).setCell _ _).heap[w.heap.size]? = _
        rw [heap_set_same (heap_set_same (heap_set_same a3 _) _)]; rfl
      clear a1 a2 a3 a4 c1'' p0 p12 p15 z
      generalize (((wa.setCell ⟨w.heap.size, 0, none⟩ (.int .i64 (la + 1))).setCell ⟨w.heap.size, 12, none⟩ (.int .i64 fr)).setCell ⟨w.heap.size, 15, none⟩ (.slice none 0 0)).drew = wb at *
      have c0' : wb.cell? ⟨tb, 0, none⟩ = some (.slice A ys.length c) := by rw [cell_of_row wb tb 0 _ _ _ b2]; rfl
      have q0 : wb.cell? ⟨w.heap.size, 0, none⟩ = some (.int .i64 (la + 1)) := by rw [cell_of_row wb _ 0 _ _ _ b3]; rfl
      have q1 : wb.cell? ⟨w.heap.size, 1, none⟩ = some (.string obj) := by rw [cell_of_row wb _ 1 _ _ _ b3]; rfl
      have q2 : wb.cell? ⟨w.heap.size, 2, none⟩ = some (.int .i64 fr) := by rw [cell_of_row wb _ 2 _ _ _ b3]; rfl
      have q3 : wb.cell? ⟨w.heap.size, 3, none⟩ = some (.int .i64 to) := by rw [cell_of_row wb _ 3 _ _ _ b3]; rfl
      have q4 : wb.cell? ⟨w.heap.size, 4, none⟩ = some (.string mt) := by rw [cell_of_row wb _ 4 _ _ _ b3]; rfl
      have q5 : wb.cell? ⟨w.heap.size, 5, none⟩ = some (.bool mw) := by rw [cell_of_row wb _ 5 _ _ _ b3]; rfl
      have q6 : wb.cell? ⟨w.heap.size, 6, none⟩ = some (.string nt) := by rw [cell_of_row wb _ 6 _ _ _ b3]; rfl
      have q7 : wb.cell? ⟨w.heap.size, 7, none⟩ = some (.bool nw) := by rw [cell_of_row wb _ 7 _ _ _ b3]; rfl
      have q8 : wb.cell? ⟨w.heap.size, 8, none⟩ = some (.int .i64 en) := by rw [cell_of_row wb _ 8 _ _ _ b3]; rfl
      have q9 : wb.cell? ⟨w.heap.size, 9, none⟩ = some (.int .i64 sa) := by rw [cell_of_row wb _ 9 _ _ _ b3]; rfl
      have q10 : wb.cell? ⟨w.heap.size, 10, none⟩ = some (.int .i64 mo) := by rw [cell_of_row wb _ 10 _ _ _ b3]; rfl
      have q11 : wb.cell? ⟨w.heap.size, 11, none⟩ = some (.int .i64 ge) := by rw [cell_of_row wb _ 11 _ _ _ b3]; rfl
      have q12 : wb.cell? ⟨w.heap.size, 12, none⟩ = some (.int .i64 fr) := by rw [cell_of_row wb _ 12 _ _ _ b3]; rfl
      have q13 : wb.cell? ⟨w.heap.size, 13, none⟩ = some (.int .i64 0) := by rw [cell_of_row wb _ 13 _ _ _ b3]; rfl
      have q14 : wb.cell? ⟨w.heap.size, 14, none⟩ = some (.int .i64 0) := by rw [cell_of_row wb _ 14 _ _ _ b3]; rfl
      have q15 : wb.cell? ⟨w.heap.size, 15, none⟩ = some (.slice none 0 0) := by rw [cell_of_row wb _ 15 _ _ _ b3]; rfl
      have hR : ∀ o1, (wb.alloc o1).ownsRow N 57 16 (.slice A ys.length c) ys.length (rows ys) := fun o1 => (b1.row hrow fun x hx e => hd1 (by simp at e; rwa [e] at hx)).alloc o1
      have hN2 : ∀ cs, (wb.alloc (.cells cs 57)).heap[wb.heap.size]? = some (.cells cs 57 (0, 0)) := fun cs => heap_alloc_new wb _
      have hNb : ∀ o1, N ≤ (wb.alloc o1).heap.size := fun o1 => by have := b1.size; simp; omega
      have hT2 : ∀ o1, Turn [tb] w (wb.alloc o1) := fun o1 => b1.alloc o1
      have hK : ∀ o1, (wb.alloc o1).heap[tb]? = some (.cells #[.slice A ys.length c, .int .i64 (la + 1)] 51 (0, 0)) := fun o1 => by rw [Below.heap_alloc _ _ _ (blk_lt b2)]; exact b2
      have e1' : ∀ o1, (wb.alloc o1).cell? ⟨tb, 0, none⟩ = some (.slice A ys.length c) := fun o1 => ((Ext.refl wb).alloc o1).cell c0'
      have HR := Lib.hid hR
      have HN2 := Lib.hid hN2
      have HT2 := Lib.hid hT2
      have HK := Lib.hid hK
      clear hR hN2 hT2 hK b1 b2 b3 hrow hblk hd1 c0 c1
      go_upto_region 7 with (fail)
      go_region_law (refine step_append_new _ (by rfl) _ _ 49 (by rfl) N 57 _ 16 168 Try.underlying49 info57 rfl (by omega) (.slice A ys.length c) ys.length _ (by rfl) (HR.out _) wb.heap.size 1 1 #[.int .i64 (la + 1), .string obj, .int .i64 fr, .int .i64 to, .string mt, .bool mw, .string nt, .bool nw, .int .i64 en, .int .i64 sa, .int .i64 mo, .int .i64 ge, .int .i64 fr, .int .i64 0, .int .i64 0, .slice none 0 0] (0, 0) (by rfl) (HN2.out _) (by rfl) (by simp [Value.oneCell']) (by simp [maxLen]; omega) (by omega) (hNb _) ?_; intro v1 w3 hown2 hm2; obtain ⟨A1, k1, rfl, _⟩ := own_shape hown2; obtain ⟨d1, d2, d5, d3⟩ := HP.out _ w3 _ (HT2.out _).drew (HK.out _) hown2 hm2; have D3 := Lib.hid d3; clear d3 hown2 hm2)
      all_goals
        go_wp2
        exact bodyPost_ret (v := .tuple #[.int .i64 (la + 1), .int .i64 0]) (by simp [results, Try.results19, go_sem]) rfl D3.out
    · rw [hm] at hm2
      have hm3 := hm
      simp only [List.isEmpty_iff] at hm3
      have hw : mw = true := by rw [hm2] at h5; simpa using h5
      subst hw
      clear h5
      have x1 : Ext w ((w.alloc (.cells #[.int .i64 0, .string obj, .int .i64 fr, .int .i64 to, .string mt, .bool true, .string nt, .bool nw, .int .i64 en, .int .i64 sa, .int .i64 mo, .int .i64 ge, .int .i64 0, .int .i64 0, .int .i64 0, .slice none 0 0] 57)).alloc (.cells #[.int .i64 fr, .int .i64 to] 24)) := ((Ext.refl w).alloc _).alloc _
      have p0 : ((w.alloc (.cells #[.int .i64 0, .string obj, .int .i64 fr, .int .i64 to, .string mt, .bool true, .string nt, .bool nw, .int .i64 en, .int .i64 sa, .int .i64 mo, .int .i64 ge, .int .i64 0, .int .i64 0, .int .i64 0, .slice none 0 0] 57)).alloc (.cells #[.int .i64 fr, .int .i64 to] 24)).heap[w.heap.size]? = some (.cells #[.int .i64 0, .string obj, .int .i64 fr, .int .i64 to, .string mt, .bool true, .string nt, .bool nw, .int .i64 en, .int .i64 sa, .int .i64 mo, .int .i64 ge, .int .i64 0, .int .i64 0, .int .i64 0, .slice none 0 0] 57 (0, 0)) := by
        rw [Below.heap_alloc _ _ _ (by simp)]; exact heap_alloc_new w _
      have p1 : ((w.alloc (.cells #[.int .i64 0, .string obj, .int .i64 fr, .int .i64 to, .string mt, .bool true, .string nt, .bool nw, .int .i64 en, .int .i64 sa, .int .i64 mo, .int .i64 ge, .int .i64 0, .int .i64 0, .int .i64 0, .slice none 0 0] 57)).alloc (.cells #[.int .i64 fr, .int .i64 to] 24)).heap[w.heap.size + 1]? = some (.cells #[.int .i64 fr, .int .i64 to] 24 (0, 0)) := by
        have := heap_alloc_new (w.alloc (.cells #[.int .i64 0, .string obj, .int .i64 fr, .int .i64 to, .string mt, .bool true, .string nt, .bool nw, .int .i64 en, .int .i64 sa, .int .i64 mo, .int .i64 ge, .int .i64 0, .int .i64 0, .int .i64 0, .slice none 0 0] 57)) (.cells #[.int .i64 fr, .int .i64 to] 24); simpa using this
      have c1' := x1.cell c1
      have z1' : ((w.alloc (.cells #[.int .i64 0, .string obj, .int .i64 fr, .int .i64 to, .string mt, .bool true, .string nt, .bool nw, .int .i64 en, .int .i64 sa, .int .i64 mo, .int .i64 ge, .int .i64 0, .int .i64 0, .int .i64 0, .slice none 0 0] 57)).alloc (.cells #[.int .i64 fr, .int .i64 to] 24)).frozen? ⟨tb, 1, none⟩ = false := by have := x1.block hblk; simp [World.frozen?, this]
      go_enter Try.func19, Try.ntmps19
      go_upto_region 6 with (fail)
      have hlt := blk_lt hblk
      have hne : w.heap.size ≠ tb := by omega
      have hne1 : w.heap.size + 1 ≠ tb := by omega
      have a1 : Turn [tb] w (((w.alloc (.cells #[.int .i64 0, .string obj, .int .i64 fr, .int .i64 to, .string mt, .bool true, .string nt, .bool nw, .int .i64 en, .int .i64 sa, .int .i64 mo, .int .i64 ge, .int .i64 0, .int .i64 0, .int .i64 0, .slice none 0 0] 57)).alloc (.cells #[.int .i64 fr, .int .i64 to] 24)).setCell ⟨tb, 1, none⟩ (.int .i64 (la + 1))) := (Turn.of_ext x1).setCell (fun _ => by simp) _
      have a2 : (((w.alloc (.cells #[.int .i64 0, .string obj, .int .i64 fr, .int .i64 to, .string mt, .bool true, .string nt, .bool nw, .int .i64 en, .int .i64 sa, .int .i64 mo, .int .i64 ge, .int .i64 0, .int .i64 0, .int .i64 0, .slice none 0 0] 57)).alloc (.cells #[.int .i64 fr, .int .i64 to] 24)).setCell ⟨tb, 1, none⟩ (.int .i64 (la + 1))).heap[tb]? = some (.cells #[.slice A ys.length c, .int .i64 (la + 1)] 51 (0, 0)) := by rw [heap_set_same (x1.block hblk)]; rfl
      have a3 : (((w.alloc (.cells #[.int .i64 0, .string obj, .int .i64 fr, .int .i64 to, .string mt, .bool true, .string nt, .bool nw, .int .i64 en, .int .i64 sa, .int .i64 mo, .int .i64 ge, .int .i64 0, .int .i64 0, .int .i64 0, .slice none 0 0] 57)).alloc (.cells #[.int .i64 fr, .int .i64 to] 24)).setCell ⟨tb, 1, none⟩ (.int .i64 (la + 1))).heap[w.heap.size]? = some (.cells #[.int .i64 0, .string obj, .int .i64 fr, .int .i64 to, .string mt, .bool true, .string nt, .bool nw, .int .i64 en, .int .i64 sa, .int .i64 mo, .int .i64 ge, .int .i64 0, .int .i64 0, .int .i64 0, .slice none 0 0] 57 (0, 0)) := by rw [heap_set_other hne]; exact p0
      have a4 : (((w.alloc (.cells #[.int .i64 0, .string obj, .int .i64 fr, .int .i64 to, .string mt, .bool true, .string nt, .bool nw, .int .i64 en, .int .i64 sa, .int .i64 mo, .int .i64 ge, .int .i64 0, .int .i64 0, .int .i64 0, .slice none 0 0] 57)).alloc (.cells #[.int .i64 fr, .int .i64 to] 24)).setCell ⟨tb, 1, none⟩ (.int .i64 (la + 1))).cell? ⟨w.heap.size + 1, 0, none⟩ = some (.int .i64 fr) := by
        rw [World.cell?_of_block (heap_set_other (b := w.heap.size + 1) hne1 _), cell_of_row _ _ 0 _ _ _ p1]; rfl
      clear p0 p1 c1' z1' x1
      generalize ((w.alloc (.cells #[.int .i64 0, .string obj, .int .i64 fr, .int .i64 to, .string mt, .bool true, .string nt, .bool nw, .int .i64 en, .int .i64 sa, .int .i64 mo, .int .i64 ge, .int .i64 0, .int .i64 0, .int .i64 0, .slice none 0 0] 57)).alloc (.cells #[.int .i64 fr, .int .i64 to] 24)).setCell ⟨tb, 1, none⟩ (.int .i64 (la + 1)) = wa at *
      have c1'' : wa.cell? ⟨tb, 1, none⟩ = some (.int .i64 (la + 1)) := by rw [cell_of_row wa tb 1 _ _ _ a2]; rfl
      have p0 : wa.cell? ⟨w.heap.size, 0, none⟩ = some (.int .i64 0) := by rw [cell_of_row wa _ 0 _ _ _ a3]; rfl
      have p12 : wa.cell? ⟨w.heap.size, 12, none⟩ = some (.int .i64 0) := by rw [cell_of_row wa _ 12 _ _ _ a3]; rfl
      have p15 : wa.cell? ⟨w.heap.size, 15, none⟩ = some (.slice none 0 0) := by rw [cell_of_row wa _ 15 _ _ _ a3]; rfl
      have z : ∀ i, wa.frozen? ⟨w.heap.size, i, none⟩ = false := fun i => by simp [World.frozen?, a3]
      go_region
      have b1 : Turn [tb] w (((wa.setCell ⟨w.heap.size, 0, none⟩ (.int .i64 (la + 1))).setCell ⟨w.heap.size, 12, none⟩ (.int .i64 fr)).setCell ⟨w.heap.size, 15, none⟩ (.slice none 0 0)).drew := (((a1.setCell (fun e => absurd e (Nat.lt_irrefl _)) _).setCell (fun e => absurd e (Nat.lt_irrefl _)) _).setCell (fun e => absurd e (Nat.lt_irrefl _)) _).drew
      have b2 : (((wa.setCell ⟨w.heap.size, 0, none⟩ (.int .i64 (la + 1))).setCell ⟨w.heap.size, 12, none⟩ (.int .i64 fr)).setCell ⟨w.heap.size, 15, none⟩ (.slice none 0 0)).drew.heap[tb]? = some (.cells #[.slice A ys.length c, .int .i64 (la + 1)] 51 (0, 0)) := by
        show (((wa.setCell _ _).setCell _ _).setCell _ _).heap[tb]? = _
        rw [heap_set_other hne.symm, heap_set_other hne.symm, heap_set_other hne.symm]; exact a2
      have b3 : (((wa.setCell ⟨w.heap.size, 0, none⟩ (.int .i64 (la + 1))).setCell ⟨w.heap.size, 12, none⟩ (.int .i64 fr)).setCell ⟨w.heap.size, 15, none⟩ (.slice none 0 0)).drew.heap[w.heap.size]? = some (.cells #[.int .i64 (la + 1), .string obj, .int .i64 fr, .int .i64 to, .string mt, .bool true, .string nt, .bool nw, .int .i64 en, .int .i64 sa, .int .i64 mo, .int .i64 ge, .int .i64 fr, .int .i64 0, .int .i64 0, .slice none 0 0] 57 (0, 0)) := by
        show (((wa.setCell _ _).setCell _ _).setCell _ _).heap[w.heap.size]? = _
        rw [heap_set_same (heap_set_same (heap_set_same a3 _) _)]; rfl
      clear a1 a2 a3 a4 c1'' p0 p12 p15 z
      generalize (((wa.setCell ⟨w.heap.size, 0, none⟩ (.int .i64 (la + 1))).setCell ⟨w.heap.size, 12, none⟩ (.int .i64 fr)).setCell ⟨w.heap.size, 15, none⟩ (.slice none 0 0)).drew = wb at *
      have c0' : wb.cell? ⟨tb, 0, none⟩ = some (.slice A ys.length c) := by rw [cell_of_row wb tb 0 _ _ _ b2]; rfl
      have q0 : wb.cell? ⟨w.heap.size, 0, none⟩ = some (.int .i64 (la + 1)) := by rw [cell_of_row wb _ 0 _ _ _ b3]; rfl
      have q1 : wb.cell? ⟨w.heap.size, 1, none⟩ = some (.string obj) := by rw [cell_of_row wb _ 1 _ _ _ b3]; rfl
      have q2 : wb.cell? ⟨w.heap.size, 2, none⟩ = some (.int .i64 fr) := by rw [cell_of_row wb _ 2 _ _ _ b3]; rfl
      have q3 : wb.cell? ⟨w.heap.size, 3, none⟩ = some (.int .i64 to) := by rw [cell_of_row wb _ 3 _ _ _ b3]; rfl
      have q4 : wb.cell? ⟨w.heap.size, 4, none⟩ = some (.string mt) := by rw [cell_of_row wb _ 4 _ _ _ b3]; rfl
      have q5 : wb.cell? ⟨w.heap.size, 5, none⟩ = some (.bool true) := by rw [cell_of_row wb _ 5 _ _ _ b3]; rfl
      have q6 : wb.cell? ⟨w.heap.size, 6, none⟩ = some (.string nt) := by rw [cell_of_row wb _ 6 _ _ _ b3]; rfl
      have q7 : wb.cell? ⟨w.heap.size, 7, none⟩ = some (.bool nw) := by rw [cell_of_row wb _ 7 _ _ _ b3]; rfl
      have q8 : wb.cell? ⟨w.heap.size, 8, none⟩ = some (.int .i64 en) := by rw [cell_of_row wb _ 8 _ _ _ b3]; rfl
      have q9 : wb.cell? ⟨w.heap.size, 9, none⟩ = some (.int .i64 sa) := by rw [cell_of_row wb _ 9 _ _ _ b3]; rfl
      have q10 : wb.cell? ⟨w.heap.size, 10, none⟩ = some (.int .i64 mo) := by rw [cell_of_row wb _ 10 _ _ _ b3]; rfl
      have q11 : wb.cell? ⟨w.heap.size, 11, none⟩ = some (.int .i64 ge) := by rw [cell_of_row wb _ 11 _ _ _ b3]; rfl
      have q12 : wb.cell? ⟨w.heap.size, 12, none⟩ = some (.int .i64 fr) := by rw [cell_of_row wb _ 12 _ _ _ b3]; rfl
      have q13 : wb.cell? ⟨w.heap.size, 13, none⟩ = some (.int .i64 0) := by rw [cell_of_row wb _ 13 _ _ _ b3]; rfl
      have q14 : wb.cell? ⟨w.heap.size, 14, none⟩ = some (.int .i64 0) := by rw [cell_of_row wb _ 14 _ _ _ b3]; rfl
      have q15 : wb.cell? ⟨w.heap.size, 15, none⟩ = some (.slice none 0 0) := by rw [cell_of_row wb _ 15 _ _ _ b3]; rfl
      have hR : ∀ o1, (wb.alloc o1).ownsRow N 57 16 (.slice A ys.length c) ys.length (rows ys) := fun o1 => (b1.row hrow fun x hx e => hd1 (by simp at e; rwa [e] at hx)).alloc o1
      have hN2 : ∀ cs, (wb.alloc (.cells cs 57)).heap[wb.heap.size]? = some (.cells cs 57 (0, 0)) := fun cs => heap_alloc_new wb _
      have hNb : ∀ o1, N ≤ (wb.alloc o1).heap.size := fun o1 => by have := b1.size; simp; omega
      have hT2 : ∀ o1, Turn [tb] w (wb.alloc o1) := fun o1 => b1.alloc o1
      have hK : ∀ o1, (wb.alloc o1).heap[tb]? = some (.cells #[.slice A ys.length c, .int .i64 (la + 1)] 51 (0, 0)) := fun o1 => by rw [Below.heap_alloc _ _ _ (blk_lt b2)]; exact b2
      have e1' : ∀ o1, (wb.alloc o1).cell? ⟨tb, 0, none⟩ = some (.slice A ys.length c) := fun o1 => ((Ext.refl wb).alloc o1).cell c0'
      have HR := Lib.hid hR
      have HN2 := Lib.hid hN2
      have HT2 := Lib.hid hT2
      have HK := Lib.hid hK
      clear hR hN2 hT2 hK b1 b2 b3 hrow hblk hd1 c0 c1
      go_upto_region 7 with (fail)
      go_region_law (refine step_append_new _ (by rfl) _ _ 49 (by rfl) N 57 _ 16 168 Try.underlying49 info57 rfl (by omega) (.slice A ys.length c) ys.length _ (by rfl) (HR.out _) wb.heap.size 1 1 #[.int .i64 (la + 1), .string obj, .int .i64 fr, .int .i64 to, .string mt, .bool true, .string nt, .bool nw, .int .i64 en, .int .i64 sa, .int .i64 mo, .int .i64 ge, .int .i64 fr, .int .i64 0, .int .i64 0, .slice none 0 0] (0, 0) (by rfl) (HN2.out _) (by rfl) (by simp [Value.oneCell']) (by simp [maxLen]; omega) (by omega) (hNb _) ?_; intro v1 w3 hown2 hm2; obtain ⟨A1, k1, rfl, _⟩ := own_shape hown2; obtain ⟨d1, d2, d5, d3⟩ := HP.out _ w3 _ (HT2.out _).drew (HK.out _) hown2 hm2; have D3 := Lib.hid d3; clear d3 hown2 hm2)
      all_goals
        go_wp2
        exact bodyPost_ret (v := .tuple #[.int .i64 (la + 1), .int .i64 0]) (by simp [results, Try.results19, go_sem]) rfl D3.out

theorem startR_calls (N tb : Nat) (O : List Nat) (t : Tab) (f : Fl) (w : World) (h : RTabR N w tb O t) (hN : N ≤ w.heap.size) (hs : Small t) :
    Calls Try.prog 19 #[.pointer (some ⟨tb, 0, none⟩), agR { f with stop := 0 } (.slice none 0 0)] w (RAct N w tb O (t.start f).1 (.tuple #[.int .i64 (t.start f).2.1, .int .i64 (t.start f).2.2])) := by
  cases hf : starts f
  · have := startR_no N tb O t f w h hf
    simpa [Tab.start, hf] using this
  · have := startR_yes N tb O t f w h hN hs hf
    have e : (t.start f).2 = (t.last + 1, 0) := by simp [Tab.start, hf]
    rw [e]
    exact this
end Go.Proofs.Ytaanbgagdanalaa
