/- The contract of Start where a flight begins. -/
import Derived.Test.YtaanbgagdanalaaStart
import Derived.Deep.Cut
import Derived.Deep.RegionHeld3
namespace Go.Proofs.Ytaanbgagdanalaa
open Go.RowKit

theorem TabAt.push {N : Nat} {w w' : World} {tb b : Nat} {lv lv' : Value} {ys : List Fy} {last last' : Int} {f' : Fl} (h : TabAt N w tb lv ys last) (hN : N ≤ w.heap.size)
    (hb : w'.heap[b]? = some (.cells (cellsOf f' (.slice none 0 0)) 91 (0, 0))) (hbn : w.heap.size ≤ b) (hw : f'.who = [])
    (htb : w'.heap[tb]? = some (.cells #[lv', .int .i64 last'] 87 (0, 0))) (ht : Turn (tb :: ob lv) w w') (ho : Of (ob lv) (ob lv') w) (hne : b ∉ ob lv')
    (hr : w'.ownsRow N 89 1 lv' (ys.length + 1) ((ys ++ [(⟨f', b, .slice none 0 0⟩ : Fy)]).map fun y => Value.pointer (some ⟨y.b, 0, none⟩))) :
    TabAt N w' tb lv' (ys ++ [⟨f', b, .slice none 0 0⟩]) last' ∧ Of (ownT tb lv ys) (ownT tb lv' (ys ++ [⟨f', b, .slice none 0 0⟩])) w := by
  have hlt := blk_lt h.blk
  have hlv := row_lies h.row
  have hd1 : tb ∉ ob lv' := fun e => by
    rcases ho _ e with e | e
    · exact h.d1 e
    · omega
  have hget : ∀ j (hj : j < (ys ++ [(⟨f', b, .slice none 0 0⟩ : Fy)]).length), (∃ hj' : j < ys.length, (ys ++ [(⟨f', b, .slice none 0 0⟩ : Fy)])[j] = ys[j]) ∨ (j = ys.length ∧ (ys ++ [(⟨f', b, .slice none 0 0⟩ : Fy)])[j] = ⟨f', b, .slice none 0 0⟩) := fun j hj => by
    by_cases hj' : j < ys.length
    · exact .inl ⟨hj', by rw [List.getElem_append_left hj']⟩
    · have : j = ys.length := by simp at hj; omega
      subst this
      exact .inr ⟨rfl, by simp⟩
  have hown : (⟨f', b, .slice none 0 0⟩ : Fy).own = [b] := rfl
  have hap : ∀ i (hi : i < ys.length), Apart ys[i].own [b] := fun i hi x hx e => by
    have := ((h.all i hi).lies x hx).2
    simp at e; omega
  refine ⟨⟨h.low, htb, by simpa using hr, ?_, hd1, ?_, ?_⟩, ?_⟩
  · intro j hj
    rcases hget j hj with ⟨hj', e⟩ | ⟨rfl, e⟩
    · rw [e]; exact (h.all j hj').keep ht (h.d2 j hj')
    · rw [e]
      exact ⟨by show N ≤ b; omega, hb, by rw [hw]; exact World.ownsRow_nil _ _ _ _, by simp [ob, Value.ownBlock]⟩
  · intro j hj
    rcases hget j hj with ⟨hj', e⟩ | ⟨rfl, e⟩
    · rw [e]
      intro x hx e2
      have hx2 := ((h.all j hj').lies x hx).2
      rcases List.mem_cons.1 e2 with rfl | e2
      · exact h.d2 j hj' _ hx (List.mem_cons_self ..)
      · rcases ho _ e2 with e3 | e3
        · exact h.d2 j hj' _ hx (List.mem_cons_of_mem _ e3)
        · omega
    · rw [e, hown]
      intro x hx e2
      simp at hx
      subst hx
      rcases List.mem_cons.1 e2 with rfl | e2
      · omega
      · exact hne e2
  · intro i j hi hj hij
    rcases hget i hi with ⟨hi', e⟩ | ⟨rfl, e⟩ <;> rcases hget j hj with ⟨hj', e2⟩ | ⟨rfl, e2⟩
    · rw [e, e2]; exact h.d3 i j hi' hj' hij
    · rw [e, e2, hown]; exact hap i hi'
    · rw [e, e2, hown]; exact (hap j hj').symm
    · omega
  · intro x hx
    rcases mem_ownT.1 hx with rfl | hx | ⟨j, hj, hx⟩
    · exact .inl (mem_ownT.2 (.inl rfl))
    · exact (ho x hx).imp_left fun e => mem_ownT.2 (.inr (.inl e))
    · rcases hget j hj with ⟨hj', e⟩ | ⟨rfl, e⟩
      · rw [e] at hx; exact .inl (mem_ownT.2 (.inr (.inr ⟨j, hj', hx⟩)))
      · rw [e, hown] at hx
        simp at hx
        exact .inr (by omega)

theorem info89 : (Try.prog.info? 89).map (fun i => (i.zero, i.size, i.bytes)) = some (some (.pointer none), 1, 8) := by kernel_rfl

set_option maxHeartbeats 4000000 in
set_option maxRecDepth 100000 in
theorem start_yes (N tb : Nat) (O : List Nat) (t : Tab) (f : Fl) (w : World) (h : TabR N w tb O t) (hN : N ≤ w.heap.size) (hs : Small t) (hf : starts f = true) :
    Calls Try.prog 11 #[.pointer (some ⟨tb, 0, none⟩), agF f] w (Act N w tb O (t.start f).1 (.tuple #[.int .i64 (t.last + 1), .int .i64 0])) := by
  have et : (t.start f).1 = ⟨t.l ++ [{ f with id := t.last + 1, pl := f.fr, stop := 0, who := [] }], t.last + 1⟩ := by simp [Tab.start, hf]
  rw [et]
  obtain ⟨lv, ys, hT, el, rfl⟩ := h
  obtain ⟨s1, s2, s2', s3, s4⟩ := hs
  rw [el] at s1
  have hl : ys.length ≤ 1000 := by simpa using s1
  obtain ⟨h1, h2, h3, h4, h5, h6, h7, h8⟩ := starts_yes f hf
  have HP : ∀ W W' v' b, Turn [tb] w W → W.heap[tb]? = some (.cells #[lv, .int .i64 (t.last + 1)] 87 (0, 0)) → W.heap[b]? = some (.cells (cellsOf { f with id := t.last + 1, pl := f.fr, stop := 0, who := [] } (.slice none 0 0)) 91 (0, 0)) → w.heap.size ≤ b →
      W'.ownsRow N 89 1 v' (ys.length + 1) ((ys.map fun y => Value.pointer (some ⟨y.b, 0, none⟩)) ++ [.pointer (some ⟨b, 0, none⟩)]) → Moved W W' lv v' →
      W'.cell? ⟨tb, 0, none⟩ = some lv ∧ W'.frozen? ⟨tb, 0, none⟩ = false ∧ (∀ u, W.cell? ⟨w.heap.size, 0, none⟩ = some u → W'.cell? ⟨w.heap.size, 0, none⟩ = some u) ∧
      ∀ w3, Ext (W'.setCell ⟨tb, 0, none⟩ v') w3 → Act N w tb (ownT tb lv ys) ⟨t.l ++ [{ f with id := t.last + 1, pl := f.fr, stop := 0, who := [] }], t.last + 1⟩ (.tuple #[.int .i64 (t.last + 1), .int .i64 0]) (.returned (.tuple #[.int .i64 (t.last + 1), .int .i64 0])) w3 := by
    intro W W' v' b a1 a2 a3 a4 a5 a6
    obtain ⟨m1, m2⟩ := moved_turn a6
    have b1 := m1.blk a2 hT.d1
    have hlv := row_lies hT.row
    have b2 := m1.blk a3 (fun e => by have := (hlv _ e).2; omega)
    have ho : Of (ob lv) (ob v') w := fun x hx => (m2 x hx).imp_right fun e => Nat.le_trans a1.size e
    have hne : b ∉ ob v' := fun e => by
      rcases m2 _ e with e | e
      · have := (hlv _ e).2; omega
      · have := blk_lt a3; omega
    refine ⟨by rw [cell_of_row W' tb 0 _ _ _ b1]; rfl, by simp [World.frozen?, b1], fun u hu => m1.cell hu (fun e => absurd (hlv _ e).2 (Nat.lt_irrefl _)), fun w3 hx => ?_⟩
    have hbt : b ≠ tb := fun e => by have := blk_lt hT.blk; omega
    have ht : Turn (tb :: ob lv) w (W'.setCell ⟨tb, 0, none⟩ v') := ((a1.mono fun x hx _ => by simp at hx; simp [hx]).trans (m1.mono fun x hx _ => List.mem_cons_of_mem _ hx)).setCell (fun _ => by simp) v'
    have htv : tb ∉ ob v' := fun e => by
      rcases ho _ e with e | e
      · exact hT.d1 e
      · have := blk_lt hT.blk; omega
    have hr := ((Turn.refl [tb] W').setCell (p := ⟨tb, 0, none⟩) (fun _ => by simp) v').row a5 fun x hx e => htv (by simp at e; rwa [e] at hx)
    obtain ⟨p1, p2⟩ := hT.push (w' := W'.setCell ⟨tb, 0, none⟩ v') (b := b) (lv' := v') (last' := t.last + 1) (f' := { f with id := t.last + 1, pl := f.fr, stop := 0, who := [] }) hN
      (by rw [heap_set_other hbt]; exact b2) a4 rfl (by rw [heap_set_same b1]; rfl) ht ho hne (by simpa using hr)
    refine ⟨rfl, _, TabR.ext ⟨v', _, p1, by simp [el], rfl⟩ hx, (ht.mono fun x hx _ => ?_).ext hx, p2⟩
    rcases List.mem_cons.1 hx with rfl | hx
    · exact mem_ownT.2 (.inl rfl)
    · exact mem_ownT.2 (.inr (.inl hx))
  have hHP := Lib.hid HP
  have hd1 := hT.d1
  obtain ⟨A, c, rfl, hcap⟩ := own_shape hT.row
  have c0 := hT.c0
  have c1 := hT.c1
  have hblk := hT.blk
  have hrow := hT.row
  have hb : 0 < f.en → ∀ w, (binOp .eql 26 (.agg #[.string f.mt, .bool f.mw]) (.agg #[.string ⟨#[]⟩, .bool false])).run Try.prog w = .ok (.bool false) w := fun h9 w => by
    rcases h4 with h4 | ⟨_, h4⟩
    · omega
    · rw [eql26z, h4]
  have hen : f.en = 0 ∨ 0 < f.en := by rcases h4 with h4 | ⟨h4, _⟩ <;> omega
  have hright := fun w => right_calls f.fr f.to w
  rw [h5] at hright
  clear hT HP et s3 s4 s1 h4
  obtain ⟨id, obj, fr, to, mt, mw, nt, nw, en, sa, mo, ge, pl, he, stop, who⟩ := f
  dsimp only at h1 h2 h3 h5 h6 h7 h8 hb hen hright hHP
  subst h1 h2 h3
  clear hf h5
  generalize t.last = la at *
  generalize t.l = tl at *
  have HB := Lib.hid hb
  clear hb el
  unfold agF
  rcases hen with rfl | hen
  · clear HB
    go_enter Try.func11, Try.ntmps11
    go_wp2_with fail
    refine (hright _).mono ?_
    rintro e w1 ⟨rfl, hx⟩
    have HX := (((Ext.refl w).alloc _).alloc _).trans hx
    have s0 : w1.cell? ⟨w.heap.size + 1, 0, none⟩ = some (.int .i64 fr) := hx.cell (by simp)
    have s1 : w1.cell? ⟨w.heap.size + 1, 1, none⟩ = some (.int .i64 to) := hx.cell (by simp)
    have p0 : w1.heap[w.heap.size]? = some (.cells #[.int .i64 0, .string obj, .int .i64 fr, .int .i64 to, .string mt, .bool mw, .string nt, .bool nw, .int .i64 0, .int .i64 sa, .int .i64 mo, .int .i64 ge, .int .i64 0, .bool false] 30 (0, 0)) := by
      refine hx.block ?_
      rw [Below.heap_alloc _ _ _ (by simp)]
      exact heap_alloc_new w _
    have hlt := blk_lt hblk
    replace hblk := HX.block hblk
    replace c0 := HX.cell c0
    replace c1 := HX.cell c1
    have z1 : w1.frozen? ⟨tb, 1, none⟩ = false := by simp [World.frozen?, hblk]
    have hsz := HX.size
    have hne : w.heap.size ≠ tb := by omega
    clear hx
    go_upto_region 5 with (fail)
    have a1 : Turn [tb] w (w1.setCell ⟨tb, 1, none⟩ (.int .i64 (la + 1))) := (Turn.of_ext HX).setCell (fun _ => by simp) _
    have a2 : (w1.setCell ⟨tb, 1, none⟩ (.int .i64 (la + 1))).heap[tb]? = some (.cells #[.slice A ys.length c, .int .i64 (la + 1)] 87 (0, 0)) := by rw [heap_set_same hblk]; rfl
    have a3 : (w1.setCell ⟨tb, 1, none⟩ (.int .i64 (la + 1))).heap[w.heap.size]? = some (.cells #[.int .i64 0, .string obj, .int .i64 fr, .int .i64 to, .string mt, .bool mw, .string nt, .bool nw, .int .i64 0, .int .i64 sa, .int .i64 mo, .int .i64 ge, .int .i64 0, .bool false] 30 (0, 0)) := by rw [heap_set_other hne]; exact p0
    have a4 : (w1.setCell ⟨tb, 1, none⟩ (.int .i64 (la + 1))).cell? ⟨w.heap.size + 1, 0, none⟩ = some (.int .i64 fr) := by
      rw [World.cell?_of_block (heap_set_other (b := w.heap.size + 1) (by omega) _)]; exact s0
    clear c0 c1 z1 hblk p0 s0 s1 HX hright
    generalize w1.setCell ⟨tb, 1, none⟩ (.int .i64 (la + 1)) = wa at *
    have c1 : wa.cell? ⟨tb, 1, none⟩ = some (.int .i64 (la + 1)) := by rw [cell_of_row wa tb 1 _ _ _ a2]; rfl
    have p0 : wa.cell? ⟨w.heap.size, 0, none⟩ = some (.int .i64 0) := by rw [cell_of_row wa _ 0 _ _ _ a3]; rfl
    have p12 : wa.cell? ⟨w.heap.size, 12, none⟩ = some (.int .i64 0) := by rw [cell_of_row wa _ 12 _ _ _ a3]; rfl
    have z : ∀ i, wa.frozen? ⟨w.heap.size, i, none⟩ = false := fun i => by simp [World.frozen?, a3]
    go_region
    have b1 : Turn [tb] w ((wa.setCell ⟨w.heap.size, 0, none⟩ (.int .i64 (la + 1))).setCell ⟨w.heap.size, 12, none⟩ (.int .i64 fr)).drew := ((a1.setCell (fun e => absurd e (Nat.lt_irrefl _)) _).setCell (fun e => absurd e (Nat.lt_irrefl _)) _).drew
    have b2 : ((wa.setCell ⟨w.heap.size, 0, none⟩ (.int .i64 (la + 1))).setCell ⟨w.heap.size, 12, none⟩ (.int .i64 fr)).drew.heap[tb]? = some (.cells #[.slice A ys.length c, .int .i64 (la + 1)] 87 (0, 0)) := by
      show ((wa.setCell _ _).setCell _ _).heap[tb]? = _
      rw [heap_set_other hne.symm, heap_set_other hne.symm]; exact a2
    have b3 : ((wa.setCell ⟨w.heap.size, 0, none⟩ (.int .i64 (la + 1))).setCell ⟨w.heap.size, 12, none⟩ (.int .i64 fr)).drew.heap[w.heap.size]? = some (.cells #[.int .i64 (la + 1), .string obj, .int .i64 fr, .int .i64 to, .string mt, .bool mw, .string nt, .bool nw, .int .i64 0, .int .i64 sa, .int .i64 mo, .int .i64 ge, .int .i64 fr, .bool false] 30 (0, 0)) := by
      show ((wa.setCell _ _).setCell _ _).heap[w.heap.size]? = _
      rw [heap_set_same (heap_set_same a3 _)]; rfl
    clear a1 a2 a3 a4 c1 p0 p12 z
    generalize ((wa.setCell ⟨w.heap.size, 0, none⟩ (.int .i64 (la + 1))).setCell ⟨w.heap.size, 12, none⟩ (.int .i64 fr)).drew = wb at *
    have c0 : wb.cell? ⟨tb, 0, none⟩ = some (.slice A ys.length c) := by rw [cell_of_row wb tb 0 _ _ _ b2]; rfl
    have q0 : wb.cell? ⟨w.heap.size, 0, none⟩ = some (.int .i64 (la + 1)) := by rw [cell_of_row wb _ 0 _ _ _ b3]; rfl
    have q1 : wb.cell? ⟨w.heap.size, 1, none⟩ = some (.string obj) := by rw [cell_of_row wb _ 1 _ _ _ b3]; rfl
    have q2 : wb.cell? ⟨w.heap.size, 2, none⟩ = some (.int .i64 fr) := by rw [cell_of_row wb _ 2 _ _ _ b3]; rfl
    have q3 : wb.cell? ⟨w.heap.size, 3, none⟩ = some (.int .i64 to) := by rw [cell_of_row wb _ 3 _ _ _ b3]; rfl
    have q4 : wb.cell? ⟨w.heap.size, 4, none⟩ = some (.string mt) := by rw [cell_of_row wb _ 4 _ _ _ b3]; rfl
    have q5 : wb.cell? ⟨w.heap.size, 5, none⟩ = some (.bool mw) := by rw [cell_of_row wb _ 5 _ _ _ b3]; rfl
    have q6 : wb.cell? ⟨w.heap.size, 6, none⟩ = some (.string nt) := by rw [cell_of_row wb _ 6 _ _ _ b3]; rfl
    have q7 : wb.cell? ⟨w.heap.size, 7, none⟩ = some (.bool nw) := by rw [cell_of_row wb _ 7 _ _ _ b3]; rfl
    have q8 : wb.cell? ⟨w.heap.size, 8, none⟩ = some (.int .i64 0) := by rw [cell_of_row wb _ 8 _ _ _ b3]; rfl
    have q9 : wb.cell? ⟨w.heap.size, 9, none⟩ = some (.int .i64 sa) := by rw [cell_of_row wb _ 9 _ _ _ b3]; rfl
    have q10 : wb.cell? ⟨w.heap.size, 10, none⟩ = some (.int .i64 mo) := by rw [cell_of_row wb _ 10 _ _ _ b3]; rfl
    have q11 : wb.cell? ⟨w.heap.size, 11, none⟩ = some (.int .i64 ge) := by rw [cell_of_row wb _ 11 _ _ _ b3]; rfl
    have q12 : wb.cell? ⟨w.heap.size, 12, none⟩ = some (.int .i64 fr) := by rw [cell_of_row wb _ 12 _ _ _ b3]; rfl
    have q13 : wb.cell? ⟨w.heap.size, 13, none⟩ = some (.bool false) := by rw [cell_of_row wb _ 13 _ _ _ b3]; rfl
    go_upto_region 6 with (fail)
    have hR : ∀ o1 o2, ((wb.alloc o1).alloc o2).ownsRow N 89 1 (.slice A ys.length c) ys.length (ys.map fun y => Value.pointer (some ⟨y.b, 0, none⟩)) := fun o1 o2 => ((b1.row hrow fun x hx e => hd1 (by simp at e; rwa [e] at hx)).alloc o1).alloc o2
    have hB : ∀ o2, ((wb.alloc (.cells (cellsOf ⟨la + 1, obj, fr, to, mt, mw, nt, nw, 0, sa, mo, ge, fr, false, 0, []⟩ (.slice none 0 0)) 91)).alloc o2).heap[wb.heap.size]? = some (.cells (cellsOf ⟨la + 1, obj, fr, to, mt, mw, nt, nw, 0, sa, mo, ge, fr, false, 0, []⟩ (.slice none 0 0)) 91 (0, 0)) := fun o2 => by
      rw [Below.heap_alloc _ _ _ (by simp)]
      exact heap_alloc_new wb _
    have hNb : ∀ o1 o2, N ≤ ((wb.alloc o1).alloc o2).heap.size := fun o1 o2 => by have := b1.size; simp; omega
    have hT2 : ∀ o1 o2, Turn [tb] w ((wb.alloc o1).alloc o2) := fun o1 o2 => (b1.alloc o1).alloc o2
    have hK : ∀ o1 o2, ((wb.alloc o1).alloc o2).heap[tb]? = some (.cells #[.slice A ys.length c, .int .i64 (la + 1)] 87 (0, 0)) := fun o1 o2 => by
      have := blk_lt b2
      rw [Below.heap_alloc _ _ _ (by simp; omega), Below.heap_alloc _ _ _ this]
      exact b2
    have hN2 : ∀ o1 cs, ((wb.alloc o1).alloc (.cells cs 89)).heap[wb.heap.size + 1]? = some (.cells cs 89 (0, 0)) := fun o1 cs => by have := heap_alloc_new (wb.alloc o1) (.cells cs 89); simpa using this
    have HN2 := Lib.hid hN2
    have e1 : ∀ o1, (wb.alloc o1).cell? ⟨tb, 0, none⟩ = some (.slice A ys.length c) := fun o1 => ((Ext.refl wb).alloc o1).cell c0
    have e2 : ∀ o1 o2, ((wb.alloc o1).alloc o2).cell? ⟨tb, 0, none⟩ = some (.slice A ys.length c) := fun o1 o2 => (((Ext.refl wb).alloc o1).alloc o2).cell c0
    have E3 := Lib.hid (show ∀ o1 o2, ((wb.alloc o1).alloc o2).cell? ⟨w.heap.size, 0, none⟩ = some (.int .i64 (la + 1)) from fun o1 o2 => (((Ext.refl wb).alloc o1).alloc o2).cell q0)
    have HR := Lib.hid hR
    have HBB := Lib.hid hB
    have HT2 := Lib.hid hT2
    have HK := Lib.hid hK
    have hsb := b1.size
    clear hN2 hR hB hT2 hK b1 b2 b3 hrow
    go_region_law (refine step_append_new _ (by rfl) _ _ 85 (by rfl) N 89 _ 1 8 Try.underlying85 info89 rfl (by omega) (.slice A ys.length c) ys.length _ (by rfl) (HR.out _ _) (wb.heap.size + 1) 1 1 #[.pointer (some ⟨wb.heap.size, 0, none⟩)] (0, 0) (by rfl) (HN2.out _ _) (by rfl) (by simp [Value.oneCell']) (by simp [maxLen]; omega) (by omega) (hNb _ _) ?_; intro v1 w3 hown2 hm2; obtain ⟨A1, k1, rfl, _⟩ := own_shape hown2; obtain ⟨d1, d2, d4, d3⟩ := hHP.out _ w3 _ wb.heap.size (HT2.out _ _).drew (HK.out _ _) (HBB.out _) hsb hown2 hm2; have d5 := d4 _ (E3.out _ _); have D3 := Lib.hid d3; clear d4 d3 hown2 hm2)
    all_goals
      go_wp2
      exact bodyPost_ret (v := .tuple #[.int .i64 (la + 1), .int .i64 0]) (by simp [results, Try.results11, go_sem]) rfl (D3.out _ (Ext.refl _))
  · have hb := HB.out hen
    have hg26 := guard26
    have e1 : ¬ en < 0 := by omega
    have e2 : (en == 0) = false := by simp; omega
    have e3 : (en != 0) = true := by simp; omega
    clear HB
    go_enter Try.func11, Try.ntmps11
    go_wp2_with fail
    refine (hright _).mono ?_
    rintro e w1 ⟨rfl, hx⟩
    have HX := (((Ext.refl w).alloc _).alloc _).trans hx
    have s0 : w1.cell? ⟨w.heap.size + 1, 0, none⟩ = some (.int .i64 fr) := hx.cell (by simp)
    have s1 : w1.cell? ⟨w.heap.size + 1, 1, none⟩ = some (.int .i64 to) := hx.cell (by simp)
    have p0 : w1.heap[w.heap.size]? = some (.cells #[.int .i64 0, .string obj, .int .i64 fr, .int .i64 to, .string mt, .bool mw, .string nt, .bool nw, .int .i64 en, .int .i64 sa, .int .i64 mo, .int .i64 ge, .int .i64 0, .bool false] 30 (0, 0)) := by
      refine hx.block ?_
      rw [Below.heap_alloc _ _ _ (by simp)]
      exact heap_alloc_new w _
    have hlt := blk_lt hblk
    replace hblk := HX.block hblk
    replace c0 := HX.cell c0
    replace c1 := HX.cell c1
    have z1 : w1.frozen? ⟨tb, 1, none⟩ = false := by simp [World.frozen?, hblk]
    have hsz := HX.size
    have hne : w.heap.size ≠ tb := by omega
    clear hx hb hg26 e1 e2 e3
    go_upto_region 5 with (fail)
    have a1 : Turn [tb] w (w1.setCell ⟨tb, 1, none⟩ (.int .i64 (la + 1))) := (Turn.of_ext HX).setCell (fun _ => by simp) _
    have a2 : (w1.setCell ⟨tb, 1, none⟩ (.int .i64 (la + 1))).heap[tb]? = some (.cells #[.slice A ys.length c, .int .i64 (la + 1)] 87 (0, 0)) := by rw [heap_set_same hblk]; rfl
    have a3 : (w1.setCell ⟨tb, 1, none⟩ (.int .i64 (la + 1))).heap[w.heap.size]? = some (.cells #[.int .i64 0, .string obj, .int .i64 fr, .int .i64 to, .string mt, .bool mw, .string nt, .bool nw, .int .i64 en, .int .i64 sa, .int .i64 mo, .int .i64 ge, .int .i64 0, .bool false] 30 (0, 0)) := by rw [heap_set_other hne]; exact p0
    have a4 : (w1.setCell ⟨tb, 1, none⟩ (.int .i64 (la + 1))).cell? ⟨w.heap.size + 1, 0, none⟩ = some (.int .i64 fr) := by
      rw [World.cell?_of_block (heap_set_other (b := w.heap.size + 1) (by omega) _)]; exact s0
    clear c0 c1 z1 hblk p0 s0 s1 HX hright
    generalize w1.setCell ⟨tb, 1, none⟩ (.int .i64 (la + 1)) = wa at *
    have c1 : wa.cell? ⟨tb, 1, none⟩ = some (.int .i64 (la + 1)) := by rw [cell_of_row wa tb 1 _ _ _ a2]; rfl
    have p0 : wa.cell? ⟨w.heap.size, 0, none⟩ = some (.int .i64 0) := by rw [cell_of_row wa _ 0 _ _ _ a3]; rfl
    have p12 : wa.cell? ⟨w.heap.size, 12, none⟩ = some (.int .i64 0) := by rw [cell_of_row wa _ 12 _ _ _ a3]; rfl
    have z : ∀ i, wa.frozen? ⟨w.heap.size, i, none⟩ = false := fun i => by simp [World.frozen?, a3]
    go_region
    have b1 : Turn [tb] w ((wa.setCell ⟨w.heap.size, 0, none⟩ (.int .i64 (la + 1))).setCell ⟨w.heap.size, 12, none⟩ (.int .i64 fr)).drew := ((a1.setCell (fun e => absurd e (Nat.lt_irrefl _)) _).setCell (fun e => absurd e (Nat.lt_irrefl _)) _).drew
    have b2 : ((wa.setCell ⟨w.heap.size, 0, none⟩ (.int .i64 (la + 1))).setCell ⟨w.heap.size, 12, none⟩ (.int .i64 fr)).drew.heap[tb]? = some (.cells #[.slice A ys.length c, .int .i64 (la + 1)] 87 (0, 0)) := by
      show ((wa.setCell _ _).setCell _ _).heap[tb]? = _
      rw [heap_set_other hne.symm, heap_set_other hne.symm]; exact a2
    have b3 : ((wa.setCell ⟨w.heap.size, 0, none⟩ (.int .i64 (la + 1))).setCell ⟨w.heap.size, 12, none⟩ (.int .i64 fr)).drew.heap[w.heap.size]? = some (.cells #[.int .i64 (la + 1), .string obj, .int .i64 fr, .int .i64 to, .string mt, .bool mw, .string nt, .bool nw, .int .i64 en, .int .i64 sa, .int .i64 mo, .int .i64 ge, .int .i64 fr, .bool false] 30 (0, 0)) := by
      show ((wa.setCell _ _).setCell _ _).heap[w.heap.size]? = _
      rw [heap_set_same (heap_set_same a3 _)]; rfl
    clear a1 a2 a3 a4 c1 p0 p12 z
    generalize ((wa.setCell ⟨w.heap.size, 0, none⟩ (.int .i64 (la + 1))).setCell ⟨w.heap.size, 12, none⟩ (.int .i64 fr)).drew = wb at *
    have c0 : wb.cell? ⟨tb, 0, none⟩ = some (.slice A ys.length c) := by rw [cell_of_row wb tb 0 _ _ _ b2]; rfl
    have q0 : wb.cell? ⟨w.heap.size, 0, none⟩ = some (.int .i64 (la + 1)) := by rw [cell_of_row wb _ 0 _ _ _ b3]; rfl
    have q1 : wb.cell? ⟨w.heap.size, 1, none⟩ = some (.string obj) := by rw [cell_of_row wb _ 1 _ _ _ b3]; rfl
    have q2 : wb.cell? ⟨w.heap.size, 2, none⟩ = some (.int .i64 fr) := by rw [cell_of_row wb _ 2 _ _ _ b3]; rfl
    have q3 : wb.cell? ⟨w.heap.size, 3, none⟩ = some (.int .i64 to) := by rw [cell_of_row wb _ 3 _ _ _ b3]; rfl
    have q4 : wb.cell? ⟨w.heap.size, 4, none⟩ = some (.string mt) := by rw [cell_of_row wb _ 4 _ _ _ b3]; rfl
    have q5 : wb.cell? ⟨w.heap.size, 5, none⟩ = some (.bool mw) := by rw [cell_of_row wb _ 5 _ _ _ b3]; rfl
    have q6 : wb.cell? ⟨w.heap.size, 6, none⟩ = some (.string nt) := by rw [cell_of_row wb _ 6 _ _ _ b3]; rfl
    have q7 : wb.cell? ⟨w.heap.size, 7, none⟩ = some (.bool nw) := by rw [cell_of_row wb _ 7 _ _ _ b3]; rfl
    have q8 : wb.cell? ⟨w.heap.size, 8, none⟩ = some (.int .i64 en) := by rw [cell_of_row wb _ 8 _ _ _ b3]; rfl
    have q9 : wb.cell? ⟨w.heap.size, 9, none⟩ = some (.int .i64 sa) := by rw [cell_of_row wb _ 9 _ _ _ b3]; rfl
    have q10 : wb.cell? ⟨w.heap.size, 10, none⟩ = some (.int .i64 mo) := by rw [cell_of_row wb _ 10 _ _ _ b3]; rfl
    have q11 : wb.cell? ⟨w.heap.size, 11, none⟩ = some (.int .i64 ge) := by rw [cell_of_row wb _ 11 _ _ _ b3]; rfl
    have q12 : wb.cell? ⟨w.heap.size, 12, none⟩ = some (.int .i64 fr) := by rw [cell_of_row wb _ 12 _ _ _ b3]; rfl
    have q13 : wb.cell? ⟨w.heap.size, 13, none⟩ = some (.bool false) := by rw [cell_of_row wb _ 13 _ _ _ b3]; rfl
    go_upto_region 6 with (fail)
    have hR : ∀ o1 o2, ((wb.alloc o1).alloc o2).ownsRow N 89 1 (.slice A ys.length c) ys.length (ys.map fun y => Value.pointer (some ⟨y.b, 0, none⟩)) := fun o1 o2 => ((b1.row hrow fun x hx e => hd1 (by simp at e; rwa [e] at hx)).alloc o1).alloc o2
    have hB : ∀ o2, ((wb.alloc (.cells (cellsOf ⟨la + 1, obj, fr, to, mt, mw, nt, nw, en, sa, mo, ge, fr, false, 0, []⟩ (.slice none 0 0)) 91)).alloc o2).heap[wb.heap.size]? = some (.cells (cellsOf ⟨la + 1, obj, fr, to, mt, mw, nt, nw, en, sa, mo, ge, fr, false, 0, []⟩ (.slice none 0 0)) 91 (0, 0)) := fun o2 => by
      rw [Below.heap_alloc _ _ _ (by simp)]
      exact heap_alloc_new wb _
    have hNb : ∀ o1 o2, N ≤ ((wb.alloc o1).alloc o2).heap.size := fun o1 o2 => by have := b1.size; simp; omega
    have hT2 : ∀ o1 o2, Turn [tb] w ((wb.alloc o1).alloc o2) := fun o1 o2 => (b1.alloc o1).alloc o2
    have hK : ∀ o1 o2, ((wb.alloc o1).alloc o2).heap[tb]? = some (.cells #[.slice A ys.length c, .int .i64 (la + 1)] 87 (0, 0)) := fun o1 o2 => by
      have := blk_lt b2
      rw [Below.heap_alloc _ _ _ (by simp; omega), Below.heap_alloc _ _ _ this]
      exact b2
    have hN2 : ∀ o1 cs, ((wb.alloc o1).alloc (.cells cs 89)).heap[wb.heap.size + 1]? = some (.cells cs 89 (0, 0)) := fun o1 cs => by have := heap_alloc_new (wb.alloc o1) (.cells cs 89); simpa using this
    have HN2 := Lib.hid hN2
    have e1 : ∀ o1, (wb.alloc o1).cell? ⟨tb, 0, none⟩ = some (.slice A ys.length c) := fun o1 => ((Ext.refl wb).alloc o1).cell c0
    have e2 : ∀ o1 o2, ((wb.alloc o1).alloc o2).cell? ⟨tb, 0, none⟩ = some (.slice A ys.length c) := fun o1 o2 => (((Ext.refl wb).alloc o1).alloc o2).cell c0
    have E3 := Lib.hid (show ∀ o1 o2, ((wb.alloc o1).alloc o2).cell? ⟨w.heap.size, 0, none⟩ = some (.int .i64 (la + 1)) from fun o1 o2 => (((Ext.refl wb).alloc o1).alloc o2).cell q0)
    have HR := Lib.hid hR
    have HBB := Lib.hid hB
    have HT2 := Lib.hid hT2
    have HK := Lib.hid hK
    have hsb := b1.size
    clear hN2 hR hB hT2 hK b1 b2 b3 hrow
    go_region_law (refine step_append_new _ (by rfl) _ _ 85 (by rfl) N 89 _ 1 8 Try.underlying85 info89 rfl (by omega) (.slice A ys.length c) ys.length _ (by rfl) (HR.out _ _) (wb.heap.size + 1) 1 1 #[.pointer (some ⟨wb.heap.size, 0, none⟩)] (0, 0) (by rfl) (HN2.out _ _) (by rfl) (by simp [Value.oneCell']) (by simp [maxLen]; omega) (by omega) (hNb _ _) ?_; intro v1 w3 hown2 hm2; obtain ⟨A1, k1, rfl, _⟩ := own_shape hown2; obtain ⟨d1, d2, d4, d3⟩ := hHP.out _ w3 _ wb.heap.size (HT2.out _ _).drew (HK.out _ _) (HBB.out _) hsb hown2 hm2; have d5 := d4 _ (E3.out _ _); have D3 := Lib.hid d3; clear d4 d3 hown2 hm2)
    all_goals
      go_wp2
      exact bodyPost_ret (v := .tuple #[.int .i64 (la + 1), .int .i64 0]) (by simp [results, Try.results11, go_sem]) rfl (D3.out _ (Ext.refl _))

theorem start_calls (N tb : Nat) (O : List Nat) (t : Tab) (f : Fl) (w : World) (h : TabR N w tb O t) (hN : N ≤ w.heap.size) (hs : Small t) :
    Calls Try.prog 11 #[.pointer (some ⟨tb, 0, none⟩), agF f] w (Act N w tb O (t.start f).1 (.tuple #[.int .i64 (t.start f).2.1, .int .i64 (t.start f).2.2])) := by
  cases hf : starts f
  · have := start_no N tb O t f w h hf
    simpa [Tab.start, hf] using this
  · have := start_yes N tb O t f w h hN hs hf
    have e : (t.start f).2 = (t.last + 1, 0) := by simp [Tab.start, hf]
    rw [e]
    exact this
end Go.Proofs.Ytaanbgagdanalaa
