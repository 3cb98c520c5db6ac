/- A hit in the reference's table; the contract of its Join. -/
import Derived.Test.YtaanbgagdanalaaRFind
namespace Go.Proofs.Ytaanbgagdanalaa
open Go.RowKit

/-- Row i of the table at tb: f, with who waits at v; R: all rows, were row i another one. -/
structure HitR (N : Nat) (w : World) (tb : Nat) (O : List Nat) (t : Tab) (i : Nat) (f : Fl) (g c : Nat) (v : Value) (R : Fl → Value → List Value) : Prop where
  lt : i < t.l.length
  is : t.l[i]! = f
  blk : w.heap[tb]? = some (.cells #[.slice (some ⟨g, 0, none⟩) t.l.length c, .int .i64 t.last] 51 (0, 0))
  row : w.ownsRow N 57 16 (.slice (some ⟨g, 0, none⟩) t.l.length c) t.l.length (R f v)
  at_ : RowAt w g i f v
  who : w.ownsRow N 3 1 v f.who.length (f.who.map (Value.int .i64))
  fine : Fine f
  n1 : tb ≠ g
  n2 : g ∉ ob v
  n3 : tb ∉ ob v
  sets : ∀ f1 v1 f2 v2 j u, j < 16 → rowOf f2 v2 = (rowOf f1 v1).set j u → R f2 v2 = (R f1 v1).set (i * 16 + j) u
  upd : ∀ f' v' w' vv, Turn (g :: ob v) w w' → w'.ownsRow N 57 16 (.slice (some ⟨g, 0, none⟩) t.l.length c) t.l.length (R f' v') → w'.ownsRow N 3 1 v' f'.who.length (f'.who.map (Value.int .i64)) → Of (ob v) (ob v') w →
    RActL N w tb (.slice (some ⟨g, 0, none⟩) t.l.length c) O ⟨t.l.set i f', t.last⟩ vv (.returned vv) w'
section
variable {N tb : Nat} {w w' : World} {O : List Nat} {t : Tab} {id : Int}
theorem hitR {lv : Value} (h : RTabL N w tb lv O t) (hs : Small t) {i : Nat} (hp : place t.l id = some i) :
    ∃ f g c v R, lv = .slice (some ⟨g, 0, none⟩) t.l.length c ∧ HitR N w tb O t i f g c v R ∧ f.id = id ∧ Calls Try.prog 54 #[.pointer (some ⟨tb, 0, none⟩), .int .i64 id] w fun e w' => e = .returned (.int .i64 i) ∧ Ext w w' := by
  obtain ⟨ys, hT, el, rfl⟩ := h
  obtain ⟨s1, s2, s2', s3, s4⟩ := hs
  have hl : ys.length ≤ 1000 := by rw [el] at s1; simpa using s1
  have hc := placeR_calls N tb lv ys t.last id w hT hl
  rw [← el, show plI t.l id = i from by unfold plI; rw [hp]] at hc
  obtain ⟨A, c, rfl, hcap, hrow⟩ := hT.shape
  obtain ⟨p1, p2⟩ := place_some hp
  have hi : i < ys.length := by rw [el] at p1; simpa using p1
  have ei : t.l[i]! = ys[i].f := by rw [el, map_getR hi]
  have hn : t.l.length = ys.length := by rw [el]; simp
  obtain ⟨g, rfl, hro, hz, hob⟩ := hrow i hi
  refine ⟨ys[i].f, g, c, ys[i].v, fun f' v' => rows (ys.set i ⟨f', v'⟩), by rw [hn], ⟨p1, ei, by rw [hn]; exact hT.blk, ?_, hro, hT.all i hi, ?_, ?_, ?_, ?_, ?_, ?_⟩, by rw [← ei]; exact p2, hc⟩
  · rw [hn, show (⟨ys[i].f, ys[i].v⟩ : Ry) = ys[i] from rfl, List.set_getElem_self]; exact hT.row
  · rw [← ei, getElem!_pos t.l i p1]; exact s4 _ (List.getElem_mem p1)
  · intro e; exact hT.d1 (by rw [hob]; simp [e])
  · intro e; exact hT.d2 i hi _ e (by rw [hob]; simp)
  · intro e; exact hT.d2 i hi _ e (by simp)
  · intro f1 v1 f2 v2 j u hj he
    have := rows_set (ys.set i ⟨f1, v1⟩) i j (by simpa using hi) hj ⟨f2, v2⟩ u (by simpa using he)
    simpa using this
  · intro f' v' w' vv k1 k2 k3 k4
    rw [hn]
    exact RActL.upd (y := ⟨f', v'⟩) hT el rfl hi (by rw [hob]; exact k1) (by rw [← hn]; exact k2) k3 k4
theorem missR (h : RTabR N w tb O t) (hs : Small t) (hp : place t.l id = none) :
    Calls Try.prog 54 #[.pointer (some ⟨tb, 0, none⟩), .int .i64 id] w fun e w' => e = .returned (.int .i64 (-1)) ∧ Ext w w' := by
  obtain ⟨lv, ys, hT, el, rfl⟩ := h
  obtain ⟨s1, s2, s2', s3, s4⟩ := hs
  have hl : ys.length ≤ 1000 := by rw [el] at s1; simpa using s1
  have hc := placeR_calls N tb lv ys t.last id w hT hl
  rwa [← el, show plI t.l id = -1 from by unfold plI; rw [hp]] at hc
end

set_option maxHeartbeats 4000000 in
set_option maxRecDepth 100000 in
theorem joinR_calls (N tb : Nat) (O : List Nat) (t : Tab) (id q : Int) (w : World) (h : RTabR N w tb O t) (hN : N ≤ w.heap.size) (hs : Small t) :
    Calls Try.prog 45 #[.pointer (some ⟨tb, 0, none⟩), .int .i64 id, .int .i64 q] w (RAct N w tb O (t.join id q).1 (.int .i64 (t.join id q).2)) := by
  cases hp : place t.l id with
  | none =>
    have hj : t.join id q = (t, 6) := by simp [Tab.join, hp]
    rw [hj]
    have hf := missR h hs hp
    have HP := Lib.hid h
    clear h hj hp
    go_enter Try.func45, Try.ntmps45
    go_wp2_with fail
    refine hf.mono ?_
    rintro e w1 ⟨rfl, hx⟩
    go_wp2
    go_ret
    exact RAct.ext HP.out hx
  | some i =>
    have h0 := h
    obtain ⟨lv, h⟩ := h
    obtain ⟨f, g, c, v, R, hlv, H, hid, hf⟩ := hitR h hs hp
    clear hlv h
    have h := h0
    clear h0
    clear hid
    have hlt := H.lt
    have hil := hs.1
    have hwl := H.fine.1
    obtain ⟨_, A2, c2, rfl, hc2, hri⟩ := row_ints H.who
    have b0 : w.cell? ⟨tb, 0, none⟩ = some (.slice (some ⟨g, 0, none⟩) t.l.length c) := by rw [cell_of_row w tb 0 _ _ _ H.blk]; rfl
    have hat := H.at_
    cases hm : decide (q ∈ f.who)
    · have hj : t.join id q = (⟨t.l.set i { f with who := f.who ++ [q] }, t.last⟩, 0) := by
        have hm' : q ∉ f.who := by simpa using hm
        simp only [Tab.join, hp, H.is, if_neg hm']
      rw [hj]
      have hw1 := H.who
      have hn1 := H.n1
      have hn2 := H.n2
      have hn3 := H.n3
      have HP : ∀ W W' v', Ext w W → W'.ownsRow N 3 1 v' (f.who.length + 1) (f.who.map (Value.int .i64) ++ [.int .i64 q]) → Moved W W' (.slice A2 f.who.length c2) v' →
          W'.cell? ⟨tb, 0, none⟩ = some (.slice (some ⟨g, 0, none⟩) t.l.length c) ∧ W'.cell? ⟨g, i * 16 + 15, none⟩ = some (.slice A2 f.who.length c2) ∧ W'.frozen? ⟨g, i * 16 + 15, none⟩ = false ∧
          RAct N w tb O ⟨t.l.set i { f with who := f.who ++ [q] }, t.last⟩ (.int .i64 0) (.returned (.int .i64 0)) (W'.setCell ⟨g, i * 16 + 15, none⟩ v') := by
        intro W W' v' x0 a1 a2
        obtain ⟨m1, m2⟩ := moved_turn a2
        have hrw := m1.row (ownsRow_ext H.row x0) (fun x hx e => by simp [ob, Value.ownBlock] at hx; subst hx; exact hn2 e)
        have hgb : g ∉ ob v' := fun e => by
          rcases m2 _ e with e | e
          · exact hn2 e
          · have := (H.row.lt g rfl).2; have := x0.size; omega
        refine ⟨m1.cell (x0.cell b0) hn3, m1.cell (x0.cell (H.at_ 15 _ rfl)) hn2, hrw.frozenAt _, ?_⟩
        have hset := H.sets f (.slice A2 f.who.length c2) { f with who := f.who ++ [q] } v' 15 v' (by omega) rfl
        refine RActL.act (H.upd _ v' _ _ ?_ ?_ ?_ ?_)
        · exact ((Turn.of_ext x0).trans (m1.mono fun x hx _ => List.mem_cons_of_mem _ hx)).setCell (p := ⟨g, i * 16 + 15, none⟩) (fun _ => List.mem_cons_self ..) v'
        · rw [hset]; exact (hrw.stored _ _).1
        · have := ((Turn.refl [g] W').setCell (p := ⟨g, i * 16 + 15, none⟩) (fun _ => by simp) v').row a1 fun x hx e => hgb (by simp at e; rwa [e] at hx)
          simpa using this
        · exact fun x hx => (m2 x hx).imp_right fun e => Nat.le_trans x0.size e
      have HP := Lib.hid HP
      have HM := Lib.hid hm
      have hgl := (H.row.lt g rfl).2
      have htl : tb < w.heap.size := blk_lt H.blk
      have HX := Lib.hid hN
      generalize t.l.length = n at *
      clear H h hj hp hs hm hn1 hn2 hn3 hN
      go_enter Try.func45, Try.ntmps45
      go_wp2_with fail
      refine hf.mono ?_
      rintro e w1 ⟨rfl, x1⟩
      replace b0 := x1.cell b0
      replace hat := hat.ext x1
      replace hri : RowI w1 A2 f.who := fun k hk => by
        obtain ⟨g, e, h⟩ := hri k hk
        exact ⟨g, e, x1.cell h⟩
      have q0 : w1.cell? ⟨g, i * 16, none⟩ = some (.int .i64 f.id) := hat 0 _ rfl
      have q1 : w1.cell? ⟨g, i * 16 + 1, none⟩ = some (.string f.obj) := hat 1 _ rfl
      have q2 : w1.cell? ⟨g, i * 16 + 2, none⟩ = some (.int .i64 f.fr) := hat 2 _ rfl
      have q3 : w1.cell? ⟨g, i * 16 + 3, none⟩ = some (.int .i64 f.to) := hat 3 _ rfl
      have q4 : w1.cell? ⟨g, i * 16 + 4, none⟩ = some (.string f.mt) := hat 4 _ rfl
      have q5 : w1.cell? ⟨g, i * 16 + 5, none⟩ = some (.bool f.mw) := hat 5 _ rfl
      have q6 : w1.cell? ⟨g, i * 16 + 6, none⟩ = some (.string f.nt) := hat 6 _ rfl
      have q7 : w1.cell? ⟨g, i * 16 + 7, none⟩ = some (.bool f.nw) := hat 7 _ rfl
      have q8 : w1.cell? ⟨g, i * 16 + 8, none⟩ = some (.int .i64 f.en) := hat 8 _ rfl
      have q9 : w1.cell? ⟨g, i * 16 + 9, none⟩ = some (.int .i64 f.sa) := hat 9 _ rfl
      have q10 : w1.cell? ⟨g, i * 16 + 10, none⟩ = some (.int .i64 f.mo) := hat 10 _ rfl
      have q11 : w1.cell? ⟨g, i * 16 + 11, none⟩ = some (.int .i64 f.ge) := hat 11 _ rfl
      have q12 : w1.cell? ⟨g, i * 16 + 12, none⟩ = some (.int .i64 f.pl) := hat 12 _ rfl
      have q13 : w1.cell? ⟨g, i * 16 + 13, none⟩ = some (.int .i64 f.stop) := hat 13 _ rfl
      have q14 : w1.cell? ⟨g, i * 16 + 14, none⟩ = some (.int .i64 (heI f)) := hat 14 _ rfl
      have q15 : w1.cell? ⟨g, i * 16 + 15, none⟩ = some ((.slice A2 f.who.length c2)) := hat 15 _ rfl
      clear hat
      go_wp2_with fail
      refine (waits_calls f A2 c2 q w1 hri (by omega)).mono ?_
      rintro e w2 ⟨rfl, x2⟩
      rw [HM.out]
      replace b0 := x2.cell b0
      replace q15 := x2.cell q15
      have x12 := x1.trans x2
      clear hri x2 x1 hf q0 q1 q2 q3 q4 q5 q6 q7 q8 q9 q10 q11 q12 q13 q14
      have e1 : ∀ o1, (w2.alloc o1).cell? ⟨tb, 0, none⟩ = some (.slice (some ⟨g, 0, none⟩) n c) := fun o1 => ((Ext.refl w2).alloc o1).cell b0
      have e2 : ∀ o1, (w2.alloc o1).cell? ⟨g, i * 16 + 15, none⟩ = some (.slice A2 f.who.length c2) := fun o1 => ((Ext.refl w2).alloc o1).cell q15
      have E1 := Lib.hid (show ∀ o1, Ext w (w2.alloc o1) from fun o1 => x12.alloc o1)
      have E2 := Lib.hid (show ∀ o1, (w2.alloc o1).ownsRow N 3 1 (.slice A2 f.who.length c2) f.who.length (f.who.map (Value.int .i64)) from fun o1 => ownsRow_ext hw1 (x12.alloc o1))
      have E3 := Lib.hid (show ∀ o1, N ≤ (w2.alloc o1).heap.size from fun o1 => Nat.le_trans HX.out (x12.alloc o1).size)
      have E4 := Lib.hid (show ∀ cs, (w2.alloc (.cells cs 3)).heap[w2.heap.size]? = some (.cells cs 3 (0, 0)) from fun cs => heap_alloc_new w2 _)
      have hi0 : ¬ ((i : Int) < 0) := by omega
      have hi1 : ((i : Int) < (n : Int)) := by omega
      clear x12 hw1
      go_wp2_with fail
      go_region_law (refine step_append_new _ (by rfl) _ _ 22 (by rfl) N 3 _ 1 8 Try.underlying22 info3 rfl (by omega) (.slice A2 f.who.length c2) f.who.length _ (by rfl) (E2.out _) w2.heap.size 1 1 #[.int .i64 q] (0, 0) (by rfl) (E4.out _) (by rfl) (by simp [Value.oneCell']) (by simp [maxLen]; omega) (by omega) (E3.out _) ?_; intro v1 w3 hown2 hm2; obtain ⟨A1, k1, rfl, _⟩ := own_shape hown2; obtain ⟨d1, d2, d3, d4⟩ := HP.out _ w3 _ (E1.out _).drew hown2 hm2; have D4 := Lib.hid d4; clear d4 hown2 hm2)
      all_goals
        go_wp2
        go_ret
        exact D4.out
    · have hj : t.join id q = (t, 7) := by
        have hm' : q ∈ f.who := by simpa using hm
        simp only [Tab.join, hp, H.is, if_pos hm']
      rw [hj]
      have HP := Lib.hid h
      have HM := Lib.hid hm
      generalize t.l.length = n at *
      clear H h hj hp hs hm
      go_enter Try.func45, Try.ntmps45
      go_wp2_with fail
      refine hf.mono ?_
      rintro e w1 ⟨rfl, x1⟩
      replace b0 := x1.cell b0
      replace hat := hat.ext x1
      replace hri : RowI w1 A2 f.who := fun k hk => by
        obtain ⟨g, e, h⟩ := hri k hk
        exact ⟨g, e, x1.cell h⟩
      have q0 : w1.cell? ⟨g, i * 16, none⟩ = some (.int .i64 f.id) := hat 0 _ rfl
      have q1 : w1.cell? ⟨g, i * 16 + 1, none⟩ = some (.string f.obj) := hat 1 _ rfl
      have q2 : w1.cell? ⟨g, i * 16 + 2, none⟩ = some (.int .i64 f.fr) := hat 2 _ rfl
      have q3 : w1.cell? ⟨g, i * 16 + 3, none⟩ = some (.int .i64 f.to) := hat 3 _ rfl
      have q4 : w1.cell? ⟨g, i * 16 + 4, none⟩ = some (.string f.mt) := hat 4 _ rfl
      have q5 : w1.cell? ⟨g, i * 16 + 5, none⟩ = some (.bool f.mw) := hat 5 _ rfl
      have q6 : w1.cell? ⟨g, i * 16 + 6, none⟩ = some (.string f.nt) := hat 6 _ rfl
      have q7 : w1.cell? ⟨g, i * 16 + 7, none⟩ = some (.bool f.nw) := hat 7 _ rfl
      have q8 : w1.cell? ⟨g, i * 16 + 8, none⟩ = some (.int .i64 f.en) := hat 8 _ rfl
      have q9 : w1.cell? ⟨g, i * 16 + 9, none⟩ = some (.int .i64 f.sa) := hat 9 _ rfl
      have q10 : w1.cell? ⟨g, i * 16 + 10, none⟩ = some (.int .i64 f.mo) := hat 10 _ rfl
      have q11 : w1.cell? ⟨g, i * 16 + 11, none⟩ = some (.int .i64 f.ge) := hat 11 _ rfl
      have q12 : w1.cell? ⟨g, i * 16 + 12, none⟩ = some (.int .i64 f.pl) := hat 12 _ rfl
      have q13 : w1.cell? ⟨g, i * 16 + 13, none⟩ = some (.int .i64 f.stop) := hat 13 _ rfl
      have q14 : w1.cell? ⟨g, i * 16 + 14, none⟩ = some (.int .i64 (heI f)) := hat 14 _ rfl
      have q15 : w1.cell? ⟨g, i * 16 + 15, none⟩ = some ((.slice A2 f.who.length c2)) := hat 15 _ rfl
      clear hat
      go_wp2_with fail
      refine (waits_calls f A2 c2 q w1 hri (by omega)).mono ?_
      rintro e w2 ⟨rfl, x2⟩
      rw [HM.out]
      go_wp2
      go_ret
      exact RAct.ext HP.out (x1.trans x2)
end Go.Proofs.Ytaanbgagdanalaa
