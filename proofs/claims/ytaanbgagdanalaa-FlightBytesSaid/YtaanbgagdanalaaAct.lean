/- What an act on the table leaves behind; the contracts of Join and Quit. -/
import Derived.Test.YtaanbgagdanalaaFind
import Derived.Test.YtaanbgagdanalaaQuit
namespace Go.Proofs.Ytaanbgagdanalaa
open Go.RowKit

def Act (N : Nat) (w : World) (tb : Nat) (O : List Nat) (t' : Tab) (v : Value) (e : Ending) (w' : World) : Prop :=
  e = .returned v ∧ ∃ O', TabR N w' tb O' t' ∧ Turn O w w' ∧ Of O O' w

theorem moved_turn {w w' : World} {v v' : Value} (h : Moved w w' v v') : Turn (ob v) w w' ∧ Of (ob v) (ob v') w := by
  obtain ⟨h1, h2⟩ := h
  refine ⟨(Turn.refl _ w).grown h1 fun x hx _ => by simp [ob, hx], fun x hx => ?_⟩
  rcases h2 with h2 | ⟨k, hk, h2⟩
  · exact .inl (by unfold ob at hx ⊢; rwa [h2] at hx)
  · unfold ob at hx
    rw [h2] at hx
    simp at hx
    exact .inr (by omega)

section
variable {N tb : Nat} {w w' : World} {O : List Nat} {t : Tab} {lv : Value} {ys : List Fy} {last : Int}
theorem hit_some {id : Int} (hs : Rising (ys.map Fy.f) last) (h : hitY ys id = true) : ∃ i, ∃ hi : i < ys.length, lowsY ys id = i ∧ place (ys.map Fy.f) id = some i ∧ findP ys id = some ⟨ys[i].b, 0, none⟩ := by
  have h1 : lowsY ys id < ys.length ∧ idAt ys (lowsY ys id) = id := by simpa [hitY] using h
  refine ⟨_, h1.1, rfl, ?_, ?_⟩
  · rw [place_lows hs, if_pos]
    · rfl
    · have h2 := h1.2
      rw [idAt_eq h1.1] at h2
      have h3 : lows (ys.map Fy.f) id < (ys.map Fy.f).length := by rw [List.length_map]; exact h1.1
      exact ⟨h3, by rw [getElem!_pos (ys.map Fy.f) _ h3, List.getElem_map]; exact h2⟩
  · simp only [findP, h, if_true]
    rw [getElem!_pos ys _ h1.1]
theorem hit_none {id : Int} (hs : Rising (ys.map Fy.f) last) (h : hitY ys id = false) : place (ys.map Fy.f) id = none ∧ findP ys id = none := by
  refine ⟨?_, by simp [findP, h]⟩
  rw [place_lows hs, if_neg]
  rintro ⟨h1, h2⟩
  have h3 : lowsY ys id < ys.length := by rw [List.length_map] at h1; exact h1
  rw [getElem!_pos (ys.map Fy.f) _ h1] at h2
  have h4 : idAt ys (lowsY ys id) = id := by rw [idAt_eq h3]; rw [List.getElem_map] at h2; exact h2
  simp [hitY, h3, h4] at h
theorem map_get {i : Nat} (hi : i < ys.length) : (ys.map Fy.f)[i]! = ys[i].f := by rw [getElem!_pos _ i (by simpa using hi)]; simp
/-- The table as it is. -/
theorem Act.same {v : Value} (h : TabR N w tb O t) : Act N w tb O t v (.returned v) w := ⟨rfl, O, h, Turn.refl _ _, Of.refl _ _⟩
theorem Act.ext {v : Value} (h : TabR N w tb O t) (hx : Ext w w') : Act N w tb O t v (.returned v) w' := ⟨rfl, O, h.ext hx, Turn.of_ext hx, Of.refl _ _⟩
/-- One flight has been turned in place. -/
theorem Act.upd {v : Value} (h : TabAt N w tb lv ys last) (e1 : t.l = ys.map Fy.f) (e2 : t.last = last) {i : Nat} (hi : i < ys.length) {f' : Fl} {v' : Value} (hy : FyAt N w' ⟨f', ys[i].b, v'⟩) (ht : Turn ys[i].own w w') (ho : Of ys[i].own (ys[i].b :: ob v') w) :
    Act N w tb (ownT tb lv ys) ⟨t.l.set i f', t.last⟩ v (.returned v) w' := by
  refine ⟨rfl, _, ⟨lv, ys.set i ⟨f', ys[i].b, v'⟩, ?_, ?_, rfl⟩, ht.mono fun x hx _ => mem_ownT.2 (.inr (.inr ⟨i, hi, hx⟩)), own_set hi ho⟩
  · rw [e2]
    exact h.set hi (y := ⟨f', ys[i].b, v'⟩) rfl ht hy ho
  · rw [e1, List.map_set]
end

theorem info3 : (Try.prog.info? 3).map (fun i => (i.zero, i.size, i.bytes)) = some (some (.int .i64 0), 1, 8) := by kernel_rfl
/-- Not too great. -/
def Fine (f : Fl) : Prop := f.who.length ≤ 1000 ∧ f.who.Nodup ∧ 0 ≤ f.pl ∧ f.pl ≤ 4611686018427387904 ∧ 0 ≤ f.stop ∧ f.stop ≤ 4611686018427387904
def Small (t : Tab) : Prop := t.l.length ≤ 1000 ∧ t.last ≤ 1000000 ∧ 0 ≤ t.last ∧ Rising t.l t.last ∧ ∀ f ∈ t.l, Fine f

theorem find_none (N tb : Nat) (O : List Nat) (t : Tab) (id : Int) (w : World) (h : TabR N w tb O t) (hs : Small t) (hp : place t.l id = none) :
    Calls Try.prog 41 #[.pointer (some ⟨tb, 0, none⟩), .int .i64 id] w fun e w' => e = .returned (.pointer none) ∧ w' = w := by
  obtain ⟨lv, ys, hT, el, rfl⟩ := h
  obtain ⟨s1, s2, s2', s3, s4⟩ := hs
  rw [el] at s1 s3 hp
  have hl : ys.length ≤ 1000 := by simpa using s1
  have hf := find_calls N tb lv ys t.last id w hT (by omega) s3
  cases hh : hitY ys id
  · rw [(hit_none s3 hh).2] at hf
    exact hf
  · obtain ⟨i, hi, p0, p1, p2⟩ := hit_some s3 hh
    rw [hp] at p1
    cases p1
theorem find_some (N tb : Nat) (O : List Nat) (t : Tab) (id : Int) (w : World) (h : TabR N w tb O t) (hs : Small t) {i : Nat} (hp : place t.l id = some i) :
    ∃ y, t.l[i]! = y.f ∧ FyAt N w y ∧ Fine y.f ∧ (Calls Try.prog 41 #[.pointer (some ⟨tb, 0, none⟩), .int .i64 id] w fun e w' => e = .returned (.pointer (some ⟨y.b, 0, none⟩)) ∧ w' = w) ∧
      ∀ f' v' w' v, FyAt N w' ⟨f', y.b, v'⟩ → Turn y.own w w' → Of y.own (y.b :: ob v') w → Act N w tb O ⟨t.l.set i f', t.last⟩ v (.returned v) w' := by
  obtain ⟨lv, ys, hT, el, rfl⟩ := h
  obtain ⟨s1, s2, s2', s3, s4⟩ := hs
  rw [el] at s1 s3 hp s4
  have hl : ys.length ≤ 1000 := by simpa using s1
  have hf := find_calls N tb lv ys t.last id w hT (by omega) s3
  cases hh : hitY ys id
  · rw [(hit_none s3 hh).1] at hp
    cases hp
  · obtain ⟨j, hj, p0, p1, p2⟩ := hit_some s3 hh
    obtain rfl : j = i := by rw [hp] at p1; exact (Option.some.inj p1).symm
    rw [p2] at hf
    refine ⟨ys[j], by rw [el, map_get hj], hT.all j hj, s4 _ (List.mem_map_of_mem (List.getElem_mem hj)), hf, ?_⟩
    intro f' v' w' v a b c
    exact Act.upd hT el rfl hj a b c

set_option maxHeartbeats 1000000 in
set_option maxRecDepth 100000 in
theorem join_calls (N tb : Nat) (O : List Nat) (t : Tab) (id q : Int) (w : World) (h : TabR N w tb O t) (hN : N ≤ w.heap.size) (hs : Small t) :
    Calls Try.prog 12 #[.pointer (some ⟨tb, 0, none⟩), .int .i64 id, .int .i64 q] w (Act N w tb O (t.join id q).1 (.int .i64 (t.join id q).2)) := by
  have h0 := h
  obtain ⟨lv, ys, hT, el, rfl⟩ := h
  obtain ⟨s1, s2, s2', s3, s4⟩ := hs
  rw [el] at s1 s3 s4
  have hl : ys.length ≤ 1000 := by simpa using s1
  have hf := find_calls N tb lv ys t.last id w hT (by omega) s3
  cases hh : hitY ys id
  · obtain ⟨p1, p2⟩ := hit_none s3 hh
    have hj : t.join id q = (t, 6) := by simp [Tab.join, el, p1]
    have hp := Act.same (v := .int .i64 6) h0
    rw [hj]
    rw [p2] at hf
    have HP := Lib.hid hp
    clear hp hj hT h0 s1 s3 s4 el p1 p2 hh
    go_enter Try.func12, Try.ntmps12
    go_wp2_with fail
    refine hf.mono ?_
    rintro e w1 ⟨rfl, rfl⟩
    go_wp2
    go_ret
    exact HP.out
  · obtain ⟨i, hi, p0, p1, p2⟩ := hit_some s3 hh
    rw [p2] at hf
    have hy := hT.all i hi
    obtain ⟨y, hyy⟩ : ∃ y, ys[i] = y := ⟨_, rfl⟩
    have hwl : y.f.who.length ≤ 1000 := by
      have := s4 y.f (by rw [← hyy]; exact List.mem_map_of_mem (List.getElem_mem hi))
      exact this.1
    have c15 := hy.cell 15 (u := y.v) (by rw [hyy]; rfl)
    obtain ⟨_, A, c, hv, hc, hri⟩ := row_ints hy.row
    have hcon := contains_calls A c ys[i].f.who q w (by rw [hyy]; omega) hri
    rw [hyy] at hcon hv
    cases hm : decide (q ∈ y.f.who)
    · have hj : t.join id q = (⟨t.l.set i { y.f with who := y.f.who ++ [q] }, t.last⟩, 0) := by
        have hm' : q ∉ y.f.who := by simpa using hm
        simp only [Tab.join, el, p1, map_get hi, hyy, if_neg hm']
      rw [hj]
      have hp : ∀ v' w1, w1.ownsRow N 3 1 v' (y.f.who.length + 1) (y.f.who.map (Value.int .i64) ++ [.int .i64 q]) → Moved w w1 y.v v' →
          Act N w tb (ownT tb lv ys) ⟨t.l.set i { y.f with who := y.f.who ++ [q] }, t.last⟩ (.int .i64 0) (.returned (.int .i64 0)) (w1.setCell ⟨y.b, 15, none⟩ v') ∧ w1.heap[y.b]? = some (.cells (cellsOf y.f y.v) 91 (0, 0)) := fun v' w1 a1 a2 => by
        obtain ⟨a3, a4⟩ := moved_turn a2
        have hy' : FyAt N w y := by rw [← hyy]; exact hy
        obtain ⟨b1, b2, b3⟩ := hy'.who (l' := y.f.who ++ [q]) (by simpa using a1) a3 a4
        refine ⟨?_, a3.blk hy'.blk hy'.apart⟩
        have := Act.upd (v := .int .i64 0) (t := t) hT el rfl hi (f' := { y.f with who := y.f.who ++ [q] }) (v' := v') (w' := w1.setCell ⟨y.b, 15, none⟩ v') (by rw [hyy]; exact b1) (by rw [hyy]; exact b2) (by rw [hyy]; exact b3)
        exact this
      have HP := Lib.hid hp
      rw [hyy] at p2 hy c15
      have hrow := hy.row
      rw [hv] at hrow hp
      rw [hm] at hcon
      rw [hyy] at hf
      rw [hv] at c15
      have HV := Lib.hid hv
      clear hp hj hT h0 s1 s3 s4 el p0 p1 p2 hh hri hm hy hyy hv
      go_enter Try.func12, Try.ntmps12
      go_wp2_with fail
      refine hf.mono ?_
      rintro e w1 ⟨rfl, rfl⟩
      go_wp2_with fail
      refine hcon.mono ?_
      rintro e w2 ⟨rfl, rfl⟩
      go_wp2_with (at_builtin; refine wpList_append_new _ rfl _ _ 22 rfl N 3 _ 1 8 Try.underlying22 info3 rfl (by omega) _ y.f.who.length _ rfl hrow 1 1 _ rfl _ rfl rfl (by simp [Value.oneCell']) (by simp [maxLen]; omega) (by omega) hN ?_; intro v1 w3 hown2 hm2; obtain ⟨A1, k1, rfl, _⟩ := own_shape hown2; obtain ⟨d1, d2⟩ := HP.out _ w3 hown2 (by rw [HV.out]; exact hm2); have f15 : w3.cell? ⟨y.b, 15, none⟩ = some y.v := (by rw [cell_of_row w3 y.b 15 _ _ _ d2]; rfl); have z15 : w3.frozen? ⟨y.b, 15, none⟩ = false := (by simp [World.frozen?, d2]); have D1 := Lib.hid d1; clear d1 d2 hown2 hm2)
      go_ret
      exact D1.out
    · have hj : t.join id q = (t, 7) := by
        have hm' : q ∈ y.f.who := by simpa using hm
        simp only [Tab.join, el, p1, map_get hi, hyy, if_pos hm']
      have hp := Act.same (v := .int .i64 7) h0
      rw [hj]
      have HP := Lib.hid hp
      rw [hyy] at c15 hf
      rw [hv] at c15
      rw [hm] at hcon
      clear hp hj hT h0 s1 s3 s4 el p0 p1 p2 hh hri hm hy hyy hv
      go_enter Try.func12, Try.ntmps12
      go_wp2_with fail
      refine hf.mono ?_
      rintro e w1 ⟨rfl, rfl⟩
      go_wp2_with fail
      refine hcon.mono ?_
      rintro e w2 ⟨rfl, rfl⟩
      go_wp2
      go_ret
      exact HP.out

set_option maxHeartbeats 1000000 in
set_option maxRecDepth 100000 in
theorem quitT_calls (N tb : Nat) (O : List Nat) (t : Tab) (id q : Int) (w : World) (h : TabR N w tb O t) (hs : Small t) :
    Calls Try.prog 47 #[.pointer (some ⟨tb, 0, none⟩), .int .i64 id, .int .i64 q] w (Act N w tb O (t.quit id q).1 (.bool (t.quit id q).2)) := by
  have h0 := h
  obtain ⟨lv, ys, hT, el, rfl⟩ := h
  obtain ⟨s1, s2, s2', s3, s4⟩ := hs
  rw [el] at s1 s3 s4
  have hl : ys.length ≤ 1000 := by simpa using s1
  have hf := find_calls N tb lv ys t.last id w hT (by omega) s3
  cases hh : hitY ys id
  · obtain ⟨p1, p2⟩ := hit_none s3 hh
    have hj : t.quit id q = (t, false) := by simp [Tab.quit, el, p1]
    have hp := Act.same (v := .bool false) h0
    rw [hj]
    rw [p2] at hf
    have HP := Lib.hid hp
    clear hp hj hT h0 s1 s3 s4 el p1 p2 hh
    go_enter Try.func47, Try.ntmps47
    go_wp2_with fail
    refine hf.mono ?_
    rintro e w1 ⟨rfl, rfl⟩
    go_wp2
    go_ret
    exact HP.out
  · obtain ⟨i, hi, p0, p1, p2⟩ := hit_some s3 hh
    rw [p2] at hf
    have hy := hT.all i hi
    have hwl : ys[i].f.who.length ≤ 1000 := (s4 _ (List.mem_map_of_mem (List.getElem_mem hi))).1
    have hj : t.quit id q = (⟨t.l.set i (ys[i].f.quit q).1, t.last⟩, (ys[i].f.quit q).2) := by simp only [Tab.quit, el, p1, map_get hi]
    rw [hj]
    have hq := quit_calls N ys[i] q w hy (by omega)
    have hp : ∀ e w1, QuitPost N w ys[i] q e w1 → Act N w tb (ownT tb lv ys) ⟨t.l.set i (ys[i].f.quit q).1, t.last⟩ (.bool (ys[i].f.quit q).2) e w1 := fun e w1 ⟨v', a1, a2, a3, a4⟩ => by
      subst a1
      exact Act.upd hT el rfl hi a2 a3 a4
    have hq2 := hq.mono fun e w1 a => (⟨(show QuitPost N w ys[i] q e w1 from a).elim fun v' b => b.1, hp e w1 a⟩ : e = .returned (.bool (ys[i].f.quit q).2) ∧ _)
    clear hp hq hj hT h0 s1 s3 s4 el p0 p1 p2 hh hy hwl
    generalize (ys[i].f.quit q).2 = r at *
    generalize ys[i].b = b at *
    go_enter Try.func47, Try.ntmps47
    go_wp2_with fail
    refine hf.mono ?_
    rintro e w1 ⟨rfl, rfl⟩
    go_wp2_with fail
    refine hq2.mono ?_
    rintro e w2 ⟨rfl, hp⟩
    have HP := Lib.hid hp
    clear hp hq2 hf
    go_wp2
    go_ret
    exact HP.out
end Go.Proofs.Ytaanbgagdanalaa
