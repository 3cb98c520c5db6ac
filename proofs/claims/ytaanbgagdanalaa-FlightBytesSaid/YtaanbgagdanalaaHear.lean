/- The contracts of Hear and Move. -/
import Derived.Test.YtaanbgagdanalaaAct
namespace Go.Proofs.Ytaanbgagdanalaa
open Go.RowKit

/-- Cells of a flight other than that of who waits have been turned. -/
theorem FyAt.head {N : Nat} {w w' : World} {y : Fy} {f' : Fl} (h : FyAt N w y) (hw : f'.who = y.f.who) (hb : w'.heap[y.b]? = some (.cells (cellsOf f' y.v) 91 (0, 0))) (ht : Turn [y.b] w w') :
    FyAt N w' ⟨f', y.b, y.v⟩ ∧ Turn y.own w w' ∧ Of y.own (y.b :: ob y.v) w := by
  refine ⟨⟨h.low, hb, ?_, h.apart⟩, ht.mono fun x hx _ => by simp at hx; subst hx; exact List.mem_cons_self .., fun x hx => .inl hx⟩
  have := ht.row h.row fun x hx e => h.apart (by simp at e; rwa [e] at hx)
  simp only [hw]
  exact this

set_option maxHeartbeats 1000000 in
set_option maxRecDepth 100000 in
theorem hear_calls (N tb : Nat) (O : List Nat) (t : Tab) (id en pl st : Int) (w : World) (h : TabR N w tb O t) (hs : Small t) :
    Calls Try.prog 31 #[.pointer (some ⟨tb, 0, none⟩), .int .i64 id, .int .i64 en, .int .i64 pl, .int .i64 st] w (Act N w tb O (t.hear id en pl st).1 (.int .i64 (t.hear id en pl st).2)) := by
  cases hp : place t.l id with
  | none =>
    have hj : t.hear id en pl st = (t, 6) := by simp [Tab.hear, hp]
    have hf := find_none N tb O t id w h hs hp
    have ha := Act.same (v := .int .i64 6) h
    rw [hj]
    have HP := Lib.hid ha
    clear ha hj h hs hp
    go_enter Try.func31, Try.ntmps31
    go_wp2_with fail
    refine hf.mono ?_
    rintro e w1 ⟨rfl, rfl⟩
    go_wp2
    go_ret
    exact HP.out
  | some i =>
    obtain ⟨y, ey, hy, hfi, hf, hu⟩ := find_some N tb O t id w h hs hp
    have c8 := hy.cell 8 (u := .int .i64 y.f.en) rfl
    have c13 := hy.cell 13 (u := .bool y.f.he) rfl
    cases e1 : y.f.he
    · by_cases e2 : en < 1 ∨ pl < 0 ∨ st < pl ∨ 4611686018427387904 < st
      · have hj : t.hear id en pl st = (t, 1) := by simp [Tab.hear, hp, ey, e1, e2]
        have ha := Act.same (v := .int .i64 1) h
        rw [hj]
        have HP := Lib.hid ha
        rw [e1] at c13
        clear ha hj h hs hp ey hy hfi hu
        generalize y.b = b at *
        generalize y.f.en = ye at *
        have HD := Lib.hid e2
        clear e2
        cases q1 : decide (en < 1) <;> cases q2 : decide (pl < 0) <;> cases q3 : decide (st < pl) <;> cases q4 : decide (4611686018427387904 < st)
        all_goals first
          | (exfalso; simp at q1 q2 q3 q4; have := HD.out; omega)
          | (simp only [decide_eq_true_eq, decide_eq_false_iff_not] at q1 q2 q3 q4
             go_enter Try.func31, Try.ntmps31
             go_wp2_with fail
             refine hf.mono ?_
             rintro e w1 ⟨rfl, rfl⟩
             go_wp2
             go_ret
             exact HP.out)
      · have o1 : ¬ en < 1 := fun h => e2 (.inl h)
        have o2 : ¬ pl < 0 := fun h => e2 (.inr (.inl h))
        have o3 : ¬ st < pl := fun h => e2 (.inr (.inr (.inl h)))
        have o4 : ¬ 4611686018427387904 < st := fun h => e2 (.inr (.inr (.inr h)))
        by_cases e3 : y.f.en ≠ 0 ∧ y.f.en ≠ en
        · have hj : t.hear id en pl st = (t, 12) := by simp [Tab.hear, hp, ey, e1, e2, e3]
          have ha := Act.same (v := .int .i64 12) h
          rw [hj]
          have HP := Lib.hid ha
          rw [e1] at c13
          obtain ⟨o5, o6⟩ := e3
          clear ha hj h hs hp ey hy hfi hu e2
          generalize y.b = b at *
          generalize y.f.en = ye at *
          have p5 : (ye == 0) = false := by simp [o5]
          have p6 : (ye == en) = false := by simp [o6]
          have p7 : (ye != 0) = true := by simp [o5]
          have p8 : (ye != en) = true := by simp [o6]
          go_enter Try.func31, Try.ntmps31
          go_wp2_with fail
          refine hf.mono ?_
          rintro e w1 ⟨rfl, rfl⟩
          go_wp2
          go_ret
          exact HP.out
        · have hj : t.hear id en pl st = (⟨t.l.set i { y.f with he := true, en := en, pl := pl, stop := st }, t.last⟩, 0) := by simp [Tab.hear, hp, ey, e1, e2, e3]
          rw [hj]
          have ht : Turn [y.b] w ((((w.setCell ⟨y.b, 13, none⟩ (.bool true)).setCell ⟨y.b, 8, none⟩ (.int .i64 en)).setCell ⟨y.b, 12, none⟩ (.int .i64 pl)).setCell ⟨y.b, 14, none⟩ (.int .i64 st)) :=
            ((((Turn.refl [y.b] w).setCell (p := ⟨y.b, 13, none⟩) (fun _ => by simp) _).setCell (p := ⟨y.b, 8, none⟩) (fun _ => by simp) _).setCell (p := ⟨y.b, 12, none⟩) (fun _ => by simp) _).setCell (p := ⟨y.b, 14, none⟩) (fun _ => by simp) _
          obtain ⟨b1, b2, b3⟩ := hy.head (f' := { y.f with he := true, en := en, pl := pl, stop := st }) rfl (heap_set_same (heap_set_same (heap_set_same (heap_set_same hy.blk _) _) _) _) ht
          have ha := hu _ _ _ (.int .i64 0) b1 b2 b3
          have HP := Lib.hid ha
          have z : ∀ i, w.frozen? ⟨y.b, i, none⟩ = false := fun i => by simp [World.frozen?, hy.blk]
          have z8 := z 8
          have z12 := z 12
          have z13 := z 13
          have z14 := z 14
          have c12 := hy.cell 12 (u := .int .i64 y.f.pl) rfl
          have c14 := hy.cell 14 (u := .int .i64 y.f.stop) rfl
          rw [e1] at c13
          clear ha hj h hs hp ey hy hfi hu e2 b1 b2 b3 ht z
          generalize y.b = b at *
          generalize y.f.en = ye at *
          generalize y.f.pl = yp at *
          generalize y.f.stop = yt at *
          by_cases o5 : ye = 0
          · subst o5
            clear e3
            go_enter Try.func31, Try.ntmps31
            go_wp2_with fail
            refine hf.mono ?_
            rintro e w1 ⟨rfl, rfl⟩
            go_wp2
            go_ret
            exact HP.out
          · have o6 : ye = en := by
              rcases Int.lt_trichotomy ye en with x | x | x
              · exact absurd ⟨o5, by omega⟩ e3
              · exact x
              · exact absurd ⟨o5, by omega⟩ e3
            subst o6
            clear e3
            have p5 : (ye == 0) = false := by simp [o5]
            have p7 : (ye != 0) = true := by simp [o5]
            go_enter Try.func31, Try.ntmps31
            go_wp2_with fail
            refine hf.mono ?_
            rintro e w1 ⟨rfl, rfl⟩
            go_wp2
            go_ret
            exact HP.out
    · have hj : t.hear id en pl st = (t, 11) := by simp [Tab.hear, hp, ey, e1]
      have ha := Act.same (v := .int .i64 11) h
      rw [hj]
      have HP := Lib.hid ha
      rw [e1] at c13
      clear ha hj h hs hp ey hy hfi hu
      generalize y.b = b at *
      generalize y.f.en = ye at *
      go_enter Try.func31, Try.ntmps31
      go_wp2_with fail
      refine hf.mono ?_
      rintro e w1 ⟨rfl, rfl⟩
      go_wp2
      go_ret
      exact HP.out

set_option maxHeartbeats 1000000 in
set_option maxRecDepth 100000 in
theorem move_calls (N tb : Nat) (O : List Nat) (t : Tab) (id n : Int) (w : World) (h : TabR N w tb O t) (hs : Small t) :
    Calls Try.prog 32 #[.pointer (some ⟨tb, 0, none⟩), .int .i64 id, .int .i64 n] w (Act N w tb O (t.move id n).1 (.int .i64 (t.move id n).2)) := by
  cases hp : place t.l id with
  | none =>
    have hj : t.move id n = (t, 6) := by simp [Tab.move, hp]
    have hf := find_none N tb O t id w h hs hp
    have ha := Act.same (v := .int .i64 6) h
    rw [hj]
    have HP := Lib.hid ha
    clear ha hj h hs hp
    go_enter Try.func32, Try.ntmps32
    go_wp2_with fail
    refine hf.mono ?_
    rintro e w1 ⟨rfl, rfl⟩
    go_wp2
    go_ret
    exact HP.out
  | some i =>
    obtain ⟨y, ey, hy, hfi, hf, hu⟩ := find_some N tb O t id w h hs hp
    have c12 := hy.cell 12 (u := .int .i64 y.f.pl) rfl
    have c13 := hy.cell 13 (u := .bool y.f.he) rfl
    have c14 := hy.cell 14 (u := .int .i64 y.f.stop) rfl
    obtain ⟨_, _, g1, g2, g3, g4⟩ := hfi
    cases e1 : y.f.he
    · have hj : t.move id n = (t, 11) := by simp [Tab.move, hp, ey, e1]
      have ha := Act.same (v := .int .i64 11) h
      rw [hj]
      have HP := Lib.hid ha
      rw [e1] at c13
      clear ha hj h hs hp ey hy hu
      generalize y.b = b at *
      go_enter Try.func32, Try.ntmps32
      go_wp2_with fail
      refine hf.mono ?_
      rintro e w1 ⟨rfl, rfl⟩
      go_wp2
      go_ret
      exact HP.out
    · have w1 : IntKind.i64.wrap (y.f.stop - y.f.pl) = y.f.stop - y.f.pl := IntWalk.i64_in _ (by omega)
      rw [e1] at c13
      by_cases e2 : n < 0 ∨ y.f.stop - y.f.pl < n
      · have hj : t.move id n = (t, 1) := by simp [Tab.move, hp, ey, e1, e2]
        have ha := fun k => Act.ext (v := .int .i64 1) h ((Ext.refl w).drewN k)
        rw [hj]
        have HP := Lib.hid ha
        clear ha hj h hs hp ey hy hu e1
        generalize y.b = b at *
        generalize y.f.pl = yp at *
        generalize y.f.stop = yt at *
        have HD := Lib.hid e2
        clear e2
        by_cases q1 : n < 0
        · have r1 : decide (n < 0) = true := by simp [q1]
          go_enter Try.func32, Try.ntmps32
          go_wp2_with fail
          refine hf.mono ?_
          rintro e w1 ⟨rfl, rfl⟩
          go_wp2_with fail
          go_quiet (fail)
          go_wp2
          go_ret
          exact HP.out _
        · have q2 : yt - yp < n := by have := HD.out; omega
          have r1 : decide (n < 0) = false := by simp [q1]
          have r2 : decide (yt - yp < n) = true := by simp [q2]
          go_enter Try.func32, Try.ntmps32
          go_wp2_with fail
          refine hf.mono ?_
          rintro e w1 ⟨rfl, rfl⟩
          go_wp2_with fail
          go_quiet (fail)
          go_wp2
          go_ret
          exact HP.out _
      · have hj : t.move id n = (⟨t.l.set i { y.f with pl := y.f.pl + n }, t.last⟩, 0) := by simp [Tab.move, hp, ey, e1, e2]
        rw [hj]
        have w2 : IntKind.i64.wrap (y.f.pl + n) = y.f.pl + n := IntWalk.i64_in _ (by omega)
        have ha : ∀ k, Act N w tb O ⟨t.l.set i { y.f with pl := y.f.pl + n }, t.last⟩ (.int .i64 0) (.returned (.int .i64 0)) ((w.drewN k).setCell ⟨y.b, 12, none⟩ (.int .i64 (y.f.pl + n))) := fun k => by
          have ht : Turn [y.b] w ((w.drewN k).setCell ⟨y.b, 12, none⟩ (.int .i64 (y.f.pl + n))) := ((Turn.refl [y.b] w).drewN k).setCell (p := ⟨y.b, 12, none⟩) (fun _ => by simp) _
          obtain ⟨b1, b2, b3⟩ := hy.head (f' := { y.f with pl := y.f.pl + n }) rfl (heap_set_same (w := w.drewN k) (o := 12) hy.blk _) ht
          exact hu _ _ _ (.int .i64 0) b1 b2 b3
        have HP := Lib.hid ha
        have z12 : w.frozen? ⟨y.b, 12, none⟩ = false := by simp [World.frozen?, hy.blk]
        have q1 : ¬ n < 0 := fun h => e2 (.inl h)
        have q2 : ¬ y.f.stop - y.f.pl < n := fun h => e2 (.inr h)
        have r1 : decide (n < 0) = false := by simp [q1]
        have r2 : decide (y.f.stop - y.f.pl < n) = false := by simp [q2]
        clear ha hj h hs hp ey hy hu e1 e2
        generalize y.b = b at *
        generalize y.f.pl = yp at *
        generalize y.f.stop = yt at *
        go_enter Try.func32, Try.ntmps32
        go_wp2_with fail
        refine hf.mono ?_
        rintro e w1 ⟨rfl, rfl⟩
        go_wp2_with fail
        go_quiet (fail)
        go_wp2
        go_ret
        exact HP.out _
end Go.Proofs.Ytaanbgagdanalaa
