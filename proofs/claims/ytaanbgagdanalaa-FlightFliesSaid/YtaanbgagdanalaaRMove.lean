/- The contract of the reference's Move. -/
import Derived.Test.YtaanbgagdanalaaRJoin
namespace Go.Proofs.Ytaanbgagdanalaa
open Go.RowKit

set_option maxHeartbeats 4000000 in
set_option maxRecDepth 100000 in
theorem moveR_calls (N tb : Nat) (O : List Nat) (t : Tab) (id n : Int) (w : World) (h : RTabR N w tb O t) (hs : Small t) :
    Calls Try.prog 50 #[.pointer (some ⟨tb, 0, none⟩), .int .i64 id, .int .i64 n] w (RAct N w tb O (t.move id n).1 (.int .i64 (t.move id n).2)) := by
  cases hp : place t.l id with
  | none =>
    have hj : t.move id n = (t, 6) := by simp [Tab.move, hp]
    have hf := missR h hs hp
    rw [hj]
    have HP := Lib.hid h
    clear h hj hp
    go_enter Try.func50, Try.ntmps50
    go_wp2_with fail
    refine hf.mono ?_
    rintro e w1 ⟨rfl, hx⟩
    go_wp2
    go_ret
    exact RAct.ext HP.out hx
  | some i =>
    have h0 := h
    obtain ⟨lv, h⟩ := h
    obtain ⟨f, g, c, v, R, hlv, H, hid, hf⟩ := hitR h hs hp
    clear hid hlv h
    have hlt := H.lt
    have hil := hs.1
    obtain ⟨_, _, f1, f2, f3, f4⟩ := H.fine
    have b0 : w.cell? ⟨tb, 0, none⟩ = some (.slice (some ⟨g, 0, none⟩) t.l.length c) := by rw [cell_of_row w tb 0 _ _ _ H.blk]; rfl
    have q12 : w.cell? ⟨g, i * 16 + 12, none⟩ = some (.int .i64 f.pl) := H.at_ 12 _ rfl
    have q13 : w.cell? ⟨g, i * 16 + 13, none⟩ = some (.int .i64 f.stop) := H.at_ 13 _ rfl
    have q14 : w.cell? ⟨g, i * 16 + 14, none⟩ = some (.int .i64 (heI f)) := H.at_ 14 _ rfl
    have hi0 : ¬ ((i : Int) < 0) := by omega
    have hi1 : ((i : Int) < (t.l.length : Int)) := by omega
    cases e1 : f.he
    · have hj : t.move id n = (t, 11) := by simp [Tab.move, hp, H.is, e1]
      rw [show heI f = 0 from by simp [heI, e1]] at q14
      rw [hj]
      have HP := Lib.hid h0
      generalize t.l.length = nn at *
      clear hj hp hs H h0 e1 q12 q13 f1 f2 f3 f4
      go_enter Try.func50, Try.ntmps50
      go_wp2_with fail
      refine hf.mono ?_
      rintro e w1 ⟨rfl, x1⟩
      replace b0 := x1.cell b0
      replace q14 := x1.cell q14
      have HX := Lib.hid x1
      clear x1 hf
      go_wp2
      go_ret
      exact RAct.ext HP.out HX.out
    · rw [show heI f = 1 from by simp [heI, e1]] at q14
      have hsub : IntKind.i64.wrap (f.stop - f.pl) = f.stop - f.pl := IntWalk.i64_in _ (by omega)
      by_cases e2 : n < 0 ∨ f.stop - f.pl < n
      · have hj : t.move id n = (t, 1) := by simp [Tab.move, hp, H.is, e1, e2]
        rw [hj]
        have HP := Lib.hid h0
        have HD := Lib.hid e2
        generalize t.l.length = nn at *
        clear hj hp hs H h0 e1 e2
        generalize hye : f.stop = ye at *
        generalize hyp : f.pl = yp at *
        clear hye hyp
        by_cases o1 : n < 0
        · clear HD
          go_enter Try.func50, Try.ntmps50
          go_wp2_with fail
          refine hf.mono ?_
          rintro e w1 ⟨rfl, x1⟩
          replace b0 := x1.cell b0
          replace q12 := x1.cell q12
          replace q13 := x1.cell q13
          replace q14 := x1.cell q14
          have HX := Lib.hid x1
          clear x1 hf
          go_wp2_with fail
          go_quiet (fail)
          go_wp2
          go_ret
          exact RAct.ext HP.out (HX.out.drewN _)
        · have o2 : ye - yp < n := by have := HD.out; omega
          clear HD
          go_enter Try.func50, Try.ntmps50
          go_wp2_with fail
          refine hf.mono ?_
          rintro e w1 ⟨rfl, x1⟩
          replace b0 := x1.cell b0
          replace q12 := x1.cell q12
          replace q13 := x1.cell q13
          replace q14 := x1.cell q14
          have HX := Lib.hid x1
          clear x1 hf
          go_wp2_with fail
          go_quiet (fail)
          go_wp2
          go_ret
          exact RAct.ext HP.out (HX.out.drewN _)
      · have o1 : ¬ n < 0 := fun h => e2 (.inl h)
        have o2 : ¬ f.stop - f.pl < n := fun h => e2 (.inr h)
        have hj : t.move id n = (⟨t.l.set i { f with pl := f.pl + n }, t.last⟩, 0) := by simp [Tab.move, hp, H.is, e1, e2]
        rw [hj]
        have hadd : IntKind.i64.wrap (f.pl + n) = f.pl + n := IntWalk.i64_in _ (by omega)
        have HP : ∀ W, Ext w W → (∀ j, W.frozen? ⟨g, j, none⟩ = false) ∧
            RAct N w tb O ⟨t.l.set i { f with pl := f.pl + n }, t.last⟩ (.int .i64 0) (.returned (.int .i64 0)) (W.setCell ⟨g, i * 16 + 12, none⟩ (.int .i64 (f.pl + n))) := by
          intro W x0
          have hrw := ownsRow_ext H.row x0
          refine ⟨fun j => hrw.frozenAt j, RActL.act (H.upd _ v _ _ ?_ ?_ ?_ (Of.refl _ _))⟩
          · exact (Turn.of_ext x0).setCell (p := ⟨g, i * 16 + 12, none⟩) (fun _ => List.mem_cons_self ..) _
          · have s1 := H.sets f v { f with pl := f.pl + n } v 12 (.int .i64 (f.pl + n)) (by omega) rfl
            rw [s1]
            exact (hrw.stored _ _).1
          · have := ownsRow_ext H.who x0
            exact ((Turn.refl [g] W).setCell (p := ⟨g, i * 16 + 12, none⟩) (fun _ => by simp) _).row this fun x hx e => H.n2 (by simp at e; rwa [e] at hx)
        have HP' := Lib.hid HP
        clear HP
        generalize t.l.length = nn at *
        clear hj hp hs H h0 e2 e1
        generalize hye : f.stop = ye at *
        generalize hyp : f.pl = yp at *
        clear hye hyp
        go_enter Try.func50, Try.ntmps50
        go_wp2_with fail
        refine hf.mono ?_
        rintro e w1 ⟨rfl, x1⟩
        replace b0 := x1.cell b0
        replace q12 := x1.cell q12
        replace q13 := x1.cell q13
        replace q14 := x1.cell q14
        have z := (HP'.out w1 x1).1
        have D := Lib.hid (fun m => (HP'.out (w1.drewN m) (x1.drewN m)).2)
        clear x1 hf
        go_wp2_with fail
        go_quiet (fail)
        go_wp2_with fail
        go_region
        all_goals
          go_wp2
          go_ret
          exact D.out _
end Go.Proofs.Ytaanbgagdanalaa
