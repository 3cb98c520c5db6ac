/- The contract of the reference's Hear. -/
import Derived.Test.YtaanbgagdanalaaRJoin
namespace Go.Proofs.Ytaanbgagdanalaa
open Go.RowKit

set_option maxHeartbeats 4000000 in
set_option maxRecDepth 100000 in
theorem hearR_calls (N tb : Nat) (O : List Nat) (t : Tab) (id en pl st : Int) (w : World) (h : RTabR N w tb O t) (hs : Small t) :
    Calls Try.prog 49 #[.pointer (some ⟨tb, 0, none⟩), .int .i64 id, .int .i64 en, .int .i64 pl, .int .i64 st] w (RAct N w tb O (t.hear id en pl st).1 (.int .i64 (t.hear id en pl st).2)) := by
  cases hp : place t.l id with
  | none =>
    have hj : t.hear id en pl st = (t, 6) := by simp [Tab.hear, hp]
    have hf := missR h hs hp
    rw [hj]
    have HP := Lib.hid h
    clear h hj hp
    go_enter Try.func49, Try.ntmps49
    go_wp2_with fail
    refine hf.mono ?_
    rintro e w1 ⟨rfl, hx⟩
    go_wp2
    go_ret
    exact RAct.ext HP.out hx
  | some i =>
    have h0 := h
    obtain ⟨lv, h⟩ := h
    obtain ⟨f, g, c, v, R, hlv, H, hid, hf⟩ := hitR h hs hp
    clear hid hlv h
    have hlt := H.lt
    have hil := hs.1
    have b0 : w.cell? ⟨tb, 0, none⟩ = some (.slice (some ⟨g, 0, none⟩) t.l.length c) := by rw [cell_of_row w tb 0 _ _ _ H.blk]; rfl
    have q8 : w.cell? ⟨g, i * 16 + 8, none⟩ = some (.int .i64 f.en) := H.at_ 8 _ rfl
    have q12 : w.cell? ⟨g, i * 16 + 12, none⟩ = some (.int .i64 f.pl) := H.at_ 12 _ rfl
    have q13 : w.cell? ⟨g, i * 16 + 13, none⟩ = some (.int .i64 f.stop) := H.at_ 13 _ rfl
    have q14 : w.cell? ⟨g, i * 16 + 14, none⟩ = some (.int .i64 (heI f)) := H.at_ 14 _ rfl
    have hi0 : ¬ ((i : Int) < 0) := by omega
    have hi1 : ((i : Int) < (t.l.length : Int)) := by omega
    cases e1 : f.he
    · rw [show heI f = 0 from by simp [heI, e1]] at q14
      by_cases e2 : en < 1 ∨ pl < 0 ∨ st < pl ∨ 4611686018427387904 < st
      · have hj : t.hear id en pl st = (t, 1) := by simp [Tab.hear, hp, H.is, e1, e2]
        rw [hj]
        have HP := Lib.hid h0
        have HD := Lib.hid e2
        generalize t.l.length = n at *
        generalize f.en = ye at *
        clear hj hp hs H h0 e2 e1 q12 q13
        by_cases o1 : en < 1
        · clear HD
          go_enter Try.func49, Try.ntmps49
          go_wp2_with fail
          refine hf.mono ?_
          rintro e w1 ⟨rfl, x1⟩
          replace b0 := x1.cell b0
          replace q14 := x1.cell q14
          replace q8 := x1.cell q8
          have HX := Lib.hid x1
          clear x1 hf
          go_wp2
          go_ret
          exact RAct.ext HP.out HX.out
        · by_cases o2 : pl < 0
          · clear HD
            go_enter Try.func49, Try.ntmps49
            go_wp2_with fail
            refine hf.mono ?_
            rintro e w1 ⟨rfl, x1⟩
            replace b0 := x1.cell b0
            replace q14 := x1.cell q14
            replace q8 := x1.cell q8
            have HX := Lib.hid x1
            clear x1 hf
            go_wp2
            go_ret
            exact RAct.ext HP.out HX.out
          · by_cases o3 : st < pl
            · clear HD
              go_enter Try.func49, Try.ntmps49
              go_wp2_with fail
              refine hf.mono ?_
              rintro e w1 ⟨rfl, x1⟩
              replace b0 := x1.cell b0
              replace q14 := x1.cell q14
              replace q8 := x1.cell q8
              have HX := Lib.hid x1
              clear x1 hf
              go_wp2
              go_ret
              exact RAct.ext HP.out HX.out
            · have o4 : 4611686018427387904 < st := by have := HD.out; omega
              clear HD
              go_enter Try.func49, Try.ntmps49
              go_wp2_with fail
              refine hf.mono ?_
              rintro e w1 ⟨rfl, x1⟩
              replace b0 := x1.cell b0
              replace q14 := x1.cell q14
              replace q8 := x1.cell q8
              have HX := Lib.hid x1
              clear x1 hf
              go_wp2
              go_ret
              exact RAct.ext HP.out HX.out
      · have o1 : ¬ en < 1 := fun h => e2 (.inl h)
        have o2 : ¬ pl < 0 := fun h => e2 (.inr (.inl h))
        have o3 : ¬ st < pl := fun h => e2 (.inr (.inr (.inl h)))
        have o4 : ¬ 4611686018427387904 < st := fun h => e2 (.inr (.inr (.inr h)))
        by_cases e3 : f.en ≠ 0 ∧ f.en ≠ en
        · have hj : t.hear id en pl st = (t, 12) := by simp [Tab.hear, hp, H.is, e1, e2, e3]
          rw [hj]
          have HP := Lib.hid h0
          obtain ⟨o5, o6⟩ := e3
          generalize t.l.length = n at *
          generalize f.en = ye at *
          clear hj hp hs H h0 e2 e1 q12 q13
          have p5 : (ye == 0) = false := by simp [o5]
          have p6 : (ye == en) = false := by simp [o6]
          have p7 : (ye != 0) = true := by simp [o5]
          have p8 : (ye != en) = true := by simp [o6]
          go_enter Try.func49, Try.ntmps49
          go_wp2_with fail
          refine hf.mono ?_
          rintro e w1 ⟨rfl, x1⟩
          replace b0 := x1.cell b0
          replace q14 := x1.cell q14
          replace q8 := x1.cell q8
          have HX := Lib.hid x1
          clear x1 hf
          go_wp2
          go_ret
          exact RAct.ext HP.out HX.out
        · have hj : t.hear id en pl st = (⟨t.l.set i { f with he := true, en := en, pl := pl, stop := st }, t.last⟩, 0) := by simp [Tab.hear, hp, H.is, e1, e2, e3]
          rw [hj]
          have HP : ∀ W, Ext w W → (∀ j, W.frozen? ⟨g, j, none⟩ = false) ∧
              RAct N w tb O ⟨t.l.set i { f with he := true, en := en, pl := pl, stop := st }, t.last⟩ (.int .i64 0) (.returned (.int .i64 0)) ((((W.setCell ⟨g, i * 16 + 14, none⟩ (.int .i64 1)).setCell ⟨g, i * 16 + 8, none⟩ (.int .i64 en)).setCell ⟨g, i * 16 + 12, none⟩ (.int .i64 pl)).setCell ⟨g, i * 16 + 13, none⟩ (.int .i64 st)).drew := by
            intro W x0
            have hrw := ownsRow_ext H.row x0
            refine ⟨fun j => hrw.frozenAt j, RActL.act (H.upd _ v _ _ ?_ ?_ ?_ (Of.refl _ _))⟩
            · exact (((((Turn.of_ext x0).setCell (p := ⟨g, i * 16 + 14, none⟩) (fun _ => List.mem_cons_self ..) _).setCell (p := ⟨g, i * 16 + 8, none⟩) (fun _ => List.mem_cons_self ..) _).setCell (p := ⟨g, i * 16 + 12, none⟩) (fun _ => List.mem_cons_self ..) _).setCell (p := ⟨g, i * 16 + 13, none⟩) (fun _ => List.mem_cons_self ..) _).drew
            · have s1 := H.sets f v { f with he := true } v 14 (.int .i64 1) (by omega) rfl
              have s2 := H.sets { f with he := true } v { f with he := true, en := en } v 8 (.int .i64 en) (by omega) rfl
              have s3 := H.sets { f with he := true, en := en } v { f with he := true, en := en, pl := pl } v 12 (.int .i64 pl) (by omega) rfl
              have s4 := H.sets { f with he := true, en := en, pl := pl } v { f with he := true, en := en, pl := pl, stop := st } v 13 (.int .i64 st) (by omega) rfl
              rw [s4, s3, s2, s1]
              exact ((((hrw.stored _ _).1.stored _ _).1.stored _ _).1.stored _ _).1
            · have := ownsRow_ext H.who x0
              have k1 := fun (W : World) (a : W.ownsRow N 3 1 v f.who.length (f.who.map (Value.int .i64))) j u => ((Turn.refl [g] W).setCell (p := ⟨g, j, none⟩) (fun _ => by simp) u).row a fun x hx e => H.n2 (by simp at e; rwa [e] at hx)
              exact k1 _ (k1 _ (k1 _ (k1 _ this _ _) _ _) _ _) _ _
          have HP' := Lib.hid HP
          clear HP
          have hgl := (H.row.lt g rfl).2
          have HN1 := H.n1
          generalize t.l.length = n at *
          clear hj hp hs H h0 e2 e1
          generalize hye : f.en = ye at *
          generalize hyp : f.pl = yp at *
          generalize hyt : f.stop = yt at *
          clear hye hyp hyt
          by_cases o5 : ye = 0
          · subst o5
            clear e3
            go_enter Try.func49, Try.ntmps49
            go_wp2_with fail
            refine hf.mono ?_
            rintro e w1 ⟨rfl, x1⟩
            replace b0 := x1.cell b0
            replace q8 := x1.cell q8
            replace q12 := x1.cell q12
            replace q13 := x1.cell q13
            replace q14 := x1.cell q14
            obtain ⟨z, d⟩ := HP'.out w1 x1
            have D := Lib.hid d
            clear d x1 hf
            go_wp2_with fail
            go_region
            all_goals
              go_wp2
              go_ret
              exact D.out
          · have o6 : ye = en := by
              rcases Int.lt_trichotomy ye en with x | x | x
              · exact absurd ⟨o5, by omega⟩ e3
              · exact x
              · exact absurd ⟨o5, by omega⟩ e3
            subst o6
            clear e3
            have p5 : (ye == 0) = false := by simp [o5]
            have p7 : (ye != 0) = true := by simp [o5]
            go_enter Try.func49, Try.ntmps49
            go_wp2_with fail
            refine hf.mono ?_
            rintro e w1 ⟨rfl, x1⟩
            replace b0 := x1.cell b0
            replace q8 := x1.cell q8
            replace q12 := x1.cell q12
            replace q13 := x1.cell q13
            replace q14 := x1.cell q14
            obtain ⟨z, d⟩ := HP'.out w1 x1
            have D := Lib.hid d
            clear d x1 hf
            go_wp2_with fail
            go_region
            all_goals
              go_wp2
              go_ret
              exact D.out
    · have hj : t.hear id en pl st = (t, 11) := by simp [Tab.hear, hp, H.is, e1]
      rw [show heI f = 1 from by simp [heI, e1]] at q14
      rw [hj]
      have HP := Lib.hid h0
      generalize t.l.length = n at *
      generalize f.en = ye at *
      clear hj hp hs H h0 e1 q12 q13
      go_enter Try.func49, Try.ntmps49
      go_wp2_with fail
      refine hf.mono ?_
      rintro e w1 ⟨rfl, x1⟩
      replace b0 := x1.cell b0
      replace q14 := x1.cell q14
      replace q8 := x1.cell q8
      have HX := Lib.hid x1
      clear x1 hf
      go_wp2
      go_ret
      exact RAct.ext HP.out HX.out
end Go.Proofs.Ytaanbgagdanalaa
