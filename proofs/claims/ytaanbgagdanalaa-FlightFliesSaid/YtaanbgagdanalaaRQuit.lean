/- The contract of the reference's Quit. -/
import Derived.Test.YtaanbgagdanalaaRJoin
namespace Go.Proofs.Ytaanbgagdanalaa
open Go.RowKit

def bI (b : Bool) : Int := if b then 1 else 0
theorem quit_in {f : Fl} {q : Int} (h : q ∈ f.who) (hn : f.who.Nodup) : f.quit q = ({ f with who := f.who.filter (· != q) }, decide ((f.who.filter (· != q)).length = 0)) := by
  unfold Fl.quit
  rw [if_pos h, hn.erase_eq_filter]
  cases hz : f.who.filter (· != q) <;> simp
theorem quit_out {f : Fl} {q : Int} (h : q ∉ f.who) : f.quit q = (f, false) := by unfold Fl.quit; rw [if_neg h]
theorem rest_take {l : List Int} {q : Int} {k : Nat} (h : k < l.length) : (l.take (k + 1)).filter (· != q) = if l[k] = q then (l.take k).filter (· != q) else (l.take k).filter (· != q) ++ [l[k]] := by
  rw [List.take_succ_eq_append_getElem h, List.filter_append]
  by_cases e : l[k] = q <;> simp [e]

set_option maxHeartbeats 4000000 in
set_option maxRecDepth 100000 in
theorem quitR_calls (N tb : Nat) (lv : Value) (O : List Nat) (t : Tab) (id q : Int) (w : World) (h : RTabL N w tb lv O t) (hN : N ≤ w.heap.size) (hs : Small t) :
    Calls Try.prog 48 #[.pointer (some ⟨tb, 0, none⟩), .int .i64 id, .int .i64 q] w (RActL N w tb lv O (t.quit id q).1 (.int .i64 (bI (t.quit id q).2))) := by
  cases hp : place t.l id with
  | none =>
    have hj : t.quit id q = (t, false) := by simp [Tab.quit, hp]
    rw [hj]
    have hf := missR ⟨lv, h⟩ hs hp
    have HP := Lib.hid h
    clear h hj hp
    go_enter Try.func48, Try.ntmps48
    go_wp2_with fail
    refine hf.mono ?_
    rintro e w1 ⟨rfl, hx⟩
    go_wp2
    go_ret
    exact RActL.ext HP.out hx
  | some i =>
    obtain ⟨f, g, c, v, R, rfl, H, hid, hf⟩ := hitR h hs hp
    clear hid
    have hlt := H.lt
    have hil := hs.1
    have hwl := H.fine.1
    obtain ⟨_, A2, c2, rfl, hc2, hri⟩ := row_ints H.who
    have b0 : w.cell? ⟨tb, 0, none⟩ = some (.slice (some ⟨g, 0, none⟩) t.l.length c) := by rw [cell_of_row w tb 0 _ _ _ H.blk]; rfl
    have hat := H.at_
    have hj : t.quit id q = (⟨t.l.set i (f.quit q).1, t.last⟩, (f.quit q).2) := by simp only [Tab.quit, hp, H.is]
    rw [hj]
    have hi0 : ¬ ((i : Int) < 0) := by omega
    have hi1 : ((i : Int) < (t.l.length : Int)) := by omega
    cases hm : decide (q ∈ f.who)
    · have hm' : q ∉ f.who := by simpa using hm
      rw [quit_out hm']
      have hsame : (⟨t.l.set i f, t.last⟩ : Tab) = t := by
        rw [← H.is, getElem!_pos t.l i H.lt, List.set_getElem_self]
      rw [hsame]
      have HP := Lib.hid h
      have HM := Lib.hid hm
      generalize t.l.length = n at *
      clear H h hj hp hs hm hm' hsame
      go_enter Try.func48, Try.ntmps48
      go_wp2_with fail
      refine hf.mono ?_
      rintro e w1 ⟨rfl, x1⟩
      replace b0 := x1.cell b0
      replace hat := hat.ext x1
      replace hri : RowI w1 A2 f.who := fun k hk => by
        obtain ⟨g, e, h⟩ := hri k hk
        exact ⟨g, e, x1.cell h⟩
      have q0 : w1.cell? ⟨g, i * 16, none⟩ = some (.int .i64 f.id) := hat 0 _ rfl
      have q1 : w1.cell? ⟨g, i * 16 + 1, none⟩ = some (.string f.obj) := hat 1 _ rfl
      have q2 : w1.cell? ⟨g, i * 16 + 2, none⟩ = some (.int .i64 f.fr) := hat 2 _ rfl
      have q3 : w1.cell? ⟨g, i * 16 + 3, none⟩ = some (.int .i64 f.to) := hat 3 _ rfl
      have q4 : w1.cell? ⟨g, i * 16 + 4, none⟩ = some (.string f.mt) := hat 4 _ rfl
      have q5 : w1.cell? ⟨g, i * 16 + 5, none⟩ = some (.bool f.mw) := hat 5 _ rfl
      have q6 : w1.cell? ⟨g, i * 16 + 6, none⟩ = some (.string f.nt) := hat 6 _ rfl
      have q7 : w1.cell? ⟨g, i * 16 + 7, none⟩ = some (.bool f.nw) := hat 7 _ rfl
      have q8 : w1.cell? ⟨g, i * 16 + 8, none⟩ = some (.int .i64 f.en) := hat 8 _ rfl
      have q9 : w1.cell? ⟨g, i * 16 + 9, none⟩ = some (.int .i64 f.sa) := hat 9 _ rfl
      have q10 : w1.cell? ⟨g, i * 16 + 10, none⟩ = some (.int .i64 f.mo) := hat 10 _ rfl
      have q11 : w1.cell? ⟨g, i * 16 + 11, none⟩ = some (.int .i64 f.ge) := hat 11 _ rfl
      have q12 : w1.cell? ⟨g, i * 16 + 12, none⟩ = some (.int .i64 f.pl) := hat 12 _ rfl
      have q13 : w1.cell? ⟨g, i * 16 + 13, none⟩ = some (.int .i64 f.stop) := hat 13 _ rfl
      have q14 : w1.cell? ⟨g, i * 16 + 14, none⟩ = some (.int .i64 (heI f)) := hat 14 _ rfl
      have q15 : w1.cell? ⟨g, i * 16 + 15, none⟩ = some ((.slice A2 f.who.length c2)) := hat 15 _ rfl
      clear hat
      go_wp2_with fail
      refine (waits_calls f A2 c2 q w1 hri (by omega)).mono ?_
      rintro e w2 ⟨rfl, x2⟩
      rw [HM.out]
      go_wp2
      go_ret
      exact RActL.ext HP.out (x1.trans x2)
    · have hm' : q ∈ f.who := by simpa using hm
      rw [quit_in hm' H.fine.2.1]
      have HP : ∀ W v', Ext w W → W.ownsRow w.heap.size 3 1 v' (f.who.filter (· != q)).length ((f.who.filter (· != q)).map (Value.int .i64)) →
          W.cell? ⟨tb, 0, none⟩ = some (.slice (some ⟨g, 0, none⟩) t.l.length c) ∧ W.cell? ⟨g, i * 16 + 15, none⟩ = some (.slice A2 f.who.length c2) ∧ W.frozen? ⟨g, i * 16 + 15, none⟩ = false ∧
          ∀ b : Bool, RActL N w tb (.slice (some ⟨g, 0, none⟩) t.l.length c) O ⟨t.l.set i { f with who := f.who.filter (· != q) }, t.last⟩ (.int .i64 (bI b)) (.returned (.int .i64 (bI b))) (W.setCell ⟨g, i * 16 + 15, none⟩ v') := by
        intro W v' x0 a1
        have hrw := ownsRow_ext H.row x0
        have hgl := (H.row.lt g rfl).2
        have hgb : g ∉ ob v' := fun e => by have := (row_lies a1 _ e).1; omega
        refine ⟨x0.cell b0, x0.cell (H.at_ 15 _ rfl), hrw.frozenAt _, fun b => ?_⟩
        have hset := H.sets f (.slice A2 f.who.length c2) { f with who := f.who.filter (· != q) } v' 15 v' (by omega) rfl
        refine H.upd _ v' _ _ ?_ ?_ ?_ ?_
        · exact (Turn.of_ext x0).setCell (p := ⟨g, i * 16 + 15, none⟩) (fun _ => List.mem_cons_self ..) v'
        · rw [hset]; exact (hrw.stored _ _).1
        · have := ((Turn.refl [g] W).setCell (p := ⟨g, i * 16 + 15, none⟩) (fun _ => by simp) v').row (row_base a1 hN) fun x hx e => hgb (by simp at e; rwa [e] at hx)
          simpa using this
        · exact fun x hx => .inr (row_lies a1 _ hx).1
      obtain ⟨F, hF⟩ : ∃ F, f.who.filter (· != q) = F := ⟨_, rfl⟩
      rw [hF] at HP ⊢
      obtain ⟨m, hm2⟩ : ∃ m, F.length = m := ⟨_, rfl⟩
      rw [hm2] at HP ⊢
      have HF := Lib.hid hF
      have HM2 := Lib.hid hm2
      have HP' := Lib.hid HP
      clear HP
      have HP := HP'
      clear HP'
      have HM := Lib.hid hm
      have hgl := (H.row.lt g rfl).2
      have htl : tb < w.heap.size := blk_lt H.blk
      generalize t.l.length = n at *
      clear H h hj hp hs hm hm' hN hF hm2
      go_enter Try.func48, Try.ntmps48
      go_wp2_with fail
      refine hf.mono ?_
      rintro e w1 ⟨rfl, x1⟩
      replace b0 := x1.cell b0
      replace hat := hat.ext x1
      replace hri : RowI w1 A2 f.who := fun k hk => by
        obtain ⟨g, e, h⟩ := hri k hk
        exact ⟨g, e, x1.cell h⟩
      have q0 : w1.cell? ⟨g, i * 16, none⟩ = some (.int .i64 f.id) := hat 0 _ rfl
      have q1 : w1.cell? ⟨g, i * 16 + 1, none⟩ = some (.string f.obj) := hat 1 _ rfl
      have q2 : w1.cell? ⟨g, i * 16 + 2, none⟩ = some (.int .i64 f.fr) := hat 2 _ rfl
      have q3 : w1.cell? ⟨g, i * 16 + 3, none⟩ = some (.int .i64 f.to) := hat 3 _ rfl
      have q4 : w1.cell? ⟨g, i * 16 + 4, none⟩ = some (.string f.mt) := hat 4 _ rfl
      have q5 : w1.cell? ⟨g, i * 16 + 5, none⟩ = some (.bool f.mw) := hat 5 _ rfl
      have q6 : w1.cell? ⟨g, i * 16 + 6, none⟩ = some (.string f.nt) := hat 6 _ rfl
      have q7 : w1.cell? ⟨g, i * 16 + 7, none⟩ = some (.bool f.nw) := hat 7 _ rfl
      have q8 : w1.cell? ⟨g, i * 16 + 8, none⟩ = some (.int .i64 f.en) := hat 8 _ rfl
      have q9 : w1.cell? ⟨g, i * 16 + 9, none⟩ = some (.int .i64 f.sa) := hat 9 _ rfl
      have q10 : w1.cell? ⟨g, i * 16 + 10, none⟩ = some (.int .i64 f.mo) := hat 10 _ rfl
      have q11 : w1.cell? ⟨g, i * 16 + 11, none⟩ = some (.int .i64 f.ge) := hat 11 _ rfl
      have q12 : w1.cell? ⟨g, i * 16 + 12, none⟩ = some (.int .i64 f.pl) := hat 12 _ rfl
      have q13 : w1.cell? ⟨g, i * 16 + 13, none⟩ = some (.int .i64 f.stop) := hat 13 _ rfl
      have q14 : w1.cell? ⟨g, i * 16 + 14, none⟩ = some (.int .i64 (heI f)) := hat 14 _ rfl
      have q15 : w1.cell? ⟨g, i * 16 + 15, none⟩ = some ((.slice A2 f.who.length c2)) := hat 15 _ rfl
      clear hat
      go_wp2_with fail
      refine (waits_calls f A2 c2 q w1 hri (by omega)).mono ?_
      rintro e w2 ⟨rfl, x2⟩
      rw [HM.out]
      replace b0 := x2.cell b0
      replace q15 := x2.cell q15
      replace hri : RowI w2 A2 f.who := fun k hk => by
        obtain ⟨g, e, h⟩ := hri k hk
        exact ⟨g, e, x2.cell h⟩
      have x12 := Lib.hid (x1.trans x2)
      clear x2 x1 hf q0 q1 q2 q3 q4 q5 q6 q7 q8 q9 q10 q11 q12 q13 q14
      obtain ⟨L, hL⟩ : ∃ L, f.who = L := ⟨_, rfl⟩
      rw [hL] at hwl hc2 hri HP q15 HF ⊢
      clear hL HM
      go_wp2
      go_loopw [8, 37] (fun r j wr => ∃ k : Nat, k ≤ L.length ∧ j = .int .i64 k ∧ wr.ownsRow w2.heap.size 3 1 r ((L.take k).filter (· != q)).length (((L.take k).filter (· != q)).map (Value.int .i64)) ∧ Ext w2 wr) (fun _ j _ => L.length - (intOf j).toNat)
      case atStart => exact ⟨0, Nat.zero_le _, rfl, World.ownsRow_nil _ _ _ _, Ext.refl _⟩
      case round =>
        obtain ⟨k, hk, rfl, hown, hx2⟩ := hrel
        by_cases hlt2 : k < L.length
        · obtain ⟨g2, rfl, hc⟩ := hri k hlt2
          replace hc := hx2.cell hc
          have htk := rest_take (q := q) hlt2
          have hol : ((L.take k).filter (· != q)).length ≤ L.length := Nat.le_trans (List.length_filter_le _ _) (by simp; omega)
          obtain ⟨y, hy⟩ : ∃ y, L[k] = y := ⟨_, rfl⟩
          rw [hy] at hc htk
          obtain ⟨rs, hrs⟩ : ∃ rs, (L.take k).filter (· != q) = rs := ⟨_, rfl⟩
          rw [hrs] at htk hown hol
          have HX2 := Lib.hid hx2
          have hsz2 := hx2.size
          obtain ⟨A3, c3, rfl, _⟩ := own_shape hown
          clear hy hrs hx2
          by_cases e1 : y = q
          · rw [if_pos e1] at htk
            have e2 : (y == q) = true := by simp [e1]
            have e3 : decide (y = q) = true := by simp [e1]
            have e4 : (y != q) = false := by simp [e1]
            have HT := Lib.hid htk
            clear htk e1
            go_wp2
            go_roundw
            case rel => exact ⟨k + 1, by omega, by go_num, by rw [HT.out]; exact hown, HX2.out⟩
            case measure => simp [intOf] <;> omega
          · rw [if_neg e1] at htk
            have e2 : (y == q) = false := by simp [e1]
            have e3 : decide (y = q) = false := by simp [e1]
            have e4 : (y != q) = true := by simp [e1]
            have HT := Lib.hid htk
            clear htk e1
            go_wp2_with (at_builtin; refine wpList_append_new _ rfl _ _ 22 rfl w2.heap.size 3 _ 1 8 Try.underlying22 info3 rfl (by omega) _ rs.length _ rfl hown 1 1 _ rfl _ rfl rfl (by simp [Value.oneCell']) (by simp [maxLen]; omega) (by omega) hsz2 ?_; intro v1 w4 hown2 hm2)
            have HH := Lib.hid (ext_moved HX2.out hown hm2)
            go_roundw
            case rel => exact ⟨k + 1, by omega, by go_num, by rw [HT.out]; simpa using hown2, HH.out⟩
            case measure => simp [intOf] <;> omega
        · obtain rfl : k = L.length := by omega
          rw [List.take_length] at hown
          rw [HF.out, HM2.out] at hown
          obtain ⟨A3, c3, rfl, _⟩ := own_shape hown
          obtain ⟨d1, d2, d3, d4⟩ := HP.out _ _ (x12.out.trans hx2) (row_base hown x12.out.size)
          have D4 := Lib.hid d4
          clear d4 hown hri
          cases e3 : decide (m = 0)
          all_goals
            have e4 : decide ((m : Int) = 0) = decide (m = 0) := by simp
            rw [e3] at e4
            have e5 : ((m : Int) == 0) = decide ((m : Int) = 0) := by rw [Bool.eq_iff_iff]; simp
            rw [e4] at e5
            have E3 := Lib.hid e3
            clear e3
            go_wp2
            go_ret
            rw [E3.out]
          · exact D4.out false
          · exact D4.out true
end Go.Proofs.Ytaanbgagdanalaa
