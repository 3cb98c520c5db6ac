/- The walk of FlightBytes. -/
import Derived.Test.YtaanbgagdanalaaOpm
import Derived.Test.YtaanbgagdanalaaFly
import Derived.Test.YtaanbgagdanalaaLawOne
import Derived.Deep.RegionHeld3
import Derived.Test.YtaanbgagdanalaaSpl
import Derived.Test.YtaanbgagdanalaaHear
import Derived.Test.YtaanbgagdanalaaRgFirst
namespace Go.Proofs.Ytaanbgagdanalaa.Rg
open Go.RowKit

/-- A flight that was heard, of bytes up to fin, the next one h. -/
def heard (f : Fl) (fin h : Int) : Fl := { begun f [] with he := true, en := max f.en 1, pl := h, stop := fin }
theorem place_one (f : Fl) (h : f.id = 1) : place [f] 1 = some 0 := by simp [place, List.findIdx?_cons, h]
theorem hear_begun {f : Fl} (hs : starts f = true) {at_ fin : Int} (h0 : 0 ≤ at_) (h1 : at_ ≤ fin) (h2 : fin ≤ 4611686018427387904) :
    (Tab.mk [begun f []] 1).hear 1 (max f.en 1) at_ fin = (⟨[heard f fin at_], 1⟩, 0) := by
  obtain ⟨a1, a2, a3, a4, a5, a6, a7, a8⟩ := starts_yes f hs
  have hp := place_one (begun f []) rfl
  have e0 : (begun f []).he = false := by simp [begun]; simp_all
  have e1 : (begun f []).en = f.en := rfl
  unfold Tab.hear
  rw [hp]
  have e2 : ([begun f []] : List Fl)[0]! = begun f [] := rfl
  dsimp only
  rw [e2, e0, e1]
  rw [if_neg (by simp), if_neg (by omega), if_neg (by omega)]
  rfl
theorem move_heard (f : Fl) (fin h n : Int) : (Tab.mk [heard f fin h] 1).move 1 n = if 0 ≤ n ∧ n ≤ fin - h then (⟨[heard f fin (h + n)], 1⟩, 0) else (⟨[heard f fin h], 1⟩, 1) := by
  have hp := place_one (heard f fin h) rfl
  have e2 : ([heard f fin h] : List Fl)[0]! = heard f fin h := rfl
  have e3 : (heard f fin h).stop - (heard f fin h).pl = fin - h := rfl
  unfold Tab.move
  rw [hp]
  dsimp only
  rw [e2, e3, if_neg (by simp [heard])]
  by_cases hc : 0 ≤ n ∧ n ≤ fin - h
  · rw [if_pos hc, if_neg (by omega)]; rfl
  · rw [if_neg hc, if_pos (by omega)]
theorem heard_com (f : Fl) (fin h : Int) : comL ⟨[heard f fin h], 1⟩ (max f.en 1) = [⟨h, fin⟩] := by
  have h1 : (1 : Int) ≤ max f.en 1 := by omega
  simp [comL, ofEn, heard, com, h1]
theorem heard_of {fin h : Int} (h0 : 0 ≤ h) (h1 : h ≤ fin) (h2 : fin ≤ 4611686018427387904) : ofS [⟨h, fin⟩] = if h = fin then [] else [⟨h, fin⟩] := by
  refine norm_ext (norm_of _) ?_ fun x => ?_
  · split
    · exact norm_nil
    · exact norm_one ⟨h0, by show h < fin; omega, h2⟩
  · rw [mem_of]
    split
    · rename_i e
      constructor
      · rintro ⟨s, hs, ⟨_, a, _⟩, _⟩; simp at hs; subst hs; simp at a; omega
      · intro hm; exact absurd hm (mem_nil x)
    · rename_i e
      rw [mem_cons]
      constructor
      · rintro ⟨s, hs, _, a⟩; simp at hs; subst hs; exact .inl a
      · rintro (a | a)
        · exact ⟨_, List.mem_singleton.2 rfl, ⟨h0, by show h < fin; omega, h2⟩, a⟩
        · exact absurd a (mem_nil x)
theorem small_heard (f : Fl) {fin h : Int} (h0 : 0 ≤ h) (h1 : h ≤ fin) (h2 : fin ≤ 4611686018427387904) : Small ⟨[heard f fin h], 1⟩ := by
  refine ⟨by simp, by simp, by simp, ⟨by simp, by simp [heard, begun]⟩, ?_⟩
  simp only [List.mem_singleton, forall_eq]
  exact ⟨by simp [heard, begun], by simp [heard, begun], h0, by show h ≤ _; omega, by show 0 ≤ fin; omega, h2⟩

set_option maxHeartbeats 4000000 in
set_option maxRecDepth 100000 in
theorem lawBytes_calls (z : Mv) (w : World) (hr : RowO w z.A z.l) :
    Calls Try.prog 7 #[agM z] w fun e w' => e = .returned (.bool true) ∧ Ext w w' := by
  obtain ⟨f, at_, fin, A, c, l⟩ := z
  unfold agM
  dsimp only at hr ⊢
  have hx1 : Ext w (w.alloc (.cells #[.int .i64 f.id, .string f.obj, .int .i64 f.fr, .int .i64 f.to, .string f.mt, .bool f.mw, .string f.nt, .bool f.nw, .int .i64 f.en, .int .i64 f.sa, .int .i64 f.mo, .int .i64 f.ge, .int .i64 f.pl, .bool f.he, .int .i64 at_, .int .i64 fin, .slice A l.length c] 69)) := (Ext.refl w).alloc _
  have b1 := heap_alloc_new w (.cells #[.int .i64 f.id, .string f.obj, .int .i64 f.fr, .int .i64 f.to, .string f.mt, .bool f.mw, .string f.nt, .bool f.nw, .int .i64 f.en, .int .i64 f.sa, .int .i64 f.mo, .int .i64 f.ge, .int .i64 f.pl, .bool f.he, .int .i64 at_, .int .i64 fin, .slice A l.length c] 69)
  replace hr := hr.ext hx1
  go_enter Try.func7, Try.ntmps7
  go_upto_region 1 with (fail)
  generalize w.alloc (.cells #[.int .i64 f.id, .string f.obj, .int .i64 f.fr, .int .i64 f.to, .string f.mt, .bool f.mw, .string f.nt, .bool f.nw, .int .i64 f.en, .int .i64 f.sa, .int .i64 f.mo, .int .i64 f.ge, .int .i64 f.pl, .bool f.he, .int .i64 at_, .int .i64 fin, .slice A l.length c] 69) = w1 at *
  generalize w.heap.size = zb at *
  have z0 : w1.cell? ⟨zb, 0, none⟩ = some (.int .i64 f.id) := by rw [cell_of_row _ _ 0 _ _ _ b1]; rfl
  have z1 : w1.cell? ⟨zb, 1, none⟩ = some (.string f.obj) := by rw [cell_of_row _ _ 1 _ _ _ b1]; rfl
  have z2 : w1.cell? ⟨zb, 2, none⟩ = some (.int .i64 f.fr) := by rw [cell_of_row _ _ 2 _ _ _ b1]; rfl
  have z3 : w1.cell? ⟨zb, 3, none⟩ = some (.int .i64 f.to) := by rw [cell_of_row _ _ 3 _ _ _ b1]; rfl
  have z4 : w1.cell? ⟨zb, 4, none⟩ = some (.string f.mt) := by rw [cell_of_row _ _ 4 _ _ _ b1]; rfl
  have z5 : w1.cell? ⟨zb, 5, none⟩ = some (.bool f.mw) := by rw [cell_of_row _ _ 5 _ _ _ b1]; rfl
  have z6 : w1.cell? ⟨zb, 6, none⟩ = some (.string f.nt) := by rw [cell_of_row _ _ 6 _ _ _ b1]; rfl
  have z7 : w1.cell? ⟨zb, 7, none⟩ = some (.bool f.nw) := by rw [cell_of_row _ _ 7 _ _ _ b1]; rfl
  have z8 : w1.cell? ⟨zb, 8, none⟩ = some (.int .i64 f.en) := by rw [cell_of_row _ _ 8 _ _ _ b1]; rfl
  have z9 : w1.cell? ⟨zb, 9, none⟩ = some (.int .i64 f.sa) := by rw [cell_of_row _ _ 9 _ _ _ b1]; rfl
  have z10 : w1.cell? ⟨zb, 10, none⟩ = some (.int .i64 f.mo) := by rw [cell_of_row _ _ 10 _ _ _ b1]; rfl
  have z11 : w1.cell? ⟨zb, 11, none⟩ = some (.int .i64 f.ge) := by rw [cell_of_row _ _ 11 _ _ _ b1]; rfl
  have z12 : w1.cell? ⟨zb, 12, none⟩ = some (.int .i64 f.pl) := by rw [cell_of_row _ _ 12 _ _ _ b1]; rfl
  have z13 : w1.cell? ⟨zb, 13, none⟩ = some (.bool f.he) := by rw [cell_of_row _ _ 13 _ _ _ b1]; rfl
  have z14 : w1.cell? ⟨zb, 14, none⟩ = some (.int .i64 at_) := by rw [cell_of_row _ _ 14 _ _ _ b1]; rfl
  have z15 : w1.cell? ⟨zb, 15, none⟩ = some (.int .i64 fin) := by rw [cell_of_row _ _ 15 _ _ _ b1]; rfl
  have z16 : w1.cell? ⟨zb, 16, none⟩ = some (.slice A l.length c) := by rw [cell_of_row _ _ 16 _ _ _ b1]; rfl
  clear b1
  have HZ : Hid (∀ W, Ext w1 W → W.cell? ⟨zb, 0, none⟩ = some (.int .i64 f.id) ∧ W.cell? ⟨zb, 1, none⟩ = some (.string f.obj) ∧ W.cell? ⟨zb, 2, none⟩ = some (.int .i64 f.fr) ∧ W.cell? ⟨zb, 3, none⟩ = some (.int .i64 f.to) ∧ W.cell? ⟨zb, 4, none⟩ = some (.string f.mt) ∧ W.cell? ⟨zb, 5, none⟩ = some (.bool f.mw) ∧ W.cell? ⟨zb, 6, none⟩ = some (.string f.nt) ∧ W.cell? ⟨zb, 7, none⟩ = some (.bool f.nw) ∧ W.cell? ⟨zb, 8, none⟩ = some (.int .i64 f.en) ∧ W.cell? ⟨zb, 9, none⟩ = some (.int .i64 f.sa) ∧ W.cell? ⟨zb, 10, none⟩ = some (.int .i64 f.mo) ∧ W.cell? ⟨zb, 11, none⟩ = some (.int .i64 f.ge) ∧ W.cell? ⟨zb, 12, none⟩ = some (.int .i64 f.pl) ∧ W.cell? ⟨zb, 13, none⟩ = some (.bool f.he) ∧ W.cell? ⟨zb, 14, none⟩ = some (.int .i64 at_) ∧ W.cell? ⟨zb, 15, none⟩ = some (.int .i64 fin) ∧ W.cell? ⟨zb, 16, none⟩ = some (.slice A l.length c)) := Lib.hid fun W hE => ⟨hE.cell z0, hE.cell z1, hE.cell z2, hE.cell z3, hE.cell z4, hE.cell z5, hE.cell z6, hE.cell z7, hE.cell z8, hE.cell z9, hE.cell z10, hE.cell z11, hE.cell z12, hE.cell z13, hE.cell z14, hE.cell z15, hE.cell z16⟩
  refine wp_region_noPanic ?_
  go_region_held3 (fun w' => w'.cell? ⟨zb, 0, none⟩ = some (.int .i64 f.id) ∧ w'.cell? ⟨zb, 1, none⟩ = some (.string f.obj) ∧ w'.cell? ⟨zb, 2, none⟩ = some (.int .i64 f.fr) ∧ w'.cell? ⟨zb, 3, none⟩ = some (.int .i64 f.to) ∧ w'.cell? ⟨zb, 4, none⟩ = some (.string f.mt) ∧ w'.cell? ⟨zb, 5, none⟩ = some (.bool f.mw) ∧ w'.cell? ⟨zb, 6, none⟩ = some (.string f.nt) ∧ w'.cell? ⟨zb, 7, none⟩ = some (.bool f.nw) ∧ w'.cell? ⟨zb, 8, none⟩ = some (.int .i64 f.en) ∧ w'.cell? ⟨zb, 9, none⟩ = some (.int .i64 f.sa) ∧ w'.cell? ⟨zb, 10, none⟩ = some (.int .i64 f.mo) ∧ w'.cell? ⟨zb, 11, none⟩ = some (.int .i64 f.ge) ∧ w'.cell? ⟨zb, 12, none⟩ = some (.int .i64 f.pl) ∧ w'.cell? ⟨zb, 13, none⟩ = some (.bool f.he) ∧ w'.cell? ⟨zb, 14, none⟩ = some (.int .i64 at_) ∧ w'.cell? ⟨zb, 15, none⟩ = some (.int .i64 fin) ∧ w'.cell? ⟨zb, 16, none⟩ = some (.slice A l.length c)) (exact HZ.out _ (by repeat' (first | (with_reducible exact Ext.refl _) | (with_reducible refine Ext.drew ?_) | (with_reducible refine Ext.alloc ?_ _) | (with_reducible refine Ext.setCell ?_ (Nat.le_refl _) _)))) (fail)
  refine NoPanic.normal ?_
  have b2 : ((w1.alloc (.cells #[.int .i64 f.id, .string f.obj, .int .i64 f.fr, .int .i64 f.to, .string f.mt, .bool f.mw, .string f.nt, .bool f.nw, .int .i64 f.en, .int .i64 f.sa, .int .i64 f.mo, .int .i64 f.ge, .int .i64 f.pl, .bool f.he] 30)).drew).heap[w1.heap.size]? = some (.cells #[.int .i64 f.id, .string f.obj, .int .i64 f.fr, .int .i64 f.to, .string f.mt, .bool f.mw, .string f.nt, .bool f.nw, .int .i64 f.en, .int .i64 f.sa, .int .i64 f.mo, .int .i64 f.ge, .int .i64 f.pl, .bool f.he] 30 (0, 0)) := heap_alloc_new w1 _
  replace hx1 := (hx1.alloc (.cells #[.int .i64 f.id, .string f.obj, .int .i64 f.fr, .int .i64 f.to, .string f.mt, .bool f.mw, .string f.nt, .bool f.nw, .int .i64 f.en, .int .i64 f.sa, .int .i64 f.mo, .int .i64 f.ge, .int .i64 f.pl, .bool f.he] 30)).drew
  replace hr : RowO (w1.alloc (.cells #[.int .i64 f.id, .string f.obj, .int .i64 f.fr, .int .i64 f.to, .string f.mt, .bool f.mw, .string f.nt, .bool f.nw, .int .i64 f.en, .int .i64 f.sa, .int .i64 f.mo, .int .i64 f.ge, .int .i64 f.pl, .bool f.he] 30)).drew A l := hr.ext ((Ext.refl w1).alloc (.cells #[.int .i64 f.id, .string f.obj, .int .i64 f.fr, .int .i64 f.to, .string f.mt, .bool f.mw, .string f.nt, .bool f.nw, .int .i64 f.en, .int .i64 f.sa, .int .i64 f.mo, .int .i64 f.ge, .int .i64 f.pl, .bool f.he] 30)).drew
  clear HZ z0 z1 z2 z3 z4 z5 z6 z7 z8 z9 z10 z11 z12 z13 z14 z15 z16
  generalize (w1.alloc (.cells #[.int .i64 f.id, .string f.obj, .int .i64 f.fr, .int .i64 f.to, .string f.mt, .bool f.mw, .string f.nt, .bool f.nw, .int .i64 f.en, .int .i64 f.sa, .int .i64 f.mo, .int .i64 f.ge, .int .i64 f.pl, .bool f.he] 30)).drew = w2 at *
  generalize w1.heap.size = fb at *
  have q0 : w2.cell? ⟨fb, 0, none⟩ = some (.int .i64 f.id) := by rw [cell_of_row _ _ 0 _ _ _ b2]; rfl
  have q1 : w2.cell? ⟨fb, 1, none⟩ = some (.string f.obj) := by rw [cell_of_row _ _ 1 _ _ _ b2]; rfl
  have q2 : w2.cell? ⟨fb, 2, none⟩ = some (.int .i64 f.fr) := by rw [cell_of_row _ _ 2 _ _ _ b2]; rfl
  have q3 : w2.cell? ⟨fb, 3, none⟩ = some (.int .i64 f.to) := by rw [cell_of_row _ _ 3 _ _ _ b2]; rfl
  have q4 : w2.cell? ⟨fb, 4, none⟩ = some (.string f.mt) := by rw [cell_of_row _ _ 4 _ _ _ b2]; rfl
  have q5 : w2.cell? ⟨fb, 5, none⟩ = some (.bool f.mw) := by rw [cell_of_row _ _ 5 _ _ _ b2]; rfl
  have q6 : w2.cell? ⟨fb, 6, none⟩ = some (.string f.nt) := by rw [cell_of_row _ _ 6 _ _ _ b2]; rfl
  have q7 : w2.cell? ⟨fb, 7, none⟩ = some (.bool f.nw) := by rw [cell_of_row _ _ 7 _ _ _ b2]; rfl
  have q8 : w2.cell? ⟨fb, 8, none⟩ = some (.int .i64 f.en) := by rw [cell_of_row _ _ 8 _ _ _ b2]; rfl
  have q9 : w2.cell? ⟨fb, 9, none⟩ = some (.int .i64 f.sa) := by rw [cell_of_row _ _ 9 _ _ _ b2]; rfl
  have q10 : w2.cell? ⟨fb, 10, none⟩ = some (.int .i64 f.mo) := by rw [cell_of_row _ _ 10 _ _ _ b2]; rfl
  have q11 : w2.cell? ⟨fb, 11, none⟩ = some (.int .i64 f.ge) := by rw [cell_of_row _ _ 11 _ _ _ b2]; rfl
  have q12 : w2.cell? ⟨fb, 12, none⟩ = some (.int .i64 f.pl) := by rw [cell_of_row _ _ 12 _ _ _ b2]; rfl
  have q13 : w2.cell? ⟨fb, 13, none⟩ = some (.bool f.he) := by rw [cell_of_row _ _ 13 _ _ _ b2]; rfl
  cases e1 : decide ((40 : Int) < l.length)
  case true =>
    go_wp2_with fail
    refine (awake_calls _).mono ?_
    rintro e w3 ⟨rfl, hx⟩
    go_wp2
    go_ret
    exact ⟨rfl, hx1.trans hx⟩
  cases e2 : decide ((40 : Int) < f.obj.size)
  case true =>
    go_wp2_with fail
    refine (awake_calls _).mono ?_
    rintro e w3 ⟨rfl, hx⟩
    go_wp2
    go_ret
    exact ⟨rfl, hx1.trans hx⟩
  cases e3 : decide ((40 : Int) < f.mt.size)
  case true =>
    go_wp2_with fail
    refine (awake_calls _).mono ?_
    rintro e w3 ⟨rfl, hx⟩
    go_wp2
    go_ret
    exact ⟨rfl, hx1.trans hx⟩
  cases e4 : decide ((40 : Int) < f.nt.size)
  case true =>
    go_wp2_with fail
    refine (awake_calls _).mono ?_
    rintro e w3 ⟨rfl, hx⟩
    go_wp2
    go_ret
    exact ⟨rfl, hx1.trans hx⟩
  cases e5 : decide (at_ < 0)
  case true =>
    go_wp2_with fail
    refine (awake_calls _).mono ?_
    rintro e w3 ⟨rfl, hx⟩
    go_wp2
    go_ret
    exact ⟨rfl, hx1.trans hx⟩
  cases e6 : decide (fin < at_)
  case true =>
    go_wp2_with fail
    refine (awake_calls _).mono ?_
    rintro e w3 ⟨rfl, hx⟩
    go_wp2
    go_ret
    exact ⟨rfl, hx1.trans hx⟩
  cases e7 : decide (4611686018427387904 < fin)
  case true =>
    go_wp2_with fail
    refine (awake_calls _).mono ?_
    rintro e w3 ⟨rfl, hx⟩
    go_wp2
    go_ret
    exact ⟨rfl, hx1.trans hx⟩
  have hlen : l.length ≤ 40 := by simp at e1; omega
  have h0 : 0 ≤ at_ := by simpa using e5
  have h1 : at_ ≤ fin := by simpa using e6
  have h2 : fin ≤ 4611686018427387904 := by simpa using e7
  go_wp2_with fail
  refine (new_calls w2).mono ?_
  rintro e w3 ⟨rfl, hn⟩
  clear e1 e2 e3 e4 e5 e6 e7
  have b3 := hn.2.block b2
  replace q0 : w3.cell? ⟨fb, 0, none⟩ = some (.int .i64 f.id) := by rw [cell_of_row _ _ 0 _ _ _ b3]; rfl
  replace q1 : w3.cell? ⟨fb, 1, none⟩ = some (.string f.obj) := by rw [cell_of_row _ _ 1 _ _ _ b3]; rfl
  replace q2 : w3.cell? ⟨fb, 2, none⟩ = some (.int .i64 f.fr) := by rw [cell_of_row _ _ 2 _ _ _ b3]; rfl
  replace q3 : w3.cell? ⟨fb, 3, none⟩ = some (.int .i64 f.to) := by rw [cell_of_row _ _ 3 _ _ _ b3]; rfl
  replace q4 : w3.cell? ⟨fb, 4, none⟩ = some (.string f.mt) := by rw [cell_of_row _ _ 4 _ _ _ b3]; rfl
  replace q5 : w3.cell? ⟨fb, 5, none⟩ = some (.bool f.mw) := by rw [cell_of_row _ _ 5 _ _ _ b3]; rfl
  replace q6 : w3.cell? ⟨fb, 6, none⟩ = some (.string f.nt) := by rw [cell_of_row _ _ 6 _ _ _ b3]; rfl
  replace q7 : w3.cell? ⟨fb, 7, none⟩ = some (.bool f.nw) := by rw [cell_of_row _ _ 7 _ _ _ b3]; rfl
  replace q8 : w3.cell? ⟨fb, 8, none⟩ = some (.int .i64 f.en) := by rw [cell_of_row _ _ 8 _ _ _ b3]; rfl
  replace q9 : w3.cell? ⟨fb, 9, none⟩ = some (.int .i64 f.sa) := by rw [cell_of_row _ _ 9 _ _ _ b3]; rfl
  replace q10 : w3.cell? ⟨fb, 10, none⟩ = some (.int .i64 f.mo) := by rw [cell_of_row _ _ 10 _ _ _ b3]; rfl
  replace q11 : w3.cell? ⟨fb, 11, none⟩ = some (.int .i64 f.ge) := by rw [cell_of_row _ _ 11 _ _ _ b3]; rfl
  replace q12 : w3.cell? ⟨fb, 12, none⟩ = some (.int .i64 f.pl) := by rw [cell_of_row _ _ 12 _ _ _ b3]; rfl
  replace q13 : w3.cell? ⟨fb, 13, none⟩ = some (.bool f.he) := by rw [cell_of_row _ _ 13 _ _ _ b3]; rfl
  cases hs : starts f
  · go_wp2_with fail
    refine (start_calls w2.heap.size w2.heap.size _ T0 f w3 hn.1 hn.2.size small_T0).mono ?_
    intro e w4 k2
    rw [start_not hs] at k2
    obtain ⟨rfl, O2, k3, _, _⟩ := hn.act k2
    go_wp2_with fail
    refine (awake_calls _).mono ?_
    rintro e w5 ⟨rfl, hx⟩
    go_wp2
    go_ret
    exact ⟨rfl, (hx1.trans k3.2).trans hx⟩
  · go_wp2_with fail
    refine (start_calls w2.heap.size w2.heap.size _ T0 f w3 hn.1 hn.2.size small_T0).mono ?_
    intro e w4 k2
    rw [start_begun hs] at k2
    obtain ⟨rfl, O2, k3, _, _⟩ := hn.act k2
    have q8' : w4.cell? ⟨fb, 8, none⟩ = some (.int .i64 f.en) := by rw [cell_of_row _ _ 8 _ _ _ (k3.2.block b2)]; rfl
    have hH := hear_calls w2.heap.size w2.heap.size O2 ⟨[begun f []], 1⟩ 1 (max f.en 1) at_ fin w4 k3.1 (small_begun f hs [] (by simp) (by simp))
    rw [hear_begun hs h0 h1 h2] at hH
    have HH := Lib.hid hH
    have K3 := Lib.hid k3
    have HFL := Lib.hid (fun W O h (hst : St w2 W w2.heap.size O ⟨[heard f fin h], 1⟩) (a : 0 ≤ h) (b : h ≤ fin) => flying_calls w2.heap.size w2.heap.size O ⟨[heard f fin h], 1⟩ (max f.en 1) W hst.1 (small_heard f a b h2))
    have HMV := Lib.hid (fun W O h n (hst : St w2 W w2.heap.size O ⟨[heard f fin h], 1⟩) (a : 0 ≤ h) (b : h ≤ fin) => move_calls w2.heap.size w2.heap.size O ⟨[heard f fin h], 1⟩ 1 n W hst.1 (small_heard f a b h2))
    have HC := Lib.hid (heard_com f fin)
    obtain ⟨en, hen⟩ : ∃ en, max f.en 1 = en := ⟨_, rfl⟩
    rw [hen] at HH HFL HC
    clear hH k3 k2 hn b2 b3 q0 q1 q2 q3 q4 q5 q6 q7 q8 q9 q10 q11 q12 q13
    go_wp2_with fail
    try rw [hen]
    refine HH.out.mono ?_
    intro e w5 k4
    obtain ⟨rfl, O3, k5, _, _⟩ := K3.out.act k4
    have K5 := Lib.hid k5
    clear HH K3 k4 k5 q8' hen
    go_wp2
    go_loopw [11, 89] (fun here i wr => ∃ (k : Nat) (h : Int) (O : List Nat), k ≤ l.length ∧ i = .int .i64 k ∧ here = .int .i64 h ∧ at_ ≤ h ∧ h ≤ fin ∧ St w2 wr w2.heap.size O ⟨[heard f fin h], 1⟩) (fun _ i _ => l.length - (intOf i).toNat)
    case atStart => exact ⟨0, at_, O3, Nat.zero_le _, rfl, rfl, Int.le_refl _, h1, K5.out⟩
    case round =>
      obtain ⟨k, h, O, hk, rfl, rfl, hh0, hh1, hS⟩ := hrel
      by_cases hlt : k < l.length
      · obtain ⟨g, og, rfl, hcell⟩ := hr k hlt
        replace hcell := hS.2.cell hcell
        obtain ⟨n, hn⟩ : ∃ n, l[k] = n := ⟨_, rfl⟩
        rw [hn] at hcell
        have hM := HMV.out wr O h n hS (by omega) hh1
        rw [move_heard] at hM
        have HM := Lib.hid hM
        have HS := Lib.hid hS
        have hw1 : IntKind.i64.wrap (fin - h) = fin - h := IntWalk.i64_in _ (by omega)
        clear hM hS hn hr
        by_cases hc : 0 ≤ n ∧ n ≤ fin - h
        · obtain ⟨c1, c2⟩ := hc
          have hw2 : IntKind.i64.wrap (h + n) = h + n := IntWalk.i64_in _ (by omega)
          have d1 : decide (0 ≤ n) = true := decide_eq_true c1
          have d2 : decide (n ≤ fin - h) = true := decide_eq_true c2
          go_wp2_with fail
          refine HM.out.mono ?_
          rw [if_pos ⟨c1, c2⟩]
          intro e w6 k6
          obtain ⟨rfl, O4, k7, _, _⟩ := HS.out.act k6
          have K7 := Lib.hid k7
          obtain ⟨h', hh'⟩ : ∃ h', h + n = h' := ⟨_, rfl⟩
          rw [hh'] at K7 hw2
          have g0 : at_ ≤ h' := by omega
          have g1 : h' ≤ fin := by omega
          clear HM HS k6 k7 c1 c2 d1 d2
          have hF := HFL.out w6 O4 h' K7.out (by omega) g1
          rw [HC.out, heard_of (by omega) g1 h2] at hF
          have HF := Lib.hid hF
          clear hF
          by_cases he : h' = fin
          · subst he
            rw [if_pos rfl] at HF
            go_wp2_with fail
            refine HF.out.mono ?_
            rintro e w7 ⟨A7, c7, rfl, s7, _, x7⟩
            have HSP := Lib.hid (spans_calls A7 c7 [] w7 s7.out (by simp))
            have KX := Lib.hid (K7.out.ext x7)
            clear HF s7 x7
            go_wp2_with fail
            refine HSP.out.mono ?_
            rintro e w8 ⟨v8, rfl, r8, x8⟩
            obtain ⟨A8, c8, e8, _⟩ := own_shape r8
            have e8' : v8 = .slice A8 0 c8 := e8
            subst e8'
            have KY := Lib.hid (KX.out.ext x8)
            clear HSP r8 e8 x8 KX
            go_wp2
            go_roundw
            case rel => exact ⟨k + 1, h', O4, by omega, by go_num, rfl, g0, g1, KY.out⟩
            case measure => simp [intOf] <;> omega
          · rw [if_neg he] at HF
            have he1 : (h' == fin) = false := beq_eq_false_iff_ne.2 he
            have he2 : h' < fin := by omega
            go_wp2_with fail
            refine HF.out.mono ?_
            rintro e w7 ⟨A7, c7, rfl, s7, _, x7⟩
            have HSP := Lib.hid (spans_calls A7 c7 [⟨h', fin⟩] w7 s7.out (by simp))
            have KX := Lib.hid (K7.out.ext x7)
            clear HF s7 x7
            go_wp2_with fail
            refine HSP.out.mono ?_
            rintro e w8 ⟨v8, rfl, r8, x8⟩
            obtain ⟨A8, c8, e8, _⟩ := own_shape r8
            have e8' : v8 = .slice A8 1 c8 := e8
            subst e8'
            obtain ⟨g8, o8, rfl, p0, p1⟩ := (sat_of_own (l := [⟨h', fin⟩]) r8) 0 (by simp)
            have KY := Lib.hid (KX.out.ext x8)
            have hq := fun w => neqSpan h' fin h' fin w
            have hg24 := guardSpan
            simp only [beq_self_eq_true, Bool.and_self, Bool.not_true] at hq
            simp only [Nat.zero_mul, Nat.add_zero, List.getElem_cons_zero] at p0 p1
            clear HSP r8 e8 x8 KX
            go_wp2
            go_roundw
            case rel => exact ⟨k + 1, h', O4, by omega, by go_num, rfl, g0, g1, KY.out⟩
            case measure => simp [intOf] <;> omega
        · have d3 : (decide (0 ≤ n) && decide (n ≤ fin - h)) = false := by simp; omega
          cases d1 : decide (0 ≤ n)
          · go_wp2_with fail
            refine HM.out.mono ?_
            rw [if_neg hc]
            intro e w6 k6
            obtain ⟨rfl, O4, k7, _, _⟩ := HS.out.act k6
            have K7 := Lib.hid k7
            have g0 := hh0
            have g1 := hh1
            clear HM HS k6 k7 hc d1 d3
            have hF := HFL.out w6 O4 h K7.out (by omega) g1
            rw [HC.out, heard_of (by omega) g1 h2] at hF
            have HF := Lib.hid hF
            clear hF
            by_cases he : h = fin
            · subst he
              rw [if_pos rfl] at HF
              go_wp2_with fail
              refine HF.out.mono ?_
              rintro e w7 ⟨A7, c7, rfl, s7, _, x7⟩
              have HSP := Lib.hid (spans_calls A7 c7 [] w7 s7.out (by simp))
              have KX := Lib.hid (K7.out.ext x7)
              clear HF s7 x7
              go_wp2_with fail
              refine HSP.out.mono ?_
              rintro e w8 ⟨v8, rfl, r8, x8⟩
              obtain ⟨A8, c8, e8, _⟩ := own_shape r8
              have e8' : v8 = .slice A8 0 c8 := e8
              subst e8'
              have KY := Lib.hid (KX.out.ext x8)
              clear HSP r8 e8 x8 KX
              go_wp2
              go_roundw
              case rel => exact ⟨k + 1, h, O4, by omega, by go_num, rfl, g0, g1, KY.out⟩
              case measure => simp [intOf] <;> omega
            · rw [if_neg he] at HF
              have he1 : (h == fin) = false := beq_eq_false_iff_ne.2 he
              have he2 : h < fin := by omega
              go_wp2_with fail
              refine HF.out.mono ?_
              rintro e w7 ⟨A7, c7, rfl, s7, _, x7⟩
              have HSP := Lib.hid (spans_calls A7 c7 [⟨h, fin⟩] w7 s7.out (by simp))
              have KX := Lib.hid (K7.out.ext x7)
              clear HF s7 x7
              go_wp2_with fail
              refine HSP.out.mono ?_
              rintro e w8 ⟨v8, rfl, r8, x8⟩
              obtain ⟨A8, c8, e8, _⟩ := own_shape r8
              have e8' : v8 = .slice A8 1 c8 := e8
              subst e8'
              obtain ⟨g8, o8, rfl, p0, p1⟩ := (sat_of_own (l := [⟨h, fin⟩]) r8) 0 (by simp)
              have KY := Lib.hid (KX.out.ext x8)
              have hq := fun w => neqSpan h fin h fin w
              have hg24 := guardSpan
              simp only [beq_self_eq_true, Bool.and_self, Bool.not_true] at hq
              simp only [Nat.zero_mul, Nat.add_zero, List.getElem_cons_zero] at p0 p1
              clear HSP r8 e8 x8 KX
              go_wp2
              go_roundw
              case rel => exact ⟨k + 1, h, O4, by omega, by go_num, rfl, g0, g1, KY.out⟩
              case measure => simp [intOf] <;> omega
          · have d2 : decide (n ≤ fin - h) = false := by rw [d1] at d3; simpa using d3
            go_wp2_with fail
            refine HM.out.mono ?_
            rw [if_neg hc]
            intro e w6 k6
            obtain ⟨rfl, O4, k7, _, _⟩ := HS.out.act k6
            have K7 := Lib.hid k7
            have g0 := hh0
            have g1 := hh1
            clear HM HS k6 k7 hc d1 d2 d3
            have hF := HFL.out w6 O4 h K7.out (by omega) g1
            rw [HC.out, heard_of (by omega) g1 h2] at hF
            have HF := Lib.hid hF
            clear hF
            by_cases he : h = fin
            · subst he
              rw [if_pos rfl] at HF
              go_wp2_with fail
              refine HF.out.mono ?_
              rintro e w7 ⟨A7, c7, rfl, s7, _, x7⟩
              have HSP := Lib.hid (spans_calls A7 c7 [] w7 s7.out (by simp))
              have KX := Lib.hid (K7.out.ext x7)
              clear HF s7 x7
              go_wp2_with fail
              refine HSP.out.mono ?_
              rintro e w8 ⟨v8, rfl, r8, x8⟩
              obtain ⟨A8, c8, e8, _⟩ := own_shape r8
              have e8' : v8 = .slice A8 0 c8 := e8
              subst e8'
              have KY := Lib.hid (KX.out.ext x8)
              clear HSP r8 e8 x8 KX
              go_wp2
              go_roundw
              case rel => exact ⟨k + 1, h, O4, by omega, by go_num, rfl, g0, g1, KY.out⟩
              case measure => simp [intOf] <;> omega
            · rw [if_neg he] at HF
              have he1 : (h == fin) = false := beq_eq_false_iff_ne.2 he
              have he2 : h < fin := by omega
              go_wp2_with fail
              refine HF.out.mono ?_
              rintro e w7 ⟨A7, c7, rfl, s7, _, x7⟩
              have HSP := Lib.hid (spans_calls A7 c7 [⟨h, fin⟩] w7 s7.out (by simp))
              have KX := Lib.hid (K7.out.ext x7)
              clear HF s7 x7
              go_wp2_with fail
              refine HSP.out.mono ?_
              rintro e w8 ⟨v8, rfl, r8, x8⟩
              obtain ⟨A8, c8, e8, _⟩ := own_shape r8
              have e8' : v8 = .slice A8 1 c8 := e8
              subst e8'
              obtain ⟨g8, o8, rfl, p0, p1⟩ := (sat_of_own (l := [⟨h, fin⟩]) r8) 0 (by simp)
              have KY := Lib.hid (KX.out.ext x8)
              have hq := fun w => neqSpan h fin h fin w
              have hg24 := guardSpan
              simp only [beq_self_eq_true, Bool.and_self, Bool.not_true] at hq
              simp only [Nat.zero_mul, Nat.add_zero, List.getElem_cons_zero] at p0 p1
              clear HSP r8 e8 x8 KX
              go_wp2
              go_roundw
              case rel => exact ⟨k + 1, h, O4, by omega, by go_num, rfl, g0, g1, KY.out⟩
              case measure => simp [intOf] <;> omega
      · obtain rfl : k = l.length := by omega
        have HX := Lib.hid hS.2
        clear hS
        go_wp2_with fail
        refine (awake_calls _).mono ?_
        rintro e w8 ⟨rfl, x8⟩
        go_wp2
        go_ret
        exact ⟨rfl, (hx1.trans HX.out).trans x8⟩
end Go.Proofs.Ytaanbgagdanalaa.Rg
