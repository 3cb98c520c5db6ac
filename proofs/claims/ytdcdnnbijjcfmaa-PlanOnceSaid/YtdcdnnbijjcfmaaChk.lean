/- The contracts of plan.Waste, plan.check and of the reference's Waste, held, argOk. -/
import Derived.Test.YtdcdnnbijjcfmaaUnr
import Derived.Test.YtdcdnnbijjcfmaaLess
namespace Go.Proofs.Ytdcdnnbijjcfmaa
open Go.RowKit

/-- How many bytes of a span aren't in a set. -/
def wasteS (s : Sp) (W : List Sp) : Int := lenS (lessS (ofS [s]) W)
theorem less_len {a b : List Sp} (ha : Norm a) (hb : Norm b) : (lessS a b).length ≤ 2 * (a.length + b.length) := by
  have h := ofL_three a b
  rw [of_norm ha, of_norm hb] at h
  rw [← h]
  have h1 := cells_length (endsL (a ++ b)) (ofP 3 a b) ((endsL (a ++ b)).length - 1)
  have h2 := (ends_inv (a ++ b)).2.2
  unfold ofL
  simp at h2 ⊢
  omega
theorem waste_no {f t : Int} (l : List Sp) (h : rightB f t = false) : wasteS ⟨f, t⟩ l = 0 := by
  unfold wasteS
  rw [of_right_no h]
  rw [show lessS [] l = [] from norm_empty (norm_less _ _) (fun x hx => by
    have := (mem_cuts l [] (by simp)).2 x
    unfold lessS at hx
    obtain ⟨s, hs, _, h3⟩ := (mem_of _ x).1 hx
    exact mem_nil x (this.1 ⟨s, hs, h3⟩).1)]
  rfl

set_option maxHeartbeats 4000000 in
set_option maxRecDepth 100000 in
theorem waste_calls (A : Option Addr) (c : Nat) (l : List Sp) (f t : Int) (w : World) (h : SAt w A l) (hn : Norm l) (hl : l.length ≤ 100000) :
    Calls Try.prog 23 #[.agg #[.int .i64 f, .int .i64 t], .agg #[.slice A l.length c]] w fun e w' => e = .returned (.int .i64 (wasteS ⟨f, t⟩ l)) ∧ Ext w w' := by
  have hx0 : Ext w ((w.alloc (.cells #[.int .i64 f, .int .i64 t] 48)).alloc (.cells #[.slice A l.length c] 30)) := ((Ext.refl w).alloc _).alloc _
  have a0 : ((w.alloc (.cells #[.int .i64 f, .int .i64 t] 48)).alloc (.cells #[.slice A l.length c] 30)).cell? ⟨w.heap.size, 0, none⟩ = some (.int .i64 f) := by simp [go_sem]
  have a1 : ((w.alloc (.cells #[.int .i64 f, .int .i64 t] 48)).alloc (.cells #[.slice A l.length c] 30)).cell? ⟨w.heap.size, 1, none⟩ = some (.int .i64 t) := by simp [go_sem]
  have b0 : ((w.alloc (.cells #[.int .i64 f, .int .i64 t] 48)).alloc (.cells #[.slice A l.length c] 30)).cell? ⟨w.heap.size + 1, 0, none⟩ = some (.slice A l.length c) := by simp [go_sem]
  replace h := h.ext hx0
  have hd : wasteS ⟨f, t⟩ l = lenS (lessS (ofS [⟨f, t⟩]) l) := rfl
  generalize wasteS ⟨f, t⟩ l = R at *
  have HOl := norm_one_length ⟨f, t⟩
  have HOn : Hid (Norm (ofS [⟨f, t⟩])) := Lib.hid (norm_of _)
  have HOF : Hid (∀ W d, SAt W d [⟨f, t⟩] → Calls Try.prog 22 #[.slice d 1 1] W (SetPost W (ofS [⟨f, t⟩]))) := Lib.hid fun W d hS => of_calls d 1 [⟨f, t⟩] W hS (by simp)
  generalize ofS [⟨f, t⟩] = O at *
  go_enter Try.func23, Try.ntmps23
  go_wp2
  generalize ((w.alloc (.cells #[.int .i64 f, .int .i64 t] 48)).alloc (.cells #[.slice A l.length c] 30)) = w1 at *
  have HL : Hid (∀ W B d, Ext w1 W → SAt W B O → Calls Try.prog 28 #[.agg #[.slice B O.length d], .agg #[.slice A l.length c]] W fun e w' => SetPost W (lessS O l) e w' ∧ (lessS O l).length ≤ O.length + l.length) := Lib.hid fun W B d hx hS => less_calls B d O A c l W hS (h.ext hx) HOn.out hn (by omega) (by omega)
  have HLn : Hid (Norm (lessS O l)) := Lib.hid (norm_less _ _)
  have HLE : Hid (R = lenS (lessS O l)) := Lib.hid hd
  clear hd h
  generalize lessS O l = L at *
  have hS1 : SAt (w1.alloc (.cells #[.int .i64 f, .int .i64 t] 48)).drew (some ⟨w1.heap.size, 0, none⟩) [⟨f, t⟩] := sat_one w1 f t
  go_region_held3 (fun w' => w'.cell? ⟨w.heap.size, 0, none⟩ = some (.int .i64 f) ∧ w'.cell? ⟨w.heap.size, 1, none⟩ = some (.int .i64 t) ∧ w'.cell? ⟨w.heap.size + 1, 0, none⟩ = some (.slice A l.length c))
    ((refine (fun hE => ⟨Ext.cell hE a0, Ext.cell hE a1, Ext.cell hE b0⟩ : Ext w1 _ → _) ?_
      (repeat' first | exact Ext.refl _ | exact hE4.out | exact hE3.out | exact hE2.out | refine Ext.drew ?_ | refine Ext.alloc ?_ _)))
    (first
      | (go_at_call 22
         (with_reducible refine (HOF.out _ _ hS1).mono ?_)
         rintro e w2 ⟨A2, c2, rfl, HS2, _, hx2⟩
         have hE2 : Hid (Ext w1 w2) := Lib.hid (((Ext.refl w1).alloc _).drew.trans hx2))
      | (go_at_call 28
         (with_reducible refine (HL.out _ _ _ hE2.out HS2.out).mono ?_)
         rintro e w3 ⟨⟨A3, c3, rfl, HS3, _, hx3⟩, hl3⟩
         have hE3 : Hid (Ext w1 w3) := Lib.hid (hE2.out.trans hx3))
      | (go_at_call 26
         (with_reducible refine (len_calls A3 c3 L _ HS3.out HLn.out (by omega)).mono ?_)
         rintro e w4 ⟨rfl, hx4⟩
         have hE4 : Hid (Ext w1 w4) := Lib.hid (hE3.out.trans hx4)))
  go_wp2
  go_ret
  exact ⟨by rw [HLE.out]; rfl, hx0.trans hE4.out⟩
set_option maxHeartbeats 4000000 in
set_option maxRecDepth 100000 in
theorem refWaste_calls (A : Option Addr) (c : Nat) (l : List Sp) (f t : Int) (w : World) (h : SAt w A l) (hn : Norm l) (hl : l.length ≤ 100000) :
    Calls Try.prog 24 #[.agg #[.int .i64 f, .int .i64 t], .slice A l.length c] w fun e w' => e = .returned (.int .i64 (wasteS ⟨f, t⟩ l)) ∧ Ext w w' := by
  have hx0 : Ext w (w.alloc (.cells #[.int .i64 f, .int .i64 t] 48)) := (Ext.refl w).alloc _
  have hno := waste_no (f := f) (t := t) l
  have hd : wasteS ⟨f, t⟩ l = lenS (lessS (ofS [⟨f, t⟩]) (ofS l)) := by rw [of_norm hn]; rfl
  have hlen := less_len (norm_of [⟨f, t⟩]) (norm_of l)
  have hl2 := of_length l
  have hl3 := norm_one_length ⟨f, t⟩
  have HLC : Hid (∀ W B d, SAt W A l → SAt W B [⟨f, t⟩] → Calls Try.prog 38 #[.slice B 1 d, .slice A l.length c] W (SPostN W (lessS (ofS [⟨f, t⟩]) (ofS l)))) := Lib.hid fun W B d h1 h2 => refLess_calls B d [⟨f, t⟩] A c l W h2 h1 (by simp) (by omega)
  have HNL : Hid (Norm (lessS (ofS [⟨f, t⟩]) (ofS l))) := Lib.hid (norm_less _ _)
  have hLl : (lessS (ofS [⟨f, t⟩]) (ofS l)).length ≤ 300000 := by omega
  generalize wasteS ⟨f, t⟩ l = R at *
  generalize lessS (ofS [⟨f, t⟩]) (ofS l) = L at *
  have HD := Lib.hid hd
  have HN := Lib.hid hno
  clear hd hno hlen hl2 hl3
  go_enter Try.func24, Try.ntmps24
  go_wp2_with fail
  refine (refright_calls _ _ _).mono ?_
  rintro e w1 ⟨rfl, hx1⟩
  have a0 : w1.cell? ⟨w.heap.size, 0, none⟩ = some (.int .i64 f) := hx1.cell (by simp [go_sem])
  have a1 : w1.cell? ⟨w.heap.size, 1, none⟩ = some (.int .i64 t) := hx1.cell (by simp [go_sem])
  replace hx1 := hx0.trans hx1
  clear hx0
  cases eR : rightB f t
  · have HN2 := Lib.hid (HN.out eR)
    clear HN HD
    go_wp2
    go_ret
    exact ⟨by rw [HN2.out]; rfl, hx1⟩
  · clear HN
    have hx2 := hx1.alloc (.cells #[.int .i64 f, .int .i64 t] 48)
    have hS1 := sat_one w1 f t
    have hcl := HLC.out _ _ 1 (h.ext hx2) hS1
    have HCL := Lib.hid hcl
    clear hcl HLC h hS1
    go_wp2_with fail
    refine HCL.out.mono ?_
    rintro e w2 ⟨V, cv, rfl, HS, _, hx3⟩
    have hln := refLen_calls V cv L w2 HS.out HNL.out (by omega)
    have HLN := Lib.hid hln
    clear hln
    go_wp2_with fail
    refine HLN.out.mono ?_
    rintro e w3 ⟨rfl, hx4⟩
    go_wp2
    go_ret
    exact ⟨by rw [HD.out]; rfl, (hx2.trans hx3).trans hx4⟩

/-- Isn't a byte of the gaps, widened, free? -/
def heldB (W F : List Sp) : Bool := decide (0 < (lessS W F).length)
set_option maxHeartbeats 1000000 in
theorem held_calls (A : Option Addr) (c : Nat) (a : List Sp) (B : Option Addr) (d : Nat) (b : List Sp) (w : World) (ha : SAt w A a) (hb : SAt w B b) (na : Norm a) (nb : Norm b) (hla : a.length ≤ 100000) (hlb : b.length ≤ 100000) :
    Calls Try.prog 35 #[.slice A a.length c, .slice B b.length d] w fun e w' => e = .returned (.bool (heldB a b)) ∧ Ext w w' := by
  have hc := refLess_calls A c a B d b w ha hb (by omega) (by omega)
  rw [of_norm na, of_norm nb] at hc
  have hd : heldB a b = decide (0 < (lessS a b).length) := rfl
  generalize heldB a b = R at *
  generalize lessS a b = L at *
  have HC := Lib.hid hc
  have HD : Hid (R = decide (0 < L.length)) := Lib.hid hd
  clear hc hd
  go_enter Try.func35, Try.ntmps35
  go_wp2_with fail
  refine HC.out.mono ?_
  rintro e w2 ⟨V, cv, rfl, HS, _, hx3⟩
  go_wp2
  go_ret
  exact ⟨by rw [HD.out]; rfl, hx3⟩

/-- A config. -/
structure Cf where
  u : Int
  wa : Int
  mo : Int
  r3 : Int
  r4 : Int
  r5 : Int
  r6 : Int
  r7 : Int
  r8 : Int
  r9 : Int
def Cf.cells (c : Cf) : List Value := [.int .i64 c.u, .int .i64 c.wa, .int .i64 c.mo, .int .i64 c.r3, .int .i64 c.r4, .int .i64 c.r5, .int .i64 c.r6, .int .i64 c.r7, .int .i64 c.r8, .int .i64 c.r9]
def okB (n : Int) (c : Cf) : Bool := measB n c.u && decide (0 ≤ c.wa) && decide (c.u ≤ c.mo)
set_option maxHeartbeats 1000000 in
set_option maxRecDepth 100000 in
theorem argOk_calls (n : Int) (c : Cf) (w : World) :
    Calls Try.prog 34 #[.int .i64 n, .agg c.cells.toArray] w fun e w' => e = .returned (.bool (okB n c)) ∧ Ext w w' := by
  obtain ⟨u, wa, mo, r3, r4, r5, r6, r7, r8, r9⟩ := c
  have hd : okB n ⟨u, wa, mo, r3, r4, r5, r6, r7, r8, r9⟩ = (unitB u && lengthB n && decide (0 ≤ wa) && decide (u ≤ mo)) := rfl
  generalize okB n ⟨u, wa, mo, r3, r4, r5, r6, r7, r8, r9⟩ = R at *
  have HD := Lib.hid hd
  clear hd
  show Calls Try.prog 34 #[.int .i64 n, .agg #[.int .i64 u, .int .i64 wa, .int .i64 mo, .int .i64 r3, .int .i64 r4, .int .i64 r5, .int .i64 r6, .int .i64 r7, .int .i64 r8, .int .i64 r9]] w _
  cases e1 : unitB u
  · have HD2 : Hid (R = false) := Lib.hid (by rw [HD.out, e1]; rfl)
    clear HD
    go_enter Try.func34, Try.ntmps34
    go_wp2_with (go_at_call 40; refine (unitOk_calls u _).mono ?_; rintro e w' ⟨rfl, rfl⟩; rw [e1])
    go_ret
    exact ⟨by rw [HD2.out]; rfl, (Ext.refl w).alloc _⟩
  · by_cases e2 : 0 ≤ wa
    · by_cases e3 : u ≤ mo
      · have HD2 : Hid (R = lengthB n) := Lib.hid (by rw [HD.out, e1]; simp [e2, e3])
        clear HD
        go_enter Try.func34, Try.ntmps34
        go_wp2_with (first | (go_at_call 40; refine (unitOk_calls u _).mono ?_; rintro e w' ⟨rfl, rfl⟩; rw [e1]) | (go_at_call 41; refine (lengthOk_calls n _).mono ?_; rintro e w' ⟨rfl, rfl⟩))
        go_ret
        exact ⟨by rw [HD2.out]; rfl, (Ext.refl w).alloc _⟩
      · have HD2 : Hid (R = false) := Lib.hid (by rw [HD.out, e1]; simp [e3])
        clear HD
        go_enter Try.func34, Try.ntmps34
        go_wp2_with (go_at_call 40; refine (unitOk_calls u _).mono ?_; rintro e w' ⟨rfl, rfl⟩; rw [e1])
        go_ret
        exact ⟨by rw [HD2.out]; rfl, (Ext.refl w).alloc _⟩
    · have HD2 : Hid (R = false) := Lib.hid (by rw [HD.out, e1]; simp [e2])
      clear HD
      go_enter Try.func34, Try.ntmps34
      go_wp2_with (go_at_call 40; refine (unitOk_calls u _).mono ?_; rintro e w' ⟨rfl, rfl⟩; rw [e1])
      go_ret
      exact ⟨by rw [HD2.out]; rfl, (Ext.refl w).alloc _⟩
end Go.Proofs.Ytdcdnnbijjcfmaa
