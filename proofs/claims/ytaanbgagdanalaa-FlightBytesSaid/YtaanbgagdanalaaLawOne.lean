/- The walk of FlightOne. -/
import Derived.Test.YtaanbgagdanalaaOpen
namespace Go.Proofs.Ytaanbgagdanalaa
open Go.RowKit

/-- Each once, in the order of coming. -/
def once1 (o : List Int) (w : Int) : List Int := if w ∈ o then o else o ++ [w]
def onceOf (l : List Int) : List Int := l.foldl once1 []
theorem once1_length (o : List Int) (w : Int) : (once1 o w).length ≤ o.length + 1 := by unfold once1; split <;> simp
theorem once1_nodup {o : List Int} (h : o.Nodup) (w : Int) : (once1 o w).Nodup := by
  unfold once1
  split
  · exact h
  · rename_i hn
    exact List.nodup_append.2 ⟨h, by simp, fun a ha b hb e => by simp at hb; subst hb; subst e; exact hn ha⟩
theorem onceOf_take {l : List Int} {k : Nat} (h : k < l.length) : onceOf (l.take (k + 1)) = once1 (onceOf (l.take k)) l[k] := by
  unfold onceOf
  rw [List.take_succ_eq_append_getElem h, List.foldl_append]
  rfl
theorem onceOf_nodup (l : List Int) : (onceOf l).Nodup := by
  have : ∀ (l o : List Int), o.Nodup → (l.foldl once1 o).Nodup := fun l => by
    induction l with
    | nil => exact fun o h => h
    | cons a l ih => exact fun o h => ih _ (once1_nodup h a)
  exact this l [] (by simp)
theorem onceOf_length (l : List Int) : (onceOf l).length ≤ l.length := by
  have : ∀ (l o : List Int), (l.foldl once1 o).length ≤ o.length + l.length := fun l => by
    induction l with
    | nil => exact fun o => by simp
    | cons a l ih => exact fun o => by have := ih (once1 o a); have := once1_length o a; simp at *; omega
  have h := this l []
  simp only [List.length_nil, Nat.zero_add] at h
  exact h
def begun (f : Fl) (l : List Int) : Fl := { f with id := 1, pl := f.fr, stop := 0, who := l }
theorem start_begun {f : Fl} (h : starts f = true) : T0.start f = (⟨[begun f []], 1⟩, 1, 0) := by simp [Tab.start, h, T0, begun]
theorem start_not {f : Fl} (h : starts f = false) : T0.start f = (T0, 0, 1) := by simp [Tab.start, h]
theorem small_begun (f : Fl) (h : starts f = true) (l : List Int) (h1 : l.length ≤ 1000) (h2 : l.Nodup) : Small ⟨[begun f l], 1⟩ := by
  obtain ⟨_, _, _, _, _, h6, h7, h8⟩ := starts_yes f h
  exact ⟨by simp, by simp, by simp, ⟨by simp, by simp [begun]⟩, by simp only [List.mem_singleton, forall_eq]; exact ⟨h1, h2, by simpa [begun] using h7, by simp [begun]; omega, by simp [begun], by simp [begun]⟩⟩
theorem join_begun (f : Fl) (o : List Int) (w : Int) : (Tab.mk [begun f o] 1).join 1 w = (⟨[begun f (once1 o w)], 1⟩, if w ∈ o then 7 else 0) := by
  by_cases h : w ∈ o <;> simp [Tab.join, place, begun, once1, h, List.findIdx?_cons]
theorem end_begun (f : Fl) (o : List Int) : (Tab.mk [begun f o] 1).end_ 1 = (⟨[], 1⟩, o, true) := by
  simp [Tab.end_, place, begun, List.findIdx?_cons]

set_option maxHeartbeats 4000000 in
set_option maxRecDepth 100000 in
theorem lawOne_calls (A : Option Addr) (c : Nat) (who : List Int) (f : Fl) (w : World) (hr : RowO w A who) :
    Calls Try.prog 3 #[.slice A who.length c, agF f] w fun e w' => e = .returned (.bool true) ∧ Ext w w' := by
  unfold agF
  cases e1 : decide ((200 : Int) < who.length) <;> cases e2 : decide ((40 : Int) < f.obj.size) <;> cases e3 : decide ((40 : Int) < f.mt.size) <;> cases e4 : decide ((40 : Int) < f.nt.size)
  case false.false.false.false =>
    have hlen : who.length ≤ 200 := by simp at e1; omega
    go_enter Try.func3, Try.ntmps3
    go_wp2_with fail
    have b0 := heap_alloc_new w (.cells #[.int .i64 f.id, .string f.obj, .int .i64 f.fr, .int .i64 f.to, .string f.mt, .bool f.mw, .string f.nt, .bool f.nw, .int .i64 f.en, .int .i64 f.sa, .int .i64 f.mo, .int .i64 f.ge, .int .i64 f.pl, .bool f.he] 30)
    have x0 : Ext w (w.alloc (.cells #[.int .i64 f.id, .string f.obj, .int .i64 f.fr, .int .i64 f.to, .string f.mt, .bool f.mw, .string f.nt, .bool f.nw, .int .i64 f.en, .int .i64 f.sa, .int .i64 f.mo, .int .i64 f.ge, .int .i64 f.pl, .bool f.he] 30)) := (Ext.refl w).alloc _
    clear e1 e2 e3 e4
    replace hr : RowO (w.alloc (.cells #[.int .i64 f.id, .string f.obj, .int .i64 f.fr, .int .i64 f.to, .string f.mt, .bool f.mw, .string f.nt, .bool f.nw, .int .i64 f.en, .int .i64 f.sa, .int .i64 f.mo, .int .i64 f.ge, .int .i64 f.pl, .bool f.he] 30)) A who := fun k hk => by
      obtain ⟨g, o, e, h⟩ := hr k hk
      exact ⟨g, o, e, x0.cell h⟩
    generalize w.alloc (.cells #[.int .i64 f.id, .string f.obj, .int .i64 f.fr, .int .i64 f.to, .string f.mt, .bool f.mw, .string f.nt, .bool f.nw, .int .i64 f.en, .int .i64 f.sa, .int .i64 f.mo, .int .i64 f.ge, .int .i64 f.pl, .bool f.he] 30) = w0 at *
    refine (new_calls w0).mono ?_
    rintro e w1 ⟨rfl, h1⟩
    have b1 := h1.2.block b0
    have q0 : w1.cell? ⟨w.heap.size, 0, none⟩ = some (.int .i64 f.id) := by rw [cell_of_row w1 _ 0 _ _ _ b1]; rfl
    have q1 : w1.cell? ⟨w.heap.size, 1, none⟩ = some (.string f.obj) := by rw [cell_of_row w1 _ 1 _ _ _ b1]; rfl
    have q2 : w1.cell? ⟨w.heap.size, 2, none⟩ = some (.int .i64 f.fr) := by rw [cell_of_row w1 _ 2 _ _ _ b1]; rfl
    have q3 : w1.cell? ⟨w.heap.size, 3, none⟩ = some (.int .i64 f.to) := by rw [cell_of_row w1 _ 3 _ _ _ b1]; rfl
    have q4 : w1.cell? ⟨w.heap.size, 4, none⟩ = some (.string f.mt) := by rw [cell_of_row w1 _ 4 _ _ _ b1]; rfl
    have q5 : w1.cell? ⟨w.heap.size, 5, none⟩ = some (.bool f.mw) := by rw [cell_of_row w1 _ 5 _ _ _ b1]; rfl
    have q6 : w1.cell? ⟨w.heap.size, 6, none⟩ = some (.string f.nt) := by rw [cell_of_row w1 _ 6 _ _ _ b1]; rfl
    have q7 : w1.cell? ⟨w.heap.size, 7, none⟩ = some (.bool f.nw) := by rw [cell_of_row w1 _ 7 _ _ _ b1]; rfl
    have q8 : w1.cell? ⟨w.heap.size, 8, none⟩ = some (.int .i64 f.en) := by rw [cell_of_row w1 _ 8 _ _ _ b1]; rfl
    have q9 : w1.cell? ⟨w.heap.size, 9, none⟩ = some (.int .i64 f.sa) := by rw [cell_of_row w1 _ 9 _ _ _ b1]; rfl
    have q10 : w1.cell? ⟨w.heap.size, 10, none⟩ = some (.int .i64 f.mo) := by rw [cell_of_row w1 _ 10 _ _ _ b1]; rfl
    have q11 : w1.cell? ⟨w.heap.size, 11, none⟩ = some (.int .i64 f.ge) := by rw [cell_of_row w1 _ 11 _ _ _ b1]; rfl
    have q12 : w1.cell? ⟨w.heap.size, 12, none⟩ = some (.int .i64 f.pl) := by rw [cell_of_row w1 _ 12 _ _ _ b1]; rfl
    have q13 : w1.cell? ⟨w.heap.size, 13, none⟩ = some (.bool f.he) := by rw [cell_of_row w1 _ 13 _ _ _ b1]; rfl
    cases hs : starts f
    · go_wp2_with fail
      refine (start_calls w0.heap.size w0.heap.size _ T0 f w1 h1.1 h1.2.size small_T0).mono ?_
      intro e w2 h2
      rw [start_not hs] at h2
      obtain ⟨rfl, O2, h2, _, _⟩ := h1.act h2
      go_wp2_with fail
      refine (awake_calls _).mono ?_
      rintro e w3 ⟨rfl, hx⟩
      go_wp2
      go_ret
      exact ⟨rfl, (x0.trans h2.2).trans hx⟩
    · go_wp2_with fail
      refine (start_calls w0.heap.size w0.heap.size _ T0 f w1 h1.1 h1.2.size small_T0).mono ?_
      intro e w2 h2
      rw [start_begun hs] at h2
      obtain ⟨rfl, O2, h2, _, _⟩ := h1.act h2
      clear h1 b1 b0 q0 q1 q2 q3 q4 q5 q6 q7 q8 q9 q10 q11 q12 q13
      go_wp2
      go_loopw [8, 59] (fun o i wr => ∃ (k : Nat) (O : List Nat), k ≤ who.length ∧ i = .int .i64 k ∧ St w0 wr w0.heap.size O ⟨[begun f (onceOf (who.take k))], 1⟩ ∧ wr.ownsRow w0.heap.size 3 1 o (onceOf (who.take k)).length ((onceOf (who.take k)).map (Value.int .i64)) ∧ Apart (ob o) O) (fun _ i _ => who.length - (intOf i).toNat)
      case atStart => exact ⟨0, O2, Nat.zero_le _, rfl, h2, World.ownsRow_nil _ _ _ _, fun x hx => by simp [ob, Value.ownBlock] at hx⟩
      case round =>
        obtain ⟨k, O, hk, rfl, hS, hown, hap⟩ := hrel
        have hol := onceOf_length (who.take k)
        have hnd := onceOf_nodup (who.take k)
        by_cases hlt : k < who.length
        · obtain ⟨g, og, rfl, hcell⟩ := hr k hlt
          replace hcell := hS.2.cell hcell
          have htk := onceOf_take hlt
          obtain ⟨q, hq⟩ : ∃ q, who[k] = q := ⟨_, rfl⟩
          rw [hq] at htk hcell
          have hol2 : (who.take k).length ≤ who.length := by simp; omega
          obtain ⟨L, hL⟩ : ∃ L, onceOf (who.take k) = L := ⟨_, rfl⟩
          rw [hL] at hS hown hol hnd htk
          have HT := Lib.hid htk
          have HSM := Lib.hid (small_begun f hs L (by omega) hnd)
          obtain ⟨_, A3, c3, rfl, hc3, hri⟩ := row_ints hown
          have HO := Lib.hid hown
          have HS := Lib.hid hS
          have HR := Lib.hid hr
          have hll : L.length ≤ 200 := by omega
          have HA := Lib.hid hap
          clear hL hq htk hnd hS hr hown hol hol2 hap h2
          go_wp2
          go_loopw [11, 65] (fun v i wr' => ∃ k' : Nat, k' ≤ L.length ∧ i = .int .i64 k' ∧ v = .bool (decide (q ∈ L.take k')) ∧ wr' = wr) (fun _ i _ => L.length - (intOf i).toNat)
          case atStart => exact ⟨0, Nat.zero_le _, rfl, rfl, rfl⟩
          case round =>
            obtain ⟨k', hk', rfl, rfl, rfl⟩ := hrel
            by_cases hlt2 : k' < L.length
            · obtain ⟨g2, rfl, hc2⟩ := hri k' hlt2
              have htk : decide (q ∈ L.take (k' + 1)) = (decide (q ∈ L.take k') || decide (q = L[k'])) := by
                rw [List.take_succ_eq_append_getElem hlt2, Bool.eq_iff_iff]
                simp only [decide_eq_true_eq, Bool.or_eq_true, List.mem_append, List.mem_singleton]
              obtain ⟨y, hy⟩ : ∃ y, L[k'] = y := ⟨_, rfl⟩
              rw [hy] at htk hc2
              have HTK := Lib.hid htk
              have e5 : (y == q) = decide (q = y) := by rw [Bool.eq_iff_iff]; simp; exact ⟨fun e => e.symm, fun e => e.symm⟩
              have e6 : decide (y = q) = decide (q = y) := by simp [eq_comm]
              clear hy htk
              generalize hd0 : decide (q ∈ L.take k') = d0 at *
              generalize hd1 : decide (q = y) = d1 at *
              have HD := Lib.hid hd0
              clear hd0 hd1
              cases d0
              all_goals
                go_wp2
                go_roundw
                case rel => exact ⟨k' + 1, by omega, by go_num, by rw [HTK.out]; simp, trivial⟩
                case measure => simp [intOf] <;> omega
            · obtain rfl : k' = L.length := by omega
              rw [List.take_length]
              have hj := join_calls w0.heap.size w0.heap.size O ⟨[begun f L], 1⟩ 1 q wr HS.out.1 HS.out.2.size HSM.out
              rw [join_begun] at hj
              have hst : ∀ e w2, Act w0.heap.size wr w0.heap.size O ⟨[begun f (once1 L q)], 1⟩ (.int .i64 (if q ∈ L then 7 else 0)) e w2 → e = .returned (.int .i64 (if q ∈ L then 7 else 0)) ∧ ∃ O', St w0 w2 w0.heap.size O' ⟨[begun f (once1 L q)], 1⟩ ∧ w2.ownsRow w0.heap.size 3 1 (.slice A3 L.length c3) L.length (L.map (Value.int .i64)) ∧ Apart (ob (.slice A3 L.length c3)) O' := fun e w2 a => by
                obtain ⟨a1, O', a2, a3, a4⟩ := HS.out.act a
                exact ⟨a1, O', a2, a3.row HO.out HA.out, (HA.out.symm.of a4 (row_lies HO.out)).symm⟩
              have hj2 := hj.mono hst
              clear hj hst
              by_cases hm : q ∈ L
              · rw [if_pos hm, show once1 L q = L from if_pos hm] at hj2
                have e5 : decide (q ∈ L) = true := by simp [hm]
                have HL := Lib.hid (show onceOf (who.take (k + 1)) = L by rw [HT.out, once1, if_pos hm])
                clear hm hri
                go_wp2_with fail
                refine hj2.mono ?_
                rintro e w3 ⟨rfl, O', s1, s2, s3⟩
                go_wp2
                go_roundw
                case rel =>
                  refine ⟨k + 1, O', by omega, by go_num, ?_, ?_, s3⟩
                  · rw [HL.out]; exact s1
                  · rw [HL.out]; exact s2
                case measure => simp [intOf] <;> omega
              · rw [if_neg hm, show once1 L q = L ++ [q] from if_neg hm] at hj2
                have e5 : decide (q ∈ L) = false := by simp [hm]
                have HL := Lib.hid (show onceOf (who.take (k + 1)) = L ++ [q] by rw [HT.out, once1, if_neg hm])
                clear hm hri
                go_wp2_with fail
                refine hj2.mono ?_
                rintro e w3 ⟨rfl, O', s1, s2, s3⟩
                have hNw := s1.2.size
                go_wp2_with (at_builtin; refine wpList_append_new _ rfl _ _ 22 rfl w0.heap.size 3 _ 1 8 Try.underlying22 info3 rfl (by omega) _ L.length _ rfl s2 1 1 _ rfl _ rfl rfl (by simp [Value.oneCell']) (by simp [maxLen]; omega) (by omega) hNw ?_; intro v1 w4 hown2 hm2)
                have HH := Lib.hid (show St w0 w4 w0.heap.size O' ⟨[begun f (L ++ [q])], 1⟩ ∧ Apart (ob v1) O' from by
                  obtain ⟨m1, m2⟩ := moved_turn hm2
                  exact ⟨⟨s1.1.keep m1 s3.symm, ext_moved s1.2 s2 hm2⟩, s3.of m2 s1.1.lies⟩)
                clear s1 s2 s3 hm2
                go_roundw
                case rel =>
                  refine ⟨k + 1, O', by omega, by go_num, ?_, ?_, HH.out.2⟩
                  · rw [HL.out]; exact HH.out.1
                  · rw [HL.out]; simpa using hown2
                case measure => simp [intOf] <;> omega
        · obtain rfl : k = who.length := by omega
          rw [List.take_length] at hS hown hol hnd
          obtain ⟨L, hL⟩ : ∃ L, onceOf who = L := ⟨_, rfl⟩
          rw [hL] at hS hown hol hnd
          have hsm := small_begun f hs L (by omega) hnd
          have hall := all_calls w0.heap.size w0.heap.size O ⟨[begun f L], 1⟩ wr hS.1 hsm
          obtain ⟨_, A3, c3, rfl, hc3, _⟩ := row_ints hown
          clear hL h2
          go_wp2_with fail
          refine hall.mono ?_
          rintro e w3 ⟨v, rfl, r3, x3⟩
          replace hS := hS.ext x3
          replace hown := ownsRow_ext hown x3
          obtain ⟨A4, c4, rfl, _⟩ := own_shape r3
          clear r3 hall
          have hend := end_calls w0.heap.size w0.heap.size O ⟨[begun f L], 1⟩ 1 w3 hS.1 hsm
          rw [end_begun] at hend
          go_wp2_with fail
          refine hend.mono ?_
          rintro e w4 ⟨v, O', rfl, r4, t4, n4, s4, a4⟩
          replace hown := n4.row hown hap
          have hS4 := hS.next t4 n4
          obtain ⟨_, A5, c5, rfl, hc5, ri5⟩ := row_ints r4
          have ri3 := (row_ints hown).2
          obtain ⟨A6, c6, e6, _, ri3⟩ := ri3
          injection e6 with e6 e7 e8
          subst e6 e8
          clear e7 hend hS hown hap r4 t4 n4 s4 a4
          have hsm0 : Small ⟨[], 1⟩ := ⟨by simp, by simp, by simp, ⟨by simp, by simp⟩, by simp⟩
          have hints := ints_calls A5 A3 c5 c3 L L w4 ri5 ri3 (by omega)
          go_wp2_with fail
          refine hints.mono ?_
          rintro e w5 ⟨rfl, x5⟩
          replace hS4 := hS4.ext x5
          have hall2 := all_calls w0.heap.size w0.heap.size O' ⟨[], 1⟩ w5 hS4.1 hsm0
          have e9 : decide (L = L) = true := by simp
          clear ri5 ri3 hints x5
          go_wp2_with fail
          refine hall2.mono ?_
          rintro e w6 ⟨v, rfl, r6, x6⟩
          replace hS4 := hS4.ext x6
          obtain ⟨A7, c7, rfl, _⟩ := own_shape r6
          clear r6 hall2 x6
          go_wp2
          go_loopw [116] (fun i wr => ∃ k : Nat, k ≤ who.length ∧ i = .int .i64 k ∧ St w0 wr w0.heap.size O' ⟨[], 1⟩) (fun i _ => who.length - (intOf i).toNat)
          case atStart => exact ⟨0, Nat.zero_le _, rfl, hS4⟩
          case round =>
            obtain ⟨k, hk, rfl, hS⟩ := hrel
            by_cases hlt : k < who.length
            · obtain ⟨g, og, rfl, hcell⟩ := hr k hlt
              replace hcell := hS.2.cell hcell
              obtain ⟨q, hq⟩ : ∃ q, who[k] = q := ⟨_, rfl⟩
              rw [hq] at hcell
              have hof := of_calls w0.heap.size w0.heap.size O' ⟨[], 1⟩ q _ hS.1 hsm0
              have HS := Lib.hid hS
              clear hq hS hr hS4
              go_wp2_with fail
              refine hof.mono ?_
              rintro e w7 ⟨v, rfl, r7, x7⟩
              obtain ⟨A8, c8, e8, _⟩ := own_shape r7
              have e10 : v = .slice A8 0 c8 := e8
              subst e10
              have HS7 := Lib.hid (HS.out.ext x7)
              clear r7 hof e8 x7
              go_wp2
              go_roundw
              case rel => exact ⟨k + 1, by omega, by go_num, HS7.out⟩
              case measure => simp [intOf] <;> omega
            · obtain rfl : k = who.length := by omega
              have hx := hS.2
              go_wp2_with fail
              refine (awake_calls _).mono ?_
              rintro e w8 ⟨rfl, x8⟩
              go_wp2
              go_ret
              exact ⟨rfl, (x0.trans hx).trans x8⟩
  all_goals
    go_enter Try.func3, Try.ntmps3
    go_wp2_with fail
    refine (awake_calls _).mono ?_
    rintro e w1 ⟨rfl, hx⟩
    go_wp2
    go_ret
    exact ⟨rfl, ((Ext.refl w).alloc _).trans hx⟩
end Go.Proofs.Ytaanbgagdanalaa
