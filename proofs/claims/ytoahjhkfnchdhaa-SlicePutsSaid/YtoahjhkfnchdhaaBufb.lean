/- The contracts of Buffer.Has, Seal, Whole. -/
import Derived.Test.YtoahjhkfnchdhaaBuf
namespace Go.Proofs.Ytoahjhkfnchdhaa
open Go.RowKit

theorem cell_of_block {w : World} {k : Nat} {cs : Array Value} {e : TypeId} {fr : Nat × Nat} (h : w.heap[k]? = some (.cells cs e fr)) (j : Nat) : w.cell? ⟨k, j, none⟩ = cs[j]? := by
  rw [cell_of_row w k j _ _ _ h]
theorem frozen_of_block {w : World} {k : Nat} {cs : Array Value} {e : TypeId} (h : w.heap[k]? = some (.cells cs e (0, 0))) (j : Nat) : w.frozen? ⟨k, j, none⟩ = false := by
  simp [World.frozen?, h]

set_option maxRecDepth 100000 in
theorem has_calls {Z : Nat → Prop} (lo hi pb : Nat) (B : Bf) (w : World) (h : BufZ Z lo hi w pb B) (hl : B.hs.length ≤ 1000) :
    Calls Try.prog 31 #[.pointer (some ⟨pb, 0, none⟩)] w (RowPost w B.hs) := by
  obtain ⟨g, A, c, h1, h2, _, _, _, _, _, h8, _⟩ := h
  have c5 : w.cell? ⟨pb, 5, none⟩ = some (.slice A B.hs.length c) := by rw [cell_of_block h1]; rfl
  have HC := Lib.hid (spans_calls A c B.hs w h8 (by omega))
  clear h1 h2 h8
  go_enter Try.func31, Try.ntmps31
  go_wp2_with fail
  refine HC.out.mono ?_
  rintro e w1 ⟨v, rfl, hr, hx⟩
  go_wp2
  go_ret
  exact ⟨v, rfl, hr, hx⟩

/-- What Seal hands back, and makes of a buffer. -/
def Bf.sealE (B : Bf) (n : Int) : Int :=
  if n < 0 ∨ 1099511627776 < n ∨ n ≤ B.f then 1 else if (firstS B.hs n).isSome = true then 1 else if B.n ≠ -1 ∧ B.n ≠ n then 11 else 0
def Bf.seal (B : Bf) (n : Int) : Bf := if B.sealE n = 0 then { B with n := n, t := min B.t n } else B
/-- A call on a buffer: what it hands back, what the buffer is then, what of the world has turned. -/
def BufPostZ (Z : Nat → Prop) (lo hi : Nat) (w : World) (pb : Nat) (v : Value) (B' : Bf) (e : Ending) (w' : World) : Prop := e = .returned v ∧ Hid (BufZ Z lo hi w' pb B') ∧ Chg lo hi w w'
abbrev BufPost (lo hi : Nat) (w : World) (pb : Nat) (v : Value) (B' : Bf) (e : Ending) (w' : World) : Prop := BufPostZ (OutW lo hi) lo hi w pb v B' e w'

theorem BufPostZ.alloc {Z : Nat → Prop} {lo hi : Nat} {w w' : World} {pb : Nat} {v : Value} {B' : Bf} {e : Ending} (h : BufPostZ Z lo hi w pb v B' e w') (o : Obj) : BufPostZ Z lo hi w pb v B' e (w'.alloc o) :=
  ⟨h.1, Lib.hid (h.2.1.out.ext ((Ext.refl _).alloc o)), h.2.2.trans (Chg.of_ext ((Ext.refl _).alloc o))⟩
theorem BufZ.set1 {Z : Nat → Prop} {lo hi : Nat} {w : World} {pb : Nat} {B : Bf} (h : BufZ Z lo hi w pb B) (hz : ∀ b, Z b → OutW lo hi b) (n : Int) : BufZ Z lo hi (w.setCell ⟨pb, 1, none⟩ (.int .i64 n)) pb { B with n := n } ∧ Chg lo hi w (w.setCell ⟨pb, 1, none⟩ (.int .i64 n)) := by
  obtain ⟨g, A, c, h1, h2, h3, h4, h5, h6, h7, h8, h9⟩ := h
  have hc := Chg.setCell (lo := lo) (hi := hi) (w := w) (p := ⟨pb, 1, none⟩) (.int .i64 n) h3 h4
  refine ⟨⟨g, A, c, ?_, ?_, h3, h4, h5, h6, h7, h8.chgZ hc hz h9, h9⟩, hc⟩
  · rw [heap_setCell_same w _ _ _ _ _ h1]; rfl
  · exact (Below.heap_setCell w ⟨pb, 1, none⟩ _ g (fun e => h7 e)).trans h2
theorem BufZ.set3 {Z : Nat → Prop} {lo hi : Nat} {w : World} {pb : Nat} {B : Bf} (h : BufZ Z lo hi w pb B) (hz : ∀ b, Z b → OutW lo hi b) (n : Int) : BufZ Z lo hi (w.setCell ⟨pb, 3, none⟩ (.int .i64 n)) pb { B with t := n } ∧ Chg lo hi w (w.setCell ⟨pb, 3, none⟩ (.int .i64 n)) := by
  obtain ⟨g, A, c, h1, h2, h3, h4, h5, h6, h7, h8, h9⟩ := h
  have hc := Chg.setCell (lo := lo) (hi := hi) (w := w) (p := ⟨pb, 3, none⟩) (.int .i64 n) h3 h4
  refine ⟨⟨g, A, c, ?_, ?_, h3, h4, h5, h6, h7, h8.chgZ hc hz h9, h9⟩, hc⟩
  · rw [heap_setCell_same w _ _ _ _ _ h1]; rfl
  · exact (Below.heap_setCell w ⟨pb, 3, none⟩ _ g (fun e => h7 e)).trans h2

set_option maxHeartbeats 4000000 in
set_option maxRecDepth 100000 in
theorem sealZ_calls (Z : Nat → Prop) (lo hi pb : Nat) (B : Bf) (n : Int) (w : World) (h : BufZ Z lo hi w pb B) (hz : ∀ b, Z b → OutW lo hi b) (hok : B.ok) (hh : hi ≤ w.heap.size) :
    Calls Try.prog 25 #[.pointer (some ⟨pb, 0, none⟩), .int .i64 n] w (BufPostZ Z lo hi w pb (.int .i64 (B.sealE n)) (B.seal n)) := by
  have h0 := h
  obtain ⟨g, A, c, h1, h2, _, hph, _, _, _, h8, _⟩ := h
  have c1 : w.cell? ⟨pb, 1, none⟩ = some (.int .i64 B.n) := by rw [cell_of_block h1]; rfl
  have c2 : w.cell? ⟨pb, 2, none⟩ = some (.int .i64 B.f) := by rw [cell_of_block h1]; rfl
  have c3 : w.cell? ⟨pb, 3, none⟩ = some (.int .i64 B.t) := by rw [cell_of_block h1]; rfl
  have c5 : w.cell? ⟨pb, 5, none⟩ = some (.slice A B.hs.length c) := by rw [cell_of_block h1]; rfl
  have f1 : w.frozen? ⟨pb, 1, none⟩ = false := frozen_of_block h1 1
  have f3 : w.frozen? ⟨pb, 3, none⟩ = false := frozen_of_block h1 3
  have hpw : pb < w.heap.size := by omega
  have bad : B.sealE n ≠ 0 → ∀ w', Ext w w' → BufPostZ Z lo hi w pb (.int .i64 (B.sealE n)) (B.seal n) (.returned (.int .i64 (B.sealE n))) w' := fun hb w' hx => ⟨rfl, Lib.hid (by unfold Bf.seal; rw [if_neg hb]; exact h0.ext hx), Chg.of_ext hx⟩
  have hdef : B.sealE n = if n < 0 ∨ 1099511627776 < n ∨ n ≤ B.f then 1 else if (firstS B.hs n).isSome = true then 1 else if B.n ≠ -1 ∧ B.n ≠ n then 11 else 0 := rfl
  have hf0 := hok.f0
  have nB : ∀ b : Bool, lengthB n = b → Hid (lengthB n = b) := fun _ h => Lib.hid h
  by_cases e1 : n < 0 ∨ 1099511627776 < n ∨ n ≤ B.f
  · rw [if_pos e1] at hdef
    rw [hdef] at bad ⊢
    have HB := Lib.hid (bad (by omega) w (Ext.refl w))
    clear bad hdef h0 h1 h2 h8 hok f1 f3 hpw
    by_cases n0 : n < 0
    · go_enter Try.func25, Try.ntmps25
      go_wp2
      go_ret
      exact HB.out
    · by_cases n1 : 1099511627776 < n
      · have EL := nB false (by unfold lengthB; simp; omega)
        go_enter Try.func25, Try.ntmps25
        go_wp2_with (go_at_call 36; refine (lengthy_calls _ _).mono ?_; rw [EL.out]; rintro e w1 ⟨rfl, rfl⟩)
        go_ret
        exact HB.out
      · have EL := nB true (by unfold lengthB; simp; omega)
        have n2 : n ≤ B.f := by omega
        clear e1
        go_enter Try.func25, Try.ntmps25
        go_wp2_with (go_at_call 36; refine (lengthy_calls _ _).mono ?_; rw [EL.out]; rintro e w1 ⟨rfl, rfl⟩)
        go_ret
        exact HB.out
  · rw [if_neg e1] at hdef
    have EL := nB true (by unfold lengthB; simp; omega)
    have n0 : 0 ≤ n := by omega
    have n1 : n ≤ 1099511627776 := by omega
    have n2 : B.f < n := by omega
    have hfc := first_calls A c B.hs n w h8 hok.norm (by have := hok.hlen; omega)
    clear e1 nB
    obtain ⟨N, hN⟩ : ∃ N, B.n = N := ⟨_, rfl⟩
    rw [hN] at c1
    have HK : Hid (∀ w1, Ext w w1 → (w1.cell? ⟨pb, 1, none⟩ = some (.int .i64 N) ∧ w1.cell? ⟨pb, 3, none⟩ = some (.int .i64 B.t) ∧ (w1.frozen? ⟨pb, 1, none⟩ = false ∧ w1.frozen? ⟨pb, 3, none⟩ = false ∧ pb < w1.heap.size))) :=
      Lib.hid fun w1 hx => ⟨hx.cell c1, hx.cell c3, (hx.frozen hpw).trans f1, (hx.frozen hpw).trans f3, Nat.lt_of_lt_of_le hpw hx.size⟩
    cases eF : firstS B.hs n with
    | some sp =>
      have HC : Hid (Calls Try.prog 48 #[.agg #[.slice A B.hs.length c], .int .i64 n] w fun e w' => e = .returned (.tuple #[.agg #[.int .i64 sp.f, .int .i64 sp.t], .bool true]) ∧ Ext w w') := Lib.hid (by rw [eF] at hfc; exact hfc)
      rw [eF] at hdef
      rw [hdef] at bad ⊢
      have HB := Lib.hid (fun w' hx => bad (by simp) w' hx)
      clear bad hdef h0 h1 h2 h8 hok f1 f3 hpw eF hfc hN
      go_enter Try.func25, Try.ntmps25
      go_wp2_with (first | (go_at_call 36; refine (lengthy_calls _ _).mono ?_; rw [EL.out]; rintro e w1 ⟨rfl, rfl⟩) | (go_at_call 48; refine HC.out.mono ?_; rintro e w1 ⟨rfl, hx⟩; obtain ⟨k1, k2, k3⟩ := HK.out w1 hx; have kz := hx.size))
      go_ret
      exact HB.out _ (hx.alloc _)
    | none =>
      have HC : Hid (Calls Try.prog 48 #[.agg #[.slice A B.hs.length c], .int .i64 n] w fun e w' => e = .returned (.tuple #[.agg #[.int .i64 0, .int .i64 0], .bool false]) ∧ Ext w w') := Lib.hid (by rw [eF] at hfc; exact hfc)
      rw [eF] at hdef
      rw [hN] at hdef
      by_cases e2 : N ≠ -1 ∧ N ≠ n
      · have hd2 : B.sealE n = 11 := by rw [hdef]; simp [e2]
        rw [hd2] at bad ⊢
        have HB := Lib.hid (fun w' hx => bad (by omega) w' hx)
        have b1 : (N == -1) = false := by simpa using e2.1
        have b2 : (N == n) = false := by simpa using e2.2
        have b3 : (N != -1) = true := by simpa using e2.1
        have b4 : (N != n) = true := by simpa using e2.2
        clear bad hdef h0 h1 h2 h8 hok f1 f3 hpw eF hfc e2 hd2 hN
        go_enter Try.func25, Try.ntmps25
        go_wp2_with (first | (go_at_call 36; refine (lengthy_calls _ _).mono ?_; rw [EL.out]; rintro e w1 ⟨rfl, rfl⟩) | (go_at_call 48; refine HC.out.mono ?_; rintro e w1 ⟨rfl, hx⟩; obtain ⟨k1, k2, k3⟩ := HK.out w1 hx; have kz := hx.size))
        go_ret
        exact HB.out _ (hx.alloc _)
      · have hd2 : B.sealE n = 0 := by rw [hdef]; simp [e2]
        have good : ∀ w1, Ext w w1 → BufPostZ Z lo hi w pb (.int .i64 (B.sealE n)) (B.seal n) (.returned (.int .i64 0)) ((w1.setCell ⟨pb, 1, none⟩ (.int .i64 n)).setCell ⟨pb, 3, none⟩ (.int .i64 (min B.t n))) := fun w1 hx => by
          obtain ⟨g1, g2⟩ := (h0.ext hx).set1 hz n
          obtain ⟨g3, g4⟩ := g1.set3 hz (min B.t n)
          refine ⟨by rw [hd2], Lib.hid ?_, (Chg.of_ext hx).trans (g2.trans g4)⟩
          unfold Bf.seal
          rw [if_pos hd2]
          exact g3
        have HB := Lib.hid good
        cases b1 : (N == -1)
        · have b2 : N = n := by
            simp only [ne_eq, not_and, Decidable.not_not] at e2
            exact e2 (by simpa using b1)
          have b3 : (n == -1) = false := by simp; omega
          have b4 : (n != -1) = true := by simp; omega
          clear bad hdef h0 h1 h2 h8 hok eF hfc e2 hd2 good hN b1
          subst b2
          go_enter Try.func25, Try.ntmps25
          go_wp2_with (first | (go_at_call 36; refine (lengthy_calls _ _).mono ?_; rw [EL.out]; rintro e w1 ⟨rfl, rfl⟩) | (go_at_call 48; refine HC.out.mono ?_; rintro e w1 ⟨rfl, hx⟩; obtain ⟨k1, k2, k3⟩ := HK.out w1 hx; have kz := hx.size))
          all_goals go_ret
          all_goals exact (HB.out _ hx).alloc _
        · have b3 : (N != -1) = false := by simpa using b1
          clear bad hdef h0 h1 h2 h8 hok eF hfc e2 hd2 good hN
          go_enter Try.func25, Try.ntmps25
          go_wp2_with (first | (go_at_call 36; refine (lengthy_calls _ _).mono ?_; rw [EL.out]; rintro e w1 ⟨rfl, rfl⟩) | (go_at_call 48; refine HC.out.mono ?_; rintro e w1 ⟨rfl, hx⟩; obtain ⟨k1, k2, k3⟩ := HK.out w1 hx; have kz := hx.size))
          all_goals go_ret
          all_goals exact (HB.out _ hx).alloc _
theorem seal_calls (lo hi pb : Nat) (B : Bf) (n : Int) (w : World) (h : BufAt lo hi w pb B) (hok : B.ok) (hh : hi ≤ w.heap.size) :
    Calls Try.prog 25 #[.pointer (some ⟨pb, 0, none⟩), .int .i64 n] w (BufPost lo hi w pb (.int .i64 (B.sealE n)) (B.seal n)) := sealZ_calls (OutW lo hi) lo hi pb B n w h (fun _ h => h) hok hh
end Go.Proofs.Ytoahjhkfnchdhaa
