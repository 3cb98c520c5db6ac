/- The contracts of both News, of name, and of Numbers. -/
import Derived.Test.YtgcplndmhlideaaGreatRdrop
import Derived.IntWalk
import Derived.BigQuiet
namespace Go.Proofs.YtgcplndmhlideaaGreat
open Go.RowKit

/-- A unit: 1, 2, 4 .. 2^20. -/
def unitB (u : Int) : Bool := (List.range 21).any fun k => u == (2 : Int) ^ k
theorem unitB_iff (u : Int) : unitB u = true ↔ ∃ k, k ≤ 20 ∧ u = (2 : Int) ^ k := by
  unfold unitB
  simp only [List.any_eq_true, List.mem_range, beq_iff_eq]
  exact ⟨fun ⟨k, h1, h2⟩ => ⟨k, by omega, h2⟩, fun ⟨k, h1, h2⟩ => ⟨k, by omega, h2⟩⟩
theorem pow_bound {k : Nat} (hk : k ≤ 20) : 1 ≤ (2 : Int) ^ k ∧ (2 : Int) ^ k ≤ 1048576 := by
  have h1 : 0 < 2 ^ k := Nat.pow_pos (by omega)
  have h2 : 2 ^ k ≤ 2 ^ 20 := Nat.pow_le_pow_right (by omega) hk
  have h3 : ((2 ^ k : Nat) : Int) = (2 : Int) ^ k := by simp
  omega
theorem unit_bound {u : Int} (h : unitB u = true) : 1 ≤ u ∧ u ≤ 1048576 := by
  obtain ⟨k, hk, rfl⟩ := (unitB_iff u).1 h
  exact pow_bound hk
theorem bits_and_i64 (a b : Nat) (ha : a < 4611686018427387904) (hb : b < 4611686018427387904) : bits .and .i64 (a : Int) (b : Int) = ((a &&& b : Nat) : Int) := by
  have hx : a &&& b < 2 ^ 62 := Nat.and_lt_two_pow _ (by omega)
  have h1 : (BitVec.ofInt 64 (a : Int)).toNat = a := by
    rw [BitVec.ofInt_natCast, BitVec.toNat_ofNat]; exact Nat.mod_eq_of_lt (by omega)
  have h2 : (BitVec.ofInt 64 (b : Int)).toNat = b := by
    rw [BitVec.ofInt_natCast, BitVec.toNat_ofNat]; exact Nat.mod_eq_of_lt (by omega)
  show IntKind.i64.wrap ((BitVec.ofInt 64 (a : Int) &&& BitVec.ofInt 64 (b : Int)).toNat : Int) = _
  rw [BitVec.toNat_and, h1, h2]
  exact IntWalk.i64_in _ (by omega)
theorem unit_bits {u : Int} (h1 : 1 ≤ u) (h2 : u ≤ 1048576) : (bits .and .i64 u (u - 1) == 0) = unitB u := by
  obtain ⟨n, rfl⟩ : ∃ n : Nat, u = n := ⟨u.toNat, by omega⟩
  rw [show ((n : Int) - 1) = ((n - 1 : Nat) : Int) by omega, bits_and_i64 _ _ (by omega) (by omega), Bool.eq_iff_iff, unitB_iff]
  have h3 := Nat.and_sub_one_eq_zero_iff_isPowerOfTwo (n := n) (by omega)
  constructor
  · intro h
    have h4 : n &&& n - 1 = 0 := by simpa using h
    obtain ⟨k, hk⟩ := h3.1 h4
    refine ⟨k, ?_, by rw [hk]; simp⟩
    rcases Nat.lt_or_ge 20 k with h5 | h5
    · have h6 : 2 ^ 21 ≤ 2 ^ k := Nat.pow_le_pow_right (by omega) h5
      omega
    · exact h5
  · rintro ⟨k, hk, e⟩
    have e2 : n = 2 ^ k := by
      have h4 : ((2 ^ k : Nat) : Int) = (2 : Int) ^ k := by simp
      omega
    have h4 := h3.2 ⟨k, e2⟩
    simp [h4]
theorem unit_no {u : Int} (h : u < 1 ∨ 1048576 < u) : unitB u = false := by
  cases e : unitB u
  · rfl
  · have := unit_bound e; omega
/-- Of which bytes an index may be. -/
def uOk (u : Int) : Bool := decide (4 ≤ u) && unitB u
theorem ix_new {w : World} {xb : Nat} {u : Int} (h : w.heap[xb]? = some (.cells #[.int .i64 u, .pointer none, .pointer none, .int .i64 0, .int .i64 0] 77 (0, 0))) : IxAt w xb u ⟨[], 0⟩ :=
  by
  have hv : Vers w [] [] := ⟨(fun e he => by cases he), (fun e he => by cases he), (fun s hs => by cases hs)⟩
  exact ⟨none, none, [], h, ⟨none, rfl, trivial, rfl⟩, ⟨none, rfl, trivial, rfl⟩, hv⟩
theorem fit_new {u : Int} (h : uOk u = true) : Fit u ⟨[], 0⟩ := by
  simp only [uOk, Bool.and_eq_true] at h
  have := unit_bound h.2
  exact ⟨⟨List.Pairwise.nil, fun s hs => (by cases hs), List.Pairwise.nil, fun s hs => (by cases hs), Int.le_refl _⟩, this.1, this.2, by simp, by simp⟩
def NewPost (w : World) (u : Int) (e : Ending) (w' : World) : Prop :=
  (uOk u = true ∧ e = .returned (.tuple #[.pointer (some ⟨w.heap.size, 0, none⟩), .int .i64 0]) ∧ IxAt w' w.heap.size u ⟨[], 0⟩ ∧ Ext w w') ∨ (uOk u = false ∧ e = .returned (.tuple #[.pointer none, .int .i64 1]) ∧ Ext w w')

set_option maxHeartbeats 1000000 in
set_option maxRecDepth 100000 in
theorem xnew_calls (u : Int) (w : World) : Calls Tryz.prog 15 #[.int .i64 u] w (NewPost w u) := by
  by_cases h : 4 ≤ u ∧ u ≤ 1048576
  · obtain ⟨h1, h2⟩ := h
    have hb := unit_bits (u := u) (by omega) h2
    have hw : IntKind.i64.wrap (u - 1) = u - 1 := IntWalk.i64_in _ (by omega)
    have c1 : ¬ u < 4 := by omega
    have c2 : ¬ 1048576 < u := by omega
    have hu : uOk u = unitB u := by simp [uOk, h1]
    cases hq : unitB u
    · rw [hq] at hb hu
      have hb2 : (bits BinOp.and IntKind.i64 u (u - 1) != 0) = true := by simp [bne, hb]
      have HU := Lib.hid hu
      clear h1 h2 hu hq
      go_enter Tryz.func15, Tryz.ntmps15
      go_wp2
      refine bodyPost_ret (v := .tuple #[.pointer none, .int .i64 1]) (by simp [results, Tryz.results15, go_sem]) rfl (.inr ⟨HU.out, rfl, Ext.refl w⟩)
    · rw [hq] at hb hu
      have hb3 : bits BinOp.and IntKind.i64 u (u - 1) = 0 := by simpa using hb
      rw [hb3] at hb
      have HU := Lib.hid hu
      clear h1 h2 hu hq
      go_enter Tryz.func15, Tryz.ntmps15
      go_wp2
      exact bodyPost_ret (v := .tuple #[.pointer (some ⟨w.heap.size, 0, none⟩), .int .i64 0]) (by simp [results, Tryz.results15, go_sem]) rfl (.inl ⟨HU.out, rfl, ix_new (heap_alloc_new w _), (Ext.refl w).alloc _⟩)
  · have hu : uOk u = false := by
      unfold uOk
      by_cases h4 : 4 ≤ u
      · rw [unit_no (.inr (by omega))]; simp
      · simp [h4]
    by_cases c1 : u < 4
    · clear h
      go_enter Tryz.func15, Tryz.ntmps15
      go_wp2
      exact bodyPost_ret (v := .tuple #[.pointer none, .int .i64 1]) (by simp [results, Tryz.results15, go_sem]) rfl (.inr ⟨hu, rfl, Ext.refl w⟩)
    · have c2 : 1048576 < u := by omega
      clear h
      go_enter Tryz.func15, Tryz.ntmps15
      go_wp2
      exact bodyPost_ret (v := .tuple #[.pointer none, .int .i64 1]) (by simp [results, Tryz.results15, go_sem]) rfl (.inr ⟨hu, rfl, Ext.refl w⟩)

theorem uOk_iff (u : Int) : uOk u = true ↔ ∃ k, 2 ≤ k ∧ k ≤ 20 ∧ u = (2 : Int) ^ k := by
  simp only [uOk, Bool.and_eq_true, decide_eq_true_eq, unitB_iff]
  constructor
  · rintro ⟨h, k, hk, rfl⟩
    refine ⟨k, ?_, hk, rfl⟩
    rcases k with _ | _ | k
    · simp at h
    · simp at h
    · omega
  · rintro ⟨k, h1, h2, rfl⟩
    refine ⟨?_, k, h2, rfl⟩
    have h3 : (2 : Nat) ^ 2 ≤ 2 ^ k := Nat.pow_le_pow_right (by omega) h1
    have h4 : ((2 ^ k : Nat) : Int) = (2 : Int) ^ k := by simp
    omega
def RNewPost (w : World) (u : Int) (e : Ending) (w' : World) : Prop :=
  (uOk u = true ∧ e = .returned (.tuple #[.agg #[.int .i64 u, .int .i64 0, .slice none 0 0], .int .i64 0]) ∧ Ext w w') ∨ (uOk u = false ∧ e = .returned (.tuple #[.agg #[.int .i64 0, .int .i64 0, .slice none 0 0], .int .i64 1]) ∧ Ext w w')

set_option maxHeartbeats 1000000 in
set_option maxRecDepth 100000 in
theorem rnew_calls (u : Int) (w : World) : Calls Tryz.prog 20 #[.int .i64 u] w (RNewPost w u) := by
  have hx0 : Ext w (w.alloc (.cells #[.int .i64 0, .int .i64 0, .slice none 0 0] 27)) := (Ext.refl w).alloc _
  have hb0 := heap_alloc_new w (.cells #[.int .i64 0, .int .i64 0, .slice none 0 0] 27)
  have HB := Lib.hid hb0
  clear hb0
  go_enter Tryz.func20, Tryz.ntmps20
  go_wp2
  generalize w.alloc (.cells #[.int .i64 0, .int .i64 0, .slice none 0 0] 27) = W at *
  have z0 := cell_blk HB.out 0 rfl
  have z1 := cell_blk HB.out 1 rfl
  have z2 := cell_blk HB.out 2 rfl
  have y0 := frozen_blk HB.out 0
  have y1 := frozen_blk HB.out 1
  have y2 := frozen_blk HB.out 2
  go_loopw [4] (fun p wr => ∃ k : Nat, 2 ≤ k ∧ k ≤ 21 ∧ p = .int .i64 ((2 : Int) ^ k) ∧ (∀ j, 2 ≤ j → j < k → u ≠ (2 : Int) ^ j) ∧ wr = W) (fun p _ => (2097152 - intOf p).toNat)
  case atStart => exact ⟨2, Nat.le_refl _, by omega, rfl, fun j h1 h2 => by omega, rfl⟩
  case round =>
    obtain ⟨k, hk1, hk2, rfl, hno, rfl⟩ := hrel
    have hpp : (2 : Int) ^ (k + 1) = (2 : Int) ^ k * 2 := Int.pow_succ _ _
    have hpos : 1 ≤ (2 : Int) ^ k := by
      have h1 : 0 < 2 ^ k := Nat.pow_pos (by omega)
      have h4 : ((2 ^ k : Nat) : Int) = (2 : Int) ^ k := by simp
      omega
    by_cases hlt : k ≤ 20
    · have hle := (pow_bound hlt).2
      have HNO := Lib.hid hno
      have HK := Lib.hid (uOk_iff u)
      obtain ⟨P, hP⟩ : ∃ P, (2 : Int) ^ k = P := ⟨_, rfl⟩
      rw [hP] at hpp hpos hle ⊢
      have HP := Lib.hid hP
      clear hP hno
      by_cases he : P = u
      · subst he
        clear hpp
        go_wp2
        have hf3 := set3_cells HB.out (.int .i64 P) (.int .i64 0) (.slice none 0 0)
        have k0 := cell_blk hf3 0 rfl
        have k1 := cell_blk hf3 1 rfl
        have k2 := cell_blk hf3 2 rfl
        refine bodyPost_ret (v := .tuple #[.agg #[.int .i64 P, .int .i64 0, .slice none 0 0], .int .i64 0]) (by simp [results, Tryz.results20, go_sem, k0, k1, k2]) rfl ?_
        exact .inl ⟨HK.out.2 ⟨k, hk1, hlt, HP.out.symm⟩, rfl, hx0.set3 (Nat.le_refl _) _ _ _⟩
      · have he2 : (P == u) = false := beq_eq_false_iff_ne.2 he
        have hw : IntKind.i64.wrap (P * 2) = P * 2 := IntWalk.i64_in _ (by omega)
        have HE := Lib.hid he
        have HPP := Lib.hid hpp
        clear he hpp
        go_wp2
        go_roundw
        case rel =>
          refine ⟨k + 1, by omega, by omega, by rw [HPP.out], fun j h1 h2 => ?_, trivial⟩
          rcases Nat.lt_or_ge j k with h3 | h3
          · exact HNO.out j h1 h3
          · obtain rfl : j = k := by omega
            rw [HP.out]
            exact fun e => HE.out e.symm
        case measure => simp [intOf] <;> omega
    · obtain rfl : k = 21 := by omega
      have hu : uOk u = false := by
        cases hq : uOk u with
        | false => rfl
        | true =>
          obtain ⟨j, j1, j2, e⟩ := (uOk_iff u).1 hq
          exact absurd e (hno j j1 (by omega))
      have e21 : (2 : Int) ^ 21 = 2097152 := rfl
      rw [e21]
      clear hno hpp hpos e21
      go_wp2
      have hf3 := set3_cells HB.out (.int .i64 0) (.int .i64 0) (.slice none 0 0)
      have k0 := cell_blk hf3 0 rfl
      have k1 := cell_blk hf3 1 rfl
      have k2 := cell_blk hf3 2 rfl
      refine bodyPost_ret (v := .tuple #[.agg #[.int .i64 0, .int .i64 0, .slice none 0 0], .int .i64 1]) (by simp [results, Tryz.results20, go_sem, k0, k1, k2]) rfl ?_
      exact .inr ⟨hu, rfl, hx0.set3 (Nat.le_refl _) _ _ _⟩

set_option maxRecDepth 100000 in
theorem name_calls (v n : Int) (w : World) : Calls Tryz.prog 21 #[.agg #[.int .i64 v, .int .i64 n]] w fun e w' => e = .returned (.agg #[.int .i64 v, .int .i64 n]) ∧ Ext w w' := by
  have hx0 : Ext w ((w.alloc (.cells #[.int .i64 v, .int .i64 n] 58)).alloc (.cells #[.int .i64 0, .int .i64 0] 49)) := ((Ext.refl w).alloc _).alloc _
  have n0 := ((Ext.refl (w.alloc (.cells #[.int .i64 v, .int .i64 n] 58))).alloc (.cells #[.int .i64 0, .int .i64 0] 49)).block (heap_alloc_new w (.cells #[.int .i64 v, .int .i64 n] 58))
  have b0 := heap_new1 w (.cells #[.int .i64 v, .int .i64 n] 58) (.cells #[.int .i64 0, .int .i64 0] 49)
  go_enter Tryz.func21, Tryz.ntmps21
  go_upto_region 1 with (fail)
  generalize ((w.alloc (.cells #[.int .i64 v, .int .i64 n] 58)).alloc (.cells #[.int .i64 0, .int .i64 0] 49)) = W at *
  have a0 := cell_blk n0 0 rfl
  have a1 := cell_blk n0 1 rfl
  have z0 := cell_blk b0 0 rfl
  have z1 := cell_blk b0 1 rfl
  have y0 := frozen_blk b0 0
  have y1 := frozen_blk b0 1
  go_wp2
  obtain ⟨k0, k1⟩ := set2_cells b0 (.int .i64 v) (.int .i64 n)
  refine bodyPost_ret (v := .agg #[.int .i64 v, .int .i64 n]) (by simp [results, Tryz.results21, go_sem, k0, k1]) rfl ⟨rfl, ?_⟩
  exact (hx0.setCell (p := ⟨w.heap.size + 1, 0, none⟩) (by show w.heap.size ≤ w.heap.size + 1; omega) _).setCell (p := ⟨w.heap.size + 1, 1, none⟩) (by show w.heap.size ≤ w.heap.size + 1; omega) _
end Go.Proofs.YtgcplndmhlideaaGreat
