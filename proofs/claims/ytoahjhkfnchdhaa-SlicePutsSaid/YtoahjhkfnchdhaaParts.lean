/- The contract of slice.Parts: the slices of which a span has bytes, told one by one. -/
import Derived.Test.YtoahjhkfnchdhaaSlsp
import Derived.RangeFuncBox
import Derived.RangeFuncLeaves
import Derived.RangeFuncCalls
import Derived.RangeFuncBound
import Derived.RangeFuncNested
import Derived.OwnWalkIn
import Derived.TacticsInMore
import Derived.LoopNIn
import Derived.LoopIn
namespace Go.Proofs.Ytoahjhkfnchdhaa
open Go.RowKit
attribute [local go_sem] Oper.semAt_some

/-- A part: its slice's number, its span. -/
structure Pt where
  no : Int
  s : Sp
def nextA (u t a : Int) : Int := min ((a / u + 1) * u) t
def partsF (u t : Int) : Nat → Int → List Pt
  | 0, _ => []
  | n + 1, a => if a < t then ⟨a / u, ⟨a, nextA u t a⟩⟩ :: partsF u t n (nextA u t a) else []
/-- The parts from a byte on. -/
def pl (u t a : Int) : List Pt := partsF u t (t - a).toNat a
def partsL (f t u : Int) : List Pt := if (rightB f t && unitB u) = true then pl u t f else []
theorem nextA_gt {u t a : Int} (hu : 1 ≤ u) (h : a < t) : a < nextA u t a := by
  have := Int.lt_ediv_add_one_mul_self a (show 0 < u by omega)
  unfold nextA
  omega
theorem nextA_le (u t a : Int) : nextA u t a ≤ t := by unfold nextA; omega
theorem partsF_stable {u t : Int} (hu : 1 ≤ u) : ∀ (n m : Nat) (a : Int), (t - a).toNat ≤ n → (t - a).toNat ≤ m → partsF u t n a = partsF u t m a := by
  intro n
  induction n with
  | zero =>
    intro m a h1 _
    cases m with
    | zero => rfl
    | succ m => simp only [partsF]; rw [if_neg (by omega)]
  | succ n ih =>
    intro m a h1 h2
    by_cases h : a < t
    · cases m with
      | zero => omega
      | succ m =>
        have := nextA_gt hu h
        simp only [partsF]
        rw [if_pos h, if_pos h, ih m _ (by omega) (by omega)]
    · cases m with
      | zero => simp only [partsF]; rw [if_neg h]
      | succ m => simp only [partsF]; rw [if_neg h, if_neg h]
theorem pl_step {u t a : Int} (hu : 1 ≤ u) (h : a < t) : pl u t a = ⟨a / u, ⟨a, nextA u t a⟩⟩ :: pl u t (nextA u t a) := by
  have hn := nextA_gt hu h
  obtain ⟨n, hn'⟩ : ∃ n, (t - a).toNat = n + 1 := ⟨(t - a).toNat - 1, by omega⟩
  unfold pl
  rw [hn']
  simp only [partsF]
  rw [if_pos h, partsF_stable hu n _ _ (by omega) (Nat.le_refl _)]
theorem pl_end {u t a : Int} (h : ¬ a < t) : pl u t a = [] := by
  unfold pl
  rw [show (t - a).toNat = 0 by omega]
  rfl

theorem parts_calls (f t u : Int) (w : World) :
    Calls Try.prog 39 #[.agg #[.int .i64 f, .int .i64 t], .int .i64 u] w fun e w' => e = .returned (.func (.func 51) #[] #[.pointer (some ⟨w.heap.size, 0, none⟩), .pointer (some ⟨w.heap.size + 1, 0, none⟩)]) ∧
      w' = (w.alloc (.cells #[.int .i64 f, .int .i64 t] 24)).alloc (.cells #[.int .i64 u] 2) := by
  go_enter Try.func39, Try.ntmps39
  go_wp2
  go_ret
  exact ⟨rfl, rfl⟩

theorem deep (k : Nat) : (Fence.wide.depth.isSome = true → 1 ≤ k) := fun h => by cases h
def encPt (x : Pt) : Array Value := #[.int .i64 x.no, .agg #[.int .i64 x.s.f, .int .i64 x.s.t]]

/-- Two blocks lie as they lay. -/
def Keep2 (b c : Nat) (A B : World) : Prop := B.heap[b]? = A.heap[b]? ∧ B.heap[c]? = A.heap[c]?
theorem Keep2.refl (b c : Nat) (A : World) : Keep2 b c A A := ⟨rfl, rfl⟩
theorem Keep2.trans {b c : Nat} {A B C : World} (h : Keep2 b c A B) (k : Keep2 b c B C) : Keep2 b c A C := ⟨k.1.trans h.1, k.2.trans h.2⟩
theorem Keep2.cell1 {b c : Nat} {A B : World} (h : Keep2 b c A B) {i : Nat} {u : Value} (hc : A.cell? ⟨b, i, none⟩ = some u) : B.cell? ⟨b, i, none⟩ = some u := (World.cell?_of_block h.1).trans hc
theorem Keep2.cell2 {b c : Nat} {A B : World} (h : Keep2 b c A B) {i : Nat} {u : Value} (hc : A.cell? ⟨c, i, none⟩ = some u) : B.cell? ⟨c, i, none⟩ = some u := (World.cell?_of_block h.2).trans hc

set_option maxRecDepth 100000 in
set_option maxHeartbeats 2000000 in
theorem parts1_in (n : Nat) (l bs bu : Nat) (f t u : Int) (N : Nat) (hN : (partsL f t u).length ≤ N)
    (J Jx : List Pt → World → Prop) (hJ : ∀ pre W W', J pre W → Ext W W' → J pre W')
    (hY : ∀ pre x W, J pre W → pre.length < N → YieldAt Fence.wide (n - 1) Try.prog l (encPt x) W fun e W' =>
      (e = .returned (.bool true) ∧ J (pre ++ [x]) W' ∧ Keep2 bs bu W W') ∨ (e = .returned (.bool false) ∧ Jx (pre ++ [x]) W'))
    (W : World) (c0 : W.cell? ⟨bs, 0, none⟩ = some (.int .i64 f)) (c1 : W.cell? ⟨bs, 1, none⟩ = some (.int .i64 t)) (c2 : W.cell? ⟨bu, 0, none⟩ = some (.int .i64 u)) (h0 : J [] W) :
    CallsIn Fence.wide n Try.prog 51 #[.func (.yield l) #[] #[], .pointer (some ⟨bs, 0, none⟩), .pointer (some ⟨bu, 0, none⟩)] W fun e W' => (∃ v, e = .returned v) ∧
      ((∃ ys, ys = partsL f t u ∧ J ys W') ∨ (∃ pre, pre <+: partsL f t u ∧ Jx pre W')) := by
  have hR := right_calls f t W
  have hU := fun W' => unitary_calls u W'
  obtain ⟨R, hRR⟩ : ∃ R, rightB f t = R := ⟨_, rfl⟩
  obtain ⟨U, hUU⟩ : ∃ U, unitB u = U := ⟨_, rfl⟩
  have hP : (R && U) = false → partsL f t u = [] := fun h => by unfold partsL; rw [hRR, hUU, h]; rfl
  have hPt : (R && U) = true → partsL f t u = pl u t f := fun h => by unfold partsL; rw [hRR, hUU, h]; rfl
  have hRt : R = true → 0 ≤ f ∧ f ≤ t ∧ t ≤ 4611686018427387904 := fun h => by
    rw [h] at hRR; unfold rightB at hRR; simp at hRR; omega
  have hUt : U = true → 1 ≤ u ∧ u ≤ 1048576 := fun h => by rw [h] at hUU; exact unit_bound hUU
  rw [hRR] at hR
  rw [hUU] at hU
  generalize partsL f t u = zs at *
  have HP := Lib.hid hP
  have HPt := Lib.hid hPt
  have HRt := Lib.hid hRt
  have HUt := Lib.hid hUt
  have HR := Lib.hid hR
  have HU := Lib.hid hU
  clear hP hPt hRt hUt hR hU hRR hUU
  cases R
  · have e : zs = [] := HP.out rfl
    subst e
    clear hY
    refine callsIn_of_wp Try.func51 rfl trivial ?_ rfl
    simp only [Try.ntmps51, List.size_toArray, List.length_cons, List.length_nil, Nat.reduceAdd, Nat.reduceSub, Array.replicate_succ, Array.replicate_zero, List.push_toArray, List.append_toArray, List.nil_append, List.cons_append]
    gi_wp2_with (refine ⟨trivial, deep _, ?_⟩; gi_at_call 52; refine (callsIn_wide.2 HR.out).mono ?_; rintro e W1 ⟨rfl, hx⟩)
    refine ⟨trivial, ?_⟩
    gi_wp2
    refine bodyPost_ret (results_none rfl _ _ _) rfl ?_
    exact ⟨⟨_, rfl⟩, .inl (by first | exact hJ _ _ _ h0 hx | exact ⟨_, rfl, hJ _ _ _ h0 hx⟩)⟩
  · obtain ⟨f0, ft, t1⟩ := HRt.out rfl
    cases U
    · have e : zs = [] := HP.out rfl
      subst e
      clear hY
      refine callsIn_of_wp Try.func51 rfl trivial ?_ rfl
      simp only [Try.ntmps51, List.size_toArray, List.length_cons, List.length_nil, Nat.reduceAdd, Nat.reduceSub, Array.replicate_succ, Array.replicate_zero, List.push_toArray, List.append_toArray, List.nil_append, List.cons_append]
      gi_wp2_with (first
        | (refine ⟨trivial, deep _, ?_⟩; gi_at_call 52; refine (callsIn_wide.2 HR.out).mono ?_; rintro e W1 ⟨rfl, hx⟩; replace c2 := hx.cell c2)
        | (refine ⟨trivial, deep _, ?_⟩; gi_at_call 35; refine (callsIn_wide.2 (HU.out _)).mono ?_; rintro e W2 ⟨rfl, rfl⟩))
      refine bodyPost_ret (results_none rfl _ _ _) rfl ?_
      exact ⟨⟨_, rfl⟩, .inl (by first | exact hJ _ _ _ h0 hx | exact ⟨_, rfl, hJ _ _ _ h0 hx⟩)⟩
    · have e : zs = pl u t f := HPt.out rfl
      obtain ⟨u1, u2⟩ := HUt.out rfl
      have HZ := Lib.hid e
      have HN := Lib.hid hN
      clear e hN
      have hu0 : (u == 0) = false := by simp; omega
      refine callsIn_of_wp Try.func51 rfl trivial ?_ rfl
      simp only [Try.ntmps51, List.size_toArray, List.length_cons, List.length_nil, Nat.reduceAdd, Nat.reduceSub, Array.replicate_succ, Array.replicate_zero, List.push_toArray, List.append_toArray, List.nil_append, List.cons_append]
      gi_wp2_with (first
        | (refine ⟨trivial, deep _, ?_⟩; gi_at_call 52; refine (callsIn_wide.2 HR.out).mono ?_; rintro e W1 ⟨rfl, hx⟩; replace c0 := hx.cell c0; replace c1 := hx.cell c1; replace c2 := hx.cell c2)
        | (refine ⟨trivial, deep _, ?_⟩; gi_at_call 35; refine (callsIn_wide.2 (HU.out _)).mono ?_; rintro e W2 ⟨rfl, rfl⟩))
      gi_loopw [4] (fun a wr => ∃ k : Int, ∃ pre, a = .int .i64 k ∧ f ≤ k ∧ k ≤ t ∧ zs = pre ++ pl u t k ∧ J pre wr ∧ Keep2 bs bu W1 wr)
        (fun a _ => (t - intOf a).toNat)
      case atStart => exact ⟨f, [], rfl, Int.le_refl _, ft, HZ.out, hJ _ _ _ h0 hx, Keep2.refl _ _ _⟩
      case round =>
        obtain ⟨k, pre, rfl, k1, k2, hz, hj, hnx⟩ := hrel
        replace c1 := hnx.cell1 c1
        replace c2 := hnx.cell2 c2
        by_cases hlt : k < t
        · have hp := pl_step u1 hlt
          have hn := nextA_gt u1 hlt
          have hn2 := nextA_le u t k
          have hq : k.tdiv u = k / u := Int.tdiv_eq_ediv_of_nonneg (by omega)
          have hb1 : k / u ≤ k := Int.ediv_le_self _ (by omega)
          have hb0 : 0 ≤ k / u := Int.ediv_nonneg (by omega) (by omega)
          have hm1 : (k / u + 1) * u ≤ k + u := by
            have := Int.ediv_mul_le k (show u ≠ 0 by omega)
            rw [Int.add_mul, Int.one_mul]; omega
          have hm0 : 0 ≤ (k / u + 1) * u := Int.mul_nonneg (by omega) (by omega)
          have hy := hY pre ⟨k / u, ⟨k, nextA u t k⟩⟩ wr hj (by
            have := HN.out
            rw [hz, hp] at this
            simp at this
            omega)
          have hz2 : zs = (pre ++ [⟨k / u, ⟨k, nextA u t k⟩⟩]) ++ pl u t (nextA u t k) := by rw [hz, hp]; simp
          have hmin : min ((k / u + 1) * u) t = nextA u t k := rfl
          simp only [encPt] at hy
          obtain ⟨fn, tmps, assign, body, hyy, hR2⟩ := hy
          have HZ2 := Lib.hid hz2
          have HK := Lib.hid (And.intro hn hn2)
          clear hz2 hz hp hj hn hn2 hJ hY
          generalize nextA u t k = m at *
          generalize hqq : k / u = q at *
          have HQ := Lib.hid hqq
          clear hqq
          obtain ⟨r, hr⟩ : ∃ r, (q + 1) * u = r := ⟨_, rfl⟩
          have hwr : IntKind.i64.wrap ((q + 1) * u) = r := (IntWalk.i64_in _ (by omega)).trans hr
          rw [hr] at hmin hm0 hm1
          have HM := Lib.hid hr
          clear hr
          gi_wp2
          refine ⟨deep _, hR2.mono ?_⟩
          rintro e W3 (⟨rfl, hJ3, hk3⟩ | ⟨rfl, hJx3⟩)
          · gi_wp2
            go_roundw
            case rel => exact ⟨m, _, rfl, by have := HK.out; omega, HK.out.2, HZ2.out, hJ3, hnx.trans hk3⟩
            case measure => have := HK.out; simp [intOf]; omega
          · gi_wp2
            refine bodyPost_ret (results_none rfl _ _ _) rfl ?_
            exact ⟨⟨_, rfl⟩, .inr ⟨_, by rw [HZ2.out]; exact List.prefix_append _ _, hJx3⟩⟩
        · obtain rfl : k = t := by omega
          rw [pl_end hlt, List.append_nil] at hz
          subst hz
          gi_wp2
          go_end0
          exact ⟨⟨_, rfl⟩, .inl (by first | exact hj | exact ⟨_, rfl, hj⟩)⟩

theorem parts_stops (bs bu : Nat) (f t u : Int) (N n : Nat) (hN : (partsL f t u).length ≤ N) (w : World)
    (c0 : w.cell? ⟨bs, 0, none⟩ = some (.int .i64 f)) (c1 : w.cell? ⟨bs, 1, none⟩ = some (.int .i64 t)) (c2 : w.cell? ⟨bu, 0, none⟩ = some (.int .i64 u)) :
    SeqStopsK Fence.wide n Try.prog 51 #[.pointer (some ⟨bs, 0, none⟩), .pointer (some ⟨bu, 0, none⟩)] encPt (Keep2 bs bu) (fun ys => ys = partsL f t u) (fun pre => pre <+: partsL f t u) N w := by
  intro l J Jx W hW hJ _ hY h0
  refine parts1_in n l bs bu f t u N hN J Jx (fun pre A B hj hab => hJ pre A B none hj ⟨hab.os, hab.tape, hab.output, hab.size, fun k hk _ => Below.block hab k hk⟩ (fun r e => by cases e)) hY W ?_ ?_ ?_ h0
  · exact Ext.cell hW c0
  · exact Ext.cell hW c1
  · exact Ext.cell hW c2
end Go.Proofs.Ytoahjhkfnchdhaa
