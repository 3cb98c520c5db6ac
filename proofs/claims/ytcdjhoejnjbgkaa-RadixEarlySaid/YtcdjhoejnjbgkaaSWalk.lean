/- At string: The contract of a node's walk, and of what From hands back. -/
import Derived.Test.YtcdjhoejnjbgkaaMaps
import Derived.Test.YtcdjhoejnjbgkaaSDropC
import Derived.RangeFuncNested
import Derived.RangeFuncBound
import Derived.RangeFuncCalls
import Derived.RangeFuncLeaves
import Derived.Shelf.Abstract
import Derived.Shelf.RegionOpen
import Derived.OwnWalkIn
import Derived.TacticsInMore
import Derived.LoopNIn
import Derived.LoopIn
import Derived.RegionIn
import Derived.BigRegionIn
import Derived.Stop.RegionWithIn
import Derived.Sort.BigQuietIn
namespace Go.Proofs.Ytcdjhoejnjbgkaa.St
open Go.RowKit
attribute [local go_sem] Oper.semAt_some

abbrev encP (x : Pr) : Array Value := #[.int .u64 (x.k : Int), .string (str x.v)]

/-- What a round that is told a pair does: it goes on, or it has said that no more is wanted. -/
def Round (W0 : World) (J Jx : List Pr → World → Prop) (xs : List Pr) (e : Ending) (W' : World) : Prop :=
  ∃ q : Bool, e = .returned (.bool q) ∧ (q = true → J xs W' ∧ Ext W0 W') ∧ (q = false → Jx xs W')
def WalkPost (W0 : World) (J Jx : List Pr → World → Prop) (pre l : List Pr) (e : Ending) (W' : World) : Prop :=
  ∃ q : Bool, e = .returned (.bool q) ∧ (q = true → J (pre ++ l) W' ∧ Ext W0 W') ∧ (q = false → ∃ u, u <+: l ∧ Jx (pre ++ u) W')

theorem deep (k : Nat) : (Fence.wide.depth.isSome = true → 1 ≤ k) := fun h => by cases h

set_option maxRecDepth 100000 in
set_option maxHeartbeats 2000000 in
theorem walk_leaf (l N : Nat) (W0 : World) (J Jx : List Pr → World → Prop) (hJd : ∀ pre W W', J pre W → Ext W W' → J pre W')
    (hY : ∀ m pre x W, J pre W → pre.length < N → Ext W0 W → YieldAt Fence.wide m Try.prog l (encP x) W (Round W0 J Jx (pre ++ [x])))
    (n k b k' : Nat) (v' : Int) (pre : List Pr) (W : World) (h : Cells W b k' v' (-1) none none 1 0) (hx : Ext W0 W) (hJ : J pre W) (hN : pre.length + 1 ≤ N) (hlt : ¬ k' < k) :
    CallsIn Fence.wide n Try.prog 48 #[.pointer (some ⟨b, 0, none⟩), .int .u64 k, .func (.yield l) #[] #[]] W (WalkPost W0 J Jx pre [⟨k', v'⟩]) := by
  have hdr : Ext W W.drew := (Ext.refl _).drew
  have hc := h.ext hdr
  have hyy := hY (n - 1) pre ⟨k', v'⟩ W.drew (hJd _ _ _ hJ hdr) (by omega) (hx.trans hdr)
  obtain ⟨fn, tmps, assign, body, hy, hR⟩ := hyy
  have hd : decide (k' < k) = false := by simpa using hlt
  obtain ⟨c0, c1, c2, c3, c4, c5, c6, cb⟩ := h
  clear cb hlt hJ hJd hY
  refine callsIn_of_wp Try.func48 rfl trivial ?_ rfl
  simp only [Try.ntmps48, List.size_toArray, List.length_cons, List.length_nil, Nat.reduceAdd, Nat.reduceSub, Array.replicate_succ, Array.replicate_zero, List.push_toArray, List.append_toArray, List.nil_append, List.cons_append]
  gi_wp2
  refine wpIn_region_still_tail 16 (by kernel_rfl) (by kernel_rfl) ?_
  simp only [List.take_succ_cons, List.take_zero, List.drop_succ_cons, List.drop_zero]
  iterate 16 still_step
  refine wpStill_nil ?_
  gi_wp2_with ((try refine ⟨deep _, ?_⟩); refine hR.mono ?_; rintro e W2 ⟨q, rfl, h1, h2⟩)
  go_ret
  exact ⟨q, rfl, h1, fun e => ⟨_, List.prefix_refl _, h2 e⟩⟩

set_option maxRecDepth 100000 in
theorem walk_low (k b k' : Nat) (v' : Int) (W : World) (h : Cells W b k' v' (-1) none none 1 0) (y : Value) (hlt : k' < k) :
    Calls Try.prog 48 #[.pointer (some ⟨b, 0, none⟩), .int .u64 k, y] W fun e w' => e = .returned (.bool true) ∧ Ext W w' := by
  have hd : decide (k' < k) = true := by simpa using hlt
  obtain ⟨c0, c1, c2, c3, c4, c5, c6, cb⟩ := h
  clear cb hlt
  go_enter Try.func48, Try.ntmps48
  go_wp2_with fail
  go_quiet (fail)
  go_wp2
  go_ret
  exact ⟨rfl, (Ext.refl W).drewN _⟩

theorem walk_nil (k : Int) (W : World) (y : Value) : Calls Try.prog 48 #[.pointer none, .int .u64 k, y] W fun e w' => e = .returned (.bool true) ∧ Ext W w' := by
  go_enter Try.func48, Try.ntmps48
  go_wp2_with fail
  go_ret
  exact ⟨rfl, Ext.refl W⟩

theorem key_div (pr i : Nat) : ((pr * 2 ^ (i + 1) : Nat) : Int) / 2 ^ i / 2 = (pr : Int) := by
  have e2 : (((pr * 2 ^ (i + 1) : Nat) : Int) / 2 ^ i / 2) = ((pr * 2 ^ (i + 1) / 2 ^ i / 2 : Nat) : Int) := by simp
  have e3 : pr * 2 ^ (i + 1) / 2 ^ i / 2 = pr := by rw [← div_succ]; exact Nat.mul_div_cancel _ (Nat.two_pow_pos _)
  rw [e2, e3]

set_option maxRecDepth 100000 in
theorem walk_past (k b pr i : Nat) (zp op : Option Addr) (m d : Int) (W : World) (h : Cells W b ((pr * 2 ^ (i + 1) : Nat) : Int) 0 i zp op m d) (hi : i < 64) (y : Value) (hlt : pr < k / 2 ^ i / 2) :
    Calls Try.prog 48 #[.pointer (some ⟨b, 0, none⟩), .int .u64 k, y] W fun e w' => e = .returned (.bool true) ∧ Ext W w' := by
  have hd : ((pr * 2 ^ (i + 1) : Nat) : Int) / 2 ^ i / 2 < (k : Int) / 2 ^ i / 2 := by
    have e1 : ((k : Int) / 2 ^ i / 2) = ((k / 2 ^ i / 2 : Nat) : Int) := by simp
    rw [key_div, e1]; omega
  generalize ((pr * 2 ^ (i + 1) : Nat) : Int) = key at *
  obtain ⟨c0, c1, c2, c3, c4, c5, c6, cb⟩ := h
  clear cb hlt
  go_enter Try.func48, Try.ntmps48
  go_wp2_with fail
  go_quiet (fail)
  go_wp2
  go_ret
  exact ⟨rfl, (Ext.refl W).drewN _⟩
end Go.Proofs.Ytcdjhoejnjbgkaa.St
