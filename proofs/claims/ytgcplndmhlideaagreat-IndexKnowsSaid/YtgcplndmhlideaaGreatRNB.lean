/- At store.Name: The contract of a node's walk, and of what From hands back. -/
import Derived.Test.YtgcplndmhlideaaGreatRNA
import Derived.Test.YtgcplndmhlideaaGreatStillIn
import Derived.RangeFuncNested
import Derived.RangeFuncBound
import Derived.RangeFuncCalls
import Derived.RangeFuncLeaves
import Derived.Shelf.Abstract
import Derived.Shelf.RegionOpen
import Derived.OwnWalkIn
import Derived.TacticsInMore
import Derived.LoopNIn
import Derived.LoopIn
import Derived.RegionIn
import Derived.BigRegionIn
import Derived.Stop.RegionWithIn
import Derived.Sort.BigQuietIn
import Derived.Laws.StructEq
namespace Go.Proofs.YtgcplndmhlideaaGreat.Nm
open Go.RowKit
attribute [local go_sem] Oper.semAt_some

abbrev encP (x : (Pr Nm)) : Array Value := #[.int .u64 (x.k : Int), .agg #[.int .i64 x.v.v, .int .i64 x.v.n]]

/-- What a round that is told a pair does: it goes on, or it has said that no more is wanted. -/
def Round (W0 : World) (J Jx : List (Pr Nm) → World → Prop) (xs : List (Pr Nm)) (e : Ending) (W' : World) : Prop :=
  ∃ q : Bool, e = .returned (.bool q) ∧ (q = true → J xs W' ∧ Ext W0 W') ∧ (q = false → Jx xs W')
def WalkPost (W0 : World) (J Jx : List (Pr Nm) → World → Prop) (pre l : List (Pr Nm)) (e : Ending) (W' : World) : Prop :=
  ∃ q : Bool, e = .returned (.bool q) ∧ (q = true → J (pre ++ l) W' ∧ Ext W0 W') ∧ (q = false → ∃ u, u <+: l ∧ Jx (pre ++ u) W')

theorem deep (k : Nat) : (Fence.wide.depth.isSome = true → 1 ≤ k) := fun h => by cases h

set_option maxRecDepth 100000 in
set_option maxHeartbeats 2000000 in
theorem walk_leaf (l N : Nat) (W0 : World) (J Jx : List (Pr Nm) → World → Prop) (hJd : ∀ pre W W', J pre W → Ext W W' → J pre W')
    (hY : ∀ m pre x W, J pre W → pre.length < N → Ext W0 W → YieldAt Fence.wide m Tryz.prog l (encP x) W (Round W0 J Jx (pre ++ [x])))
    (n k b k' : Nat) (v' : Nm) (pre : List (Pr Nm)) (W : World) (h : Cells W b k' v'.v v'.n (-1) none none 1 0) (hx : Ext W0 W) (hJ : J pre W) (hN : pre.length + 1 ≤ N) (hlt : ¬ k' < k) :
    CallsIn Fence.wide n Tryz.prog 59 #[.pointer (some ⟨b, 0, none⟩), .int .u64 k, .func (.yield l) #[] #[]] W (WalkPost W0 J Jx pre [⟨k', v'⟩]) := by
  have hdr : Ext W W.drew := (Ext.refl _).drew
  have hc := h.ext hdr
  have hyy := hY (n - 1) pre ⟨k', v'⟩ W.drew (hJd _ _ _ hJ hdr) (by omega) (hx.trans hdr)
  obtain ⟨fn, tmps, assign, body, hy, hR⟩ := hyy
  have hd : decide (k' < k) = false := by simpa using hlt
  obtain ⟨c0, c1, c1b, c2, c3, c4, c5, c6, cb⟩ := h
  clear cb hlt hJ hJd hY
  refine callsIn_of_wp Tryz.func59 rfl trivial ?_ rfl
  simp only [Tryz.ntmps59, List.size_toArray, List.length_cons, List.length_nil, Nat.reduceAdd, Nat.reduceSub, Array.replicate_succ, Array.replicate_zero, List.push_toArray, List.append_toArray, List.nil_append, List.cons_append]
  gi_wp2
  refine wpIn_region_still_tail 16 (by kernel_rfl) (by kernel_rfl) ?_
  simp only [List.take_succ_cons, List.take_zero, List.drop_succ_cons, List.drop_zero]
  iterate 16 still_step
  refine wpStill_nil ?_
  gi_wp2_with ((try refine ⟨deep _, ?_⟩); refine hR.mono ?_; rintro e W2 ⟨q, rfl, h1, h2⟩)
  go_ret
  exact ⟨q, rfl, h1, fun e => ⟨_, List.prefix_refl _, h2 e⟩⟩

set_option maxRecDepth 100000 in
theorem walk_low (k b k' : Nat) (v' : Nm) (W : World) (h : Cells W b k' v'.v v'.n (-1) none none 1 0) (y : Value) (hlt : k' < k) :
    Calls Tryz.prog 59 #[.pointer (some ⟨b, 0, none⟩), .int .u64 k, y] W fun e w' => e = .returned (.bool true) ∧ Ext W w' := by
  have hd : decide (k' < k) = true := by simpa using hlt
  obtain ⟨c0, c1, c1b, c2, c3, c4, c5, c6, cb⟩ := h
  clear cb hlt
  go_enter Tryz.func59, Tryz.ntmps59
  go_wp2_with fail
  go_quiet (fail)
  go_wp2
  go_ret
  exact ⟨rfl, (Ext.refl W).drewN _⟩

theorem walk_nil (k : Int) (W : World) (y : Value) : Calls Tryz.prog 59 #[.pointer none, .int .u64 k, y] W fun e w' => e = .returned (.bool true) ∧ Ext W w' := by
  go_enter Tryz.func59, Tryz.ntmps59
  go_wp2_with fail
  go_ret
  exact ⟨rfl, Ext.refl W⟩

theorem key_div (pr i : Nat) : ((pr * 2 ^ (i + 1) : Nat) : Int) / 2 ^ i / 2 = (pr : Int) := by
  have e2 : (((pr * 2 ^ (i + 1) : Nat) : Int) / 2 ^ i / 2) = ((pr * 2 ^ (i + 1) / 2 ^ i / 2 : Nat) : Int) := by simp
  have e3 : pr * 2 ^ (i + 1) / 2 ^ i / 2 = pr := by rw [← div_succ]; exact Nat.mul_div_cancel _ (Nat.two_pow_pos _)
  rw [e2, e3]

set_option maxRecDepth 100000 in
theorem walk_past (k b pr i : Nat) (zp op : Option Addr) (m d : Int) (W : World) (h : Cells W b ((pr * 2 ^ (i + 1) : Nat) : Int) 0 0 i zp op m d) (hi : i < 64) (y : Value) (hlt : pr < k / 2 ^ i / 2) :
    Calls Tryz.prog 59 #[.pointer (some ⟨b, 0, none⟩), .int .u64 k, y] W fun e w' => e = .returned (.bool true) ∧ Ext W w' := by
  have hd : ((pr * 2 ^ (i + 1) : Nat) : Int) / 2 ^ i / 2 < (k : Int) / 2 ^ i / 2 := by
    have e1 : ((k : Int) / 2 ^ i / 2) = ((k / 2 ^ i / 2 : Nat) : Int) := by simp
    rw [key_div, e1]; omega
  generalize ((pr * 2 ^ (i + 1) : Nat) : Int) = key at *
  obtain ⟨c0, c1, c1b, c2, c3, c4, c5, c6, cb⟩ := h
  clear cb hlt
  go_enter Tryz.func59, Tryz.ntmps59
  go_wp2_with fail
  go_quiet (fail)
  go_wp2
  go_ret
  exact ⟨rfl, (Ext.refl W).drewN _⟩
end Go.Proofs.YtgcplndmhlideaaGreat.Nm

namespace Go.Proofs.YtgcplndmhlideaaGreat.Nm
open Go.RowKit
attribute [local go_sem] Oper.semAt_some

set_option maxRecDepth 100000 in
set_option maxHeartbeats 2000000 in
theorem walk_br (l : Nat) (W0 : World) (J Jx : List (Pr Nm) → World → Prop) (hJd : ∀ pre W W', J pre W → Ext W W' → J pre W')
    (n k b pr i : Nat) (zp op : Option Addr) (m d : Int) (lz lo pre : List (Pr Nm)) (W : World) (h : Cells W0 b ((pr * 2 ^ (i + 1) : Nat) : Int) 0 0 i zp op m d) (hx : Ext W0 W) (hJ : J pre W) (hi : i < 64) (hge : ¬ pr < k / 2 ^ i / 2)
    (ih1 : ∀ n W, J pre W → Ext W0 W → CallsIn Fence.wide n Tryz.prog 59 #[.pointer zp, .int .u64 k, .func (.yield l) #[] #[]] W (WalkPost W0 J Jx pre lz))
    (ih2 : ∀ n W, J (pre ++ lz) W → Ext W0 W → CallsIn Fence.wide n Tryz.prog 59 #[.pointer op, .int .u64 k, .func (.yield l) #[] #[]] W (WalkPost W0 J Jx (pre ++ lz) lo)) :
    CallsIn Fence.wide n Tryz.prog 59 #[.pointer (some ⟨b, 0, none⟩), .int .u64 k, .func (.yield l) #[] #[]] W (WalkPost W0 J Jx pre (lz ++ lo)) := by
  have hd : ¬ ((pr * 2 ^ (i + 1) : Nat) : Int) / 2 ^ i / 2 < (k : Int) / 2 ^ i / 2 := by
    have e1 : ((k : Int) / 2 ^ i / 2) = ((k / 2 ^ i / 2 : Nat) : Int) := by simp
    rw [key_div, e1]; omega
  have hi0 : ¬ ((i : Int) < 0) := by omega
  have hdr : Ext W W.drew := (Ext.refl _).drew
  have k1 : CallsIn Fence.wide (n - 1) Tryz.prog 59 #[.pointer zp, .int .u64 k, .func (.yield l) #[] #[]] W.drew (fun e W2 =>
      (e = .returned (.bool true) ∧ W2.cell? ⟨b, 5, none⟩ = some (.pointer op) ∧ CallsIn Fence.wide (n - 1) Tryz.prog 59 #[.pointer op, .int .u64 k, .func (.yield l) #[] #[]] W2 (WalkPost W0 J Jx (pre ++ lz) lo)) ∨
      (e = .returned (.bool false) ∧ ∃ u, u <+: lz ∧ Jx (pre ++ u) W2)) := (ih1 (n - 1) W.drew (hJd _ _ _ hJ hdr) (hx.trans hdr)).mono fun e W2 ⟨q, he, h1, h2⟩ => by
    cases q
    · exact .inr ⟨he, h2 rfl⟩
    · exact .inl ⟨he, (h1 rfl).2.cell h.c4, ih2 _ _ (h1 rfl).1 (h1 rfl).2⟩
  generalize ((pr * 2 ^ (i + 1) : Nat) : Int) = key at *
  obtain ⟨c0, c1, c1b, c2, c3, c4, c5, c6, cb⟩ := h.ext hx
  clear cb hJ hge ih1 ih2 h hJd c1 c1b c5 c6
  refine callsIn_of_wp Tryz.func59 rfl trivial ?_ rfl
  simp only [Tryz.ntmps59, List.size_toArray, List.length_cons, List.length_nil, Nat.reduceAdd, Nat.reduceSub, Array.replicate_succ, Array.replicate_zero, List.push_toArray, List.append_toArray, List.nil_append, List.cons_append]
  gi_wp2
  refine wpIn_region_still_tail 17 (by kernel_rfl) (by kernel_rfl) ?_
  simp only [List.take_succ_cons, List.take_zero, List.drop_succ_cons, List.drop_zero]
  iterate 17 still_step
  refine wpStill_nil ?_
  gi_wp2_with (first
    | (refine ⟨trivial, deep _, ?_⟩; gi_at_call 59; refine k1.mono ?_; clear k1; rintro e W2 (⟨rfl, c4', k2⟩ | ⟨rfl, u, hu, hjx⟩))
    | (refine ⟨trivial, deep _, ?_⟩; gi_at_call 59; refine k2.mono ?_; clear k2; rintro e W3 ⟨q, rfl, h1, h2⟩))
  · go_ret
    refine ⟨q, rfl, fun e => ⟨by rw [← List.append_assoc]; exact (h1 e).1, (h1 e).2⟩, fun e => ?_⟩
    obtain ⟨u, ⟨r, hu⟩, hj⟩ := h2 e
    exact ⟨lz ++ u, ⟨r, by rw [List.append_assoc, hu]⟩, by rw [← List.append_assoc]; exact hj⟩
  · refine ⟨trivial, ?_⟩
    gi_wp2
    go_ret
    obtain ⟨r, hu⟩ := hu
    exact ⟨false, rfl, fun e => (by cases e), fun _ => ⟨u, ⟨r ++ lo, by rw [← hu, List.append_assoc]⟩, hjx⟩⟩

theorem walk_all (l N k : Nat) (W0 : World) (J Jx : List (Pr Nm) → World → Prop) (hJd : ∀ pre W W', J pre W → Ext W W' → J pre W')
    (hY : ∀ m pre x W, J pre W → pre.length < N → Ext W0 W → YieldAt Fence.wide m Tryz.prog l (encP x) W (Round W0 J Jx (pre ++ [x]))) : ∀ (t : (Nd Nm)) (p : Option Addr), At W0 p t → t.WF → ∀ (n : Nat) (pre : List (Pr Nm)) (W : World), Ext W0 W → J pre W → pre.length + (t.from k).length ≤ N →
      CallsIn Fence.wide n Tryz.prog 59 #[.pointer p, .int .u64 k, .func (.yield l) #[] #[]] W (WalkPost W0 J Jx pre (t.from k)) := by
  intro t
  induction t with
  | leaf k' v' =>
    rintro p ⟨b, rfl, h⟩ _ n pre W hx hJ hN
    by_cases hlt : k' < k
    · have e : (Nd.leaf k' v').from k = [] := by simp [Nd.from, hlt]
      rw [e]
      refine callsIn_wide.2 ((walk_low k b k' v' W (h.ext hx) _ hlt).mono fun e W' ⟨he, hx'⟩ => ⟨true, he, fun _ => ⟨by simpa using hJd _ _ _ hJ hx', hx.trans hx'⟩, fun e => by cases e⟩)
    · have e : (Nd.leaf k' v').from k = [⟨k', v'⟩] := by simp [Nd.from, hlt]
      rw [e] at hN ⊢
      exact walk_leaf l N W0 J Jx hJd hY n k b k' v' pre W (h.ext hx) hx hJ (by simpa using hN) hlt
  | br pr i z o hz ho =>
    rintro p ⟨b, zp, op, rfl, h, h1, h2⟩ ⟨w0, w1, w2, _, _⟩ n pre W hx hJ hN
    have hkey : (Nd.br pr i z o).key = pr * 2 ^ (i + 1) := rfl
    rw [hkey] at h
    by_cases hlt : pr < k / 2 ^ i / 2
    · have e : (Nd.br pr i z o).from k = [] := by simp [Nd.from, hlt]
      rw [e]
      refine callsIn_wide.2 ((walk_past k b pr i zp op _ _ W (h.ext hx) w0 _ hlt).mono fun e W' ⟨he, hx'⟩ => ⟨true, he, fun _ => ⟨by simpa using hJd _ _ _ hJ hx', hx.trans hx'⟩, fun e => by cases e⟩)
    · have e : (Nd.br pr i z o).from k = z.from k ++ o.from k := by simp [Nd.from, hlt]
      rw [e] at hN ⊢
      simp only [List.length_append] at hN
      exact walk_br l W0 J Jx hJd n k b pr i zp op _ _ _ _ pre W h hx hJ w0 hlt (fun n W hj hx => hz _ h1 w1 n pre W hx hj (by omega)) (fun n W hj hx => ho _ h2 w2 n _ W hx hj (by simp; omega))

def fromO (k : Nat) : Option (Nd Nm) → List (Pr Nm)
  | none => []
  | some t => t.from k

theorem room_wide' (k : Nat) : Fence.wide.room k := fun d h => by cases h
theorem yield_any {m : Nat} (m' : Nat) {P : Program} {l : Nat} {args : Array Value} {W : World} {R : Ending → World → Prop} (h : YieldAt Fence.wide m P l args W R) : YieldAt Fence.wide m' P l args W R := by
  obtain ⟨fn, tmps, assign, body, hy, hR⟩ := h
  exact ⟨fn, tmps, assign, body, hy, hR.1, fun c cs _ => hR.2 c cs (room_wide' _)⟩

/-- What From hands back, and All: the map and the number, each in a variable of its own. -/
def SeqAt (w : World) (p : Option Addr) (k : Nat) (v : Value) : Prop :=
  ∃ bm bk, v = .func (.func 58) #[] #[.pointer (some ⟨bm, 0, none⟩), .pointer (some ⟨bk, 0, none⟩)] ∧ w.heap[bm]? = some (.cells #[.pointer p] 75 (0, 0)) ∧ w.heap[bk]? = some (.cells #[.int .u64 k] 82 (0, 0))
theorem SeqAt.ext {w w' : World} {p : Option Addr} {k : Nat} {v : Value} (h : SeqAt w p k v) (hx : Ext w w') : SeqAt w' p k v := by
  obtain ⟨bm, bk, hv, h1, h2⟩ := h
  exact ⟨bm, bk, hv, hx.block h1, hx.block h2⟩
def FromPost (w : World) (p : Option Addr) (k : Nat) (e : Ending) (w' : World) : Prop := ∃ v, e = .returned v ∧ SeqAt w' p k v ∧ Ext w w'

theorem from_calls (p : Option Addr) (k : Nat) (w : World) : Calls Tryz.prog 39 #[.agg #[.pointer p], .int .u64 k] w (FromPost w p k) := by
  have hmf : ∀ (fn : Fn) (first cap : Array Value) (w : World), (Instr.makeFunc fn first cap).run Tryz.prog w = .ok (.func fn first cap) w := fun _ _ _ _ => rfl
  go_enter Tryz.func39, Tryz.ntmps39
  go_wp2
  go_ret
  have hx1 : Ext w (w.alloc (.cells #[.pointer p] 75)) := (Ext.refl w).alloc _
  have hx2 : Ext (w.alloc (.cells #[.pointer p] 75)) ((w.alloc (.cells #[.pointer p] 75)).alloc (.cells #[.int .u64 k] 82)) := (Ext.refl _).alloc _
  refine ⟨_, rfl, ⟨w.heap.size, w.heap.size + 1, rfl, hx2.block (heap_alloc_new w _), ?_⟩, hx1.trans hx2⟩
  have := heap_alloc_new (w.alloc (.cells #[.pointer p] 75)) (.cells #[.int .u64 k] 82)
  simpa using this
set_option maxHeartbeats 1000000 in
theorem from1_in (l N k : Nat) (W0 : World) (J Jx : List (Pr Nm) → World → Prop) (hJd : ∀ pre W W', J pre W → Ext W W' → J pre W')
    (hY : ∀ m pre x W, J pre W → pre.length < N → Ext W0 W → YieldAt Fence.wide m Tryz.prog l (encP x) W (Round W0 J Jx (pre ++ [x]))) (t : Option (Nd Nm)) (p : Option Addr) (hp : AtO W0 p t) (hwf : Nd.oWF t) (bm bk : Nat)
    (n : Nat) (W : World) (hx : Ext W0 W) (h1 : W.heap[bm]? = some (.cells #[.pointer p] 75 (0, 0))) (h2 : W.heap[bk]? = some (.cells #[.int .u64 k] 82 (0, 0))) (hJ : J [] W) (hN : (fromO k t).length ≤ N) :
    CallsIn Fence.wide n Tryz.prog 58 #[.func (.yield l) #[] #[], .pointer (some ⟨bm, 0, none⟩), .pointer (some ⟨bk, 0, none⟩)] W fun e W' => (∃ v, e = .returned v) ∧
      ((∃ ys, ys = fromO k t ∧ J ys W') ∨ (∃ pre, pre <+: fromO k t ∧ Jx pre W')) := by
  have hw : CallsIn Fence.wide (n - 1) Tryz.prog 59 #[.pointer p, .int .u64 k, .func (.yield l) #[] #[]] W (WalkPost W0 J Jx [] (fromO k t)) := by
    cases t with
    | none =>
      obtain rfl : p = none := hp
      exact callsIn_wide.2 ((walk_nil k W _).mono fun e W' ⟨he, hx'⟩ => ⟨true, he, fun _ => ⟨hJd _ _ _ hJ hx', hx.trans hx'⟩, fun e => by cases e⟩)
    | some t => exact walk_all l N k W0 J Jx hJd hY t p hp hwf (n - 1) [] W hx hJ (by simpa [fromO] using hN)
  have m0 : W.cell? ⟨bm, 0, none⟩ = some (.pointer p) := by rw [cell_of_row W bm 0 _ _ _ h1]; rfl
  have k0 : W.cell? ⟨bk, 0, none⟩ = some (.int .u64 k) := by rw [cell_of_row W bk 0 _ _ _ h2]; rfl
  clear h1 h2 hp hwf hJ hN hJd hY
  refine callsIn_of_wp Tryz.func58 rfl trivial ?_ rfl
  simp only [Tryz.ntmps58, List.size_toArray, List.length_cons, List.length_nil, Nat.reduceAdd, Nat.reduceSub, Array.replicate_succ, Array.replicate_zero, List.push_toArray, List.append_toArray, List.nil_append, List.cons_append]
  gi_wp2_with (refine ⟨trivial, deep _, ?_⟩; gi_at_call 59; refine hw.mono ?_; clear hw; rintro e W1 ⟨q, rfl, h1, h2⟩)
  go_end0
  cases q
  · obtain ⟨u, hu, hj⟩ := h2 rfl
    exact ⟨⟨_, rfl⟩, .inr ⟨u, hu, by simpa using hj⟩⟩
  · exact ⟨⟨_, rfl⟩, .inl ⟨_, rfl, by simpa using (h1 rfl).1⟩⟩

/-- What From hands back, as a loop takes it. -/
theorem from_stops (k : Nat) (W0 : World) (t : Option (Nd Nm)) (p : Option Addr) (hp : AtO W0 p t) (hwf : Nd.oWF t) (bm bk : Nat) (n : Nat) (w : World) (hx : Ext W0 w)
    (h1 : w.heap[bm]? = some (.cells #[.pointer p] 75 (0, 0))) (h2 : w.heap[bk]? = some (.cells #[.int .u64 k] 82 (0, 0))) :
    SeqStopsK Fence.wide n Tryz.prog 58 #[.pointer (some ⟨bm, 0, none⟩), .pointer (some ⟨bk, 0, none⟩)] encP (Below W0.heap.size) (fun ys => ys = fromO k t) (fun pre => pre <+: fromO k t) (fromO k t).length w := by
  intro l J Jx W hW hJ _ hY h0
  refine from1_in l (fromO k t).length k W0 J Jx ?_ ?_ t p hp hwf bm bk n W (hx.trans hW) (Ext.block hW h1) (Ext.block hW h2) h0 (Nat.le_refl _)
  · intro pre A B hj hab
    exact hJ pre A B none hj ⟨hab.os, hab.tape, hab.output, hab.size, fun k hk _ => Below.block hab k hk⟩ (fun r e => by cases e)
  · intro m pre x A hj hl hA
    refine yield_any m ((hY pre x A hj hl).mono fun e B h => ?_)
    rcases h with ⟨he, hj', hk⟩ | ⟨he, hj'⟩
    · exact ⟨true, he, fun _ => ⟨hj', Below.trans hA hk⟩, fun e => by cases e⟩
    · exact ⟨false, he, fun e => (by cases e), fun _ => hj'⟩
end Go.Proofs.YtgcplndmhlideaaGreat.Nm

namespace Go.Proofs.YtgcplndmhlideaaGreat.Nm
open Go.RowKit

/-- A step that turns no node. -/
def Nodes (w w' : World) : Prop := ∀ (g : Nat) (cs : Array Value), w.heap[g]? = some (.cells cs 148 (0, 0)) → w'.heap[g]? = some (.cells cs 148 (0, 0))
theorem At.keep {w w' : World} (hk : Nodes w w') : ∀ {t : (Nd Nm)} {p : Option Addr}, At w p t → At w' p t := by
  intro t
  induction t with
  | leaf k v => rintro p ⟨b, e, h⟩; exact ⟨b, e, Cells.of_block (hk _ _ h.blk)⟩
  | br pr i z o hz ho => rintro p ⟨b, zp, op, e, h, h1, h2⟩; exact ⟨b, zp, op, e, Cells.of_block (hk _ _ h.blk), hz h1, ho h2⟩
theorem AtO.keep {w w' : World} (hk : Nodes w w') {p : Option Addr} {t : Option (Nd Nm)} (h : AtO w p t) : AtO w' p t := by
  cases t with
  | none => exact h
  | some t => exact At.keep hk h
theorem nodes_set {w : World} {b : Nat} {cs : Array Value} {t : TypeId} {fr : Nat × Nat} (h : w.heap[b]? = some (.cells cs t fr)) (ht : t ≠ 148) (j : Nat) (u : Value) : Nodes w (w.setCell ⟨b, j, none⟩ u) := by
  intro g ds hg
  refine (Below.heap_setCell w ⟨b, j, none⟩ u g ?_).trans hg
  rintro rfl
  rw [h] at hg
  injection hg with hg
  injection hg with _ hg
  exact ht hg

/-- A map of numbers, whole. -/
def MapIs (w : World) (p : Option Addr) (t : Option (Nd Nm)) : Prop := AtO w p t ∧ Nd.oWF t ∧ (Nd.oL t).length ≤ 1000
theorem MapIs.ext {w w' : World} {p : Option Addr} {t : Option (Nd Nm)} (hx : Ext w w') (h : MapIs w p t) : MapIs w' p t := ⟨h.1.ext hx, h.2⟩
def putO (k : Nat) (v : Nm) : Option (Nd Nm) → (Nd Nm)
  | none => .leaf k v
  | some t => t.put k v
def dropO (k : Nat) : Option (Nd Nm) → Option (Nd Nm)
  | none => none
  | some t => t.drop k
def MapPost (w : World) (t : Option (Nd Nm)) (e : Ending) (w' : World) : Prop := ∃ p, e = .returned (.agg #[.pointer p]) ∧ AtO w' p t ∧ Ext w w'

theorem mput_calls (p : Option Addr) (t : Option (Nd Nm)) (k : Nat) (v : Nm) (w : World) (h : MapIs w p t) (hk : k < 2 ^ 64) :
    Calls Tryz.prog 38 #[.agg #[.pointer p], .int .u64 k, .agg #[.int .i64 v.v, .int .i64 v.n]] w (MapPost w (some (putO k v t))) := by
  have hx0 : Ext w (((w.alloc (.cells #[.pointer p] 75)).alloc (.cells #[.int .i64 v.v, .int .i64 v.n] 49)).alloc (.cells #[.pointer none] 75)) := (((Ext.refl w).alloc _).alloc _).alloc _
  have hc : Calls Tryz.prog 57 #[.pointer p, .int .u64 k, .agg #[.int .i64 v.v, .int .i64 v.n]] (((w.alloc (.cells #[.pointer p] 75)).alloc (.cells #[.int .i64 v.v, .int .i64 v.n] 49)).alloc (.cells #[.pointer none] 75)) (NodePost (((w.alloc (.cells #[.pointer p] 75)).alloc (.cells #[.int .i64 v.v, .int .i64 v.n] 49)).alloc (.cells #[.pointer none] 75)) (putO k v t)) := by
    obtain ⟨h1, h2, h3⟩ := h
    cases t with
    | none => obtain rfl : p = none := h1; exact put_new none k v _ (.inl rfl)
    | some t => exact put_calls k v hk t p _ (At.ext hx0 h1) h2 (by rw [Nd.many_eq]; have : (Nd.oL (some t)) = t.toL := rfl; rw [this] at h3; omega)
  have HC := hide hc
  clear hc h
  go_enter Tryz.func38, Tryz.ntmps38
  go_wp2_with fail
  refine (unhide HC).mono ?_
  rintro e w1 ⟨b, rfl, hat, hx⟩
  have hblk : w1.heap[w.heap.size + 1 + 1]? = some (.cells #[.pointer none] 75 (0, 0)) := by
    have := hx.block (heap_alloc_new ((w.alloc (.cells #[.pointer p] 75)).alloc (.cells #[.int .i64 v.v, .int .i64 v.n] 49)) (.cells #[.pointer none] 75))
    simpa using this
  have hs := hx.size
  simp only [World.size_alloc] at hs
  have c0 : w1.cell? ⟨w.heap.size + 1 + 1, 0, none⟩ = some (.pointer none) := by rw [cell_of_row _ _ 0 _ _ _ hblk]; rfl
  have f0 : w1.frozen? ⟨w.heap.size + 1 + 1, 0, none⟩ = false := by simp [World.frozen?, hblk]
  have hx2 := hx0.trans hx
  go_wp2
  have h3 : (w1.setCell ⟨w.heap.size + 1 + 1, 0, none⟩ (.pointer (some ⟨b, 0, none⟩))).cell? ⟨w.heap.size + 1 + 1, 0, none⟩ = some (.pointer (some ⟨b, 0, none⟩)) := by
    rw [cell_of_row _ _ 0 _ _ _ (heap_setCell_same w1 _ 0 _ 75 _ hblk)]; rfl
  exact bodyPost_ret (v := .agg #[.pointer (some ⟨b, 0, none⟩)]) (by simp [results, Tryz.results38, go_sem, h3]) rfl
    ⟨_, rfl, At.keep (nodes_set hblk (by decide) 0 _) hat, hx2.setCell (p := ⟨w.heap.size + 1 + 1, 0, none⟩) (by show w.heap.size ≤ w.heap.size + 1 + 1; omega) _⟩

theorem mdrop_calls (p : Option Addr) (t : Option (Nd Nm)) (k : Nat) (w : World) (h : MapIs w p t) (hk : k < 2 ^ 64) :
    Calls Tryz.prog 41 #[.agg #[.pointer p], .int .u64 k] w (MapPost w (dropO k t)) := by
  have hx0 : Ext w ((w.alloc (.cells #[.pointer p] 75)).alloc (.cells #[.pointer none] 75)) := ((Ext.refl w).alloc _).alloc _
  have hc : Calls Tryz.prog 60 #[.pointer p, .int .u64 k] ((w.alloc (.cells #[.pointer p] 75)).alloc (.cells #[.pointer none] 75)) (OPost ((w.alloc (.cells #[.pointer p] 75)).alloc (.cells #[.pointer none] 75)) (dropO k t)) := by
    obtain ⟨h1, h2, h3⟩ := h
    cases t with
    | none => obtain rfl : p = none := h1; exact drop_nil k _
    | some t => exact drop_calls k hk t p _ (At.ext hx0 h1) h2 (by rw [Nd.many_eq]; have : (Nd.oL (some t)) = t.toL := rfl; rw [this] at h3; omega)
  have HC := hide hc
  clear hc h
  go_enter Tryz.func41, Tryz.ntmps41
  go_wp2_with fail
  refine (unhide HC).mono ?_
  rintro e w1 ⟨q, rfl, hat, hx⟩
  have hs := hx.size
  simp only [World.size_alloc] at hs
  have c0 : w1.cell? ⟨w.heap.size + 1, 0, none⟩ = some (.pointer none) := hx.cell (by simp)
  have f0 : w1.frozen? ⟨w.heap.size + 1, 0, none⟩ = false := by rw [hx.frozen (by simp)]; simp
  have hx2 := hx0.trans hx
  go_wp2
  have hblk : w1.heap[w.heap.size + 1]? = some (.cells #[.pointer none] 75 (0, 0)) := by
    have := hx.block (heap_alloc_new (w.alloc (.cells #[.pointer p] 75)) (.cells #[.pointer none] 75))
    simpa using this
  have h3 : (w1.setCell ⟨w.heap.size + 1, 0, none⟩ (.pointer q)).cell? ⟨w.heap.size + 1, 0, none⟩ = some (.pointer q) := by
    rw [cell_of_row _ _ 0 _ _ _ (heap_setCell_same w1 _ 0 _ 75 _ hblk)]; rfl
  exact bodyPost_ret (v := .agg #[.pointer q]) (by simp [results, Tryz.results41, go_sem, h3]) rfl
    ⟨_, rfl, AtO.keep (nodes_set hblk (by decide) 0 _) hat, hx2.setCell (p := ⟨w.heap.size + 1, 0, none⟩) (by simp) _⟩

end Go.Proofs.YtgcplndmhlideaaGreat.Nm
