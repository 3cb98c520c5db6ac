/- At index.item: the contract of a node's walk where the body turns a block that holds no node. -/
import Derived.Test.YtgcplndmhlideaaGreatIxd
import Derived.RangeFuncBox
namespace Go.Proofs.YtgcplndmhlideaaGreat
open Go.RowKit

/-- Of the blocks before n₀ only o may have turned. -/
structure Kq (o n₀ : Nat) (w w' : World) : Prop where
  os : w'.os = w.os
  tape : w'.tape = w.tape
  output : w'.output = w.output
  size : w.heap.size ≤ w'.heap.size
  block : ∀ k, k < n₀ → k ≠ o → w'.heap[k]? = w.heap[k]?
theorem Kq.refl (o n₀ : Nat) (w : World) : Kq o n₀ w w := ⟨rfl, rfl, rfl, Nat.le_refl _, fun _ _ _ => rfl⟩
theorem Kq.trans {o n₀ : Nat} {a b c : World} (h : Kq o n₀ a b) (k : Kq o n₀ b c) : Kq o n₀ a c :=
  ⟨k.os.trans h.os, k.tape.trans h.tape, k.output.trans h.output, Nat.le_trans h.size k.size, fun i hi hne => (k.block i hi hne).trans (h.block i hi hne)⟩
theorem Kq.of_ext {o n₀ : Nat} {w w' : World} (h : Ext w w') (hn : n₀ ≤ w.heap.size) : Kq o n₀ w w' := ⟨h.os, h.tape, h.output, h.size, fun k hk _ => Below.block h k (by omega)⟩
theorem Kq.alloc {o n₀ : Nat} {a b : World} (h : Kq o n₀ a b) (hn : n₀ ≤ a.heap.size) (x : Obj) : Kq o n₀ a (b.alloc x) :=
  h.trans (Kq.of_ext ((Ext.refl b).alloc x) (Nat.le_trans hn h.size))
theorem Kq.cell {o n₀ : Nat} {w w' : World} (h : Kq o n₀ w w') {p : Addr} (hp : p.block < n₀) (hne : p.block ≠ o) : w'.cell? p = w.cell? p := World.cell?_of_block (h.block _ hp hne)
theorem kq_t {o n₀ : Nat} {A B C : World} (h : Kq o n₀ A B) (k : Kq o n₀ B C) : Kq o n₀ A C := h.trans k
theorem kq_grown {o n₀ : Nat} {w w' : World} {row : Option Nat} (hg : w.grownBy w' row) (hn : n₀ ≤ w.heap.size) (hr : ∀ r, row = some r → n₀ ≤ r ∨ r = o) : Kq o n₀ w w' :=
  ⟨hg.os, hg.tape, hg.output, hg.size, fun k hk hne => hg.block k (by omega) (fun e => by rcases hr k e.symm with h | h <;> omega)⟩
theorem kq_b {o n₀ : Nat} {w : World} (hn : n₀ ≤ w.heap.size) (W : World) (l : Nat) (x x' : Obj) (hl : w.heap.size ≤ l) (h : W.heap[l]? = some x) (_ : x.isCells = false) (_ : x.isWalk = false) : Kq o n₀ W (W.putObj l x') :=
  kq_grown (grownBy_putObj' W l x') (by have := (Array.getElem?_eq_some_iff.1 h).1; omega) (fun k e => by cases e; exact .inl (by omega))
theorem ownFrom_kq {β : Type} {o n₀ B : Nat} {w₀ : World} (hn : n₀ ≤ w₀.heap.size) (hB : n₀ ≤ B) : OwnFrom B (fun (_ : β) W => Kq o n₀ w₀ W) :=
  fun _ _ _ _ hs hg hr => hs.trans (kq_grown hg (Nat.le_trans hn hs.size) (fun k e => .inl (Nat.le_trans hB (hr k e).1)))
namespace It
attribute [local go_sem] Oper.semAt_some
theorem Cells.kq {w w' : World} {xb b : Nat} {key val va2 bit : Int} {z o : Option Addr} {many depth : Int} (h : Cells w b key val va2 bit z o many depth) (hap : Apt xb w) (hx : Kq xb w.heap.size w w') : Cells w' b key val va2 bit z o many depth := by
  have hb := h.blk
  have hne : b ≠ xb := by
    rintro rfl
    obtain ⟨cs, t, h1, h2, _⟩ := hap
    rw [h1] at hb
    injection hb with hb
    injection hb with _ hb
    exact h2 hb
  exact Cells.of_block ((hx.block b (Array.getElem?_eq_some_iff.1 hb).1 hne).trans hb)
def RoundQ (xb : Nat) (W0 : World) (J Jx : List (Pr It) → World → Prop) (xs : List (Pr It)) (e : Ending) (W' : World) : Prop :=
  ∃ q : Bool, e = .returned (.bool q) ∧ (q = true → J xs W' ∧ Kq xb W0.heap.size W0 W') ∧ (q = false → Jx xs W')
def WalkPostQ (xb : Nat) (W0 : World) (J Jx : List (Pr It) → World → Prop) (pre l : List (Pr It)) (e : Ending) (W' : World) : Prop :=
  ∃ q : Bool, e = .returned (.bool q) ∧ (q = true → J (pre ++ l) W' ∧ Kq xb W0.heap.size W0 W') ∧ (q = false → ∃ u, u <+: l ∧ Jx (pre ++ u) W')

set_option maxRecDepth 100000 in
set_option maxHeartbeats 2000000 in
theorem walkQ_leaf (l N : Nat) (xb : Nat) (W0 : World) (hap : Apt xb W0) (J Jx : List (Pr It) → World → Prop) (hJd : ∀ pre W W', J pre W → Ext W W' → J pre W')
    (hY : ∀ m pre x W, J pre W → pre.length < N → Kq xb W0.heap.size W0 W → YieldAt Fence.wide m Tryz.prog l (encP x) W (RoundQ xb W0 J Jx (pre ++ [x])))
    (n k b k' : Nat) (v' : It) (pre : List (Pr It)) (W : World) (h : Cells W b k' v'.b v'.c (-1) none none 1 0) (hx : Kq xb W0.heap.size W0 W) (hJ : J pre W) (hN : pre.length + 1 ≤ N) (hlt : ¬ k' < k) :
    CallsIn Fence.wide n Tryz.prog 66 #[.pointer (some ⟨b, 0, none⟩), .int .u64 k, .func (.yield l) #[] #[]] W (WalkPostQ xb W0 J Jx pre [⟨k', v'⟩]) := by
  have hdr : Ext W W.drew := (Ext.refl _).drew
  have hc := h.ext hdr
  have hyy := hY (n - 1) pre ⟨k', v'⟩ W.drew (hJd _ _ _ hJ hdr) (by omega) (hx.trans (Kq.of_ext hdr hx.size))
  obtain ⟨fn, tmps, assign, body, hy, hR⟩ := hyy
  have hd : decide (k' < k) = false := by simpa using hlt
  obtain ⟨c0, c1, c1b, c2, c3, c4, c5, c6, cb⟩ := h
  clear cb hlt hJ hJd hY
  refine callsIn_of_wp Tryz.func66 rfl trivial ?_ rfl
  simp only [Tryz.ntmps66, List.size_toArray, List.length_cons, List.length_nil, Nat.reduceAdd, Nat.reduceSub, Array.replicate_succ, Array.replicate_zero, List.push_toArray, List.append_toArray, List.nil_append, List.cons_append]
  gi_wp2
  refine wpIn_region_still_tail 16 (by kernel_rfl) (by kernel_rfl) ?_
  simp only [List.take_succ_cons, List.take_zero, List.drop_succ_cons, List.drop_zero]
  iterate 16 still_step
  refine wpStill_nil ?_
  gi_wp2_with ((try refine ⟨deep _, ?_⟩); refine hR.mono ?_; rintro e W2 ⟨q, rfl, h1, h2⟩)
  go_ret
  exact ⟨q, rfl, h1, fun e => ⟨_, List.prefix_refl _, h2 e⟩⟩


set_option maxRecDepth 100000 in
set_option maxHeartbeats 2000000 in
theorem walkQ_br (l : Nat) (xb : Nat) (W0 : World) (hap : Apt xb W0) (J Jx : List (Pr It) → World → Prop) (hJd : ∀ pre W W', J pre W → Ext W W' → J pre W')
    (n k b pr i : Nat) (zp op : Option Addr) (m d : Int) (lz lo pre : List (Pr It)) (W : World) (h : Cells W0 b ((pr * 2 ^ (i + 1) : Nat) : Int) 0 0 i zp op m d) (hx : Kq xb W0.heap.size W0 W) (hJ : J pre W) (hi : i < 64) (hge : ¬ pr < k / 2 ^ i / 2)
    (ih1 : ∀ n W, J pre W → Kq xb W0.heap.size W0 W → CallsIn Fence.wide n Tryz.prog 66 #[.pointer zp, .int .u64 k, .func (.yield l) #[] #[]] W (WalkPostQ xb W0 J Jx pre lz))
    (ih2 : ∀ n W, J (pre ++ lz) W → Kq xb W0.heap.size W0 W → CallsIn Fence.wide n Tryz.prog 66 #[.pointer op, .int .u64 k, .func (.yield l) #[] #[]] W (WalkPostQ xb W0 J Jx (pre ++ lz) lo)) :
    CallsIn Fence.wide n Tryz.prog 66 #[.pointer (some ⟨b, 0, none⟩), .int .u64 k, .func (.yield l) #[] #[]] W (WalkPostQ xb W0 J Jx pre (lz ++ lo)) := by
  have hd : ¬ ((pr * 2 ^ (i + 1) : Nat) : Int) / 2 ^ i / 2 < (k : Int) / 2 ^ i / 2 := by
    have e1 : ((k : Int) / 2 ^ i / 2) = ((k / 2 ^ i / 2 : Nat) : Int) := by simp
    rw [key_div, e1]; omega
  have hi0 : ¬ ((i : Int) < 0) := by omega
  have hdr : Ext W W.drew := (Ext.refl _).drew
  have k1 : CallsIn Fence.wide (n - 1) Tryz.prog 66 #[.pointer zp, .int .u64 k, .func (.yield l) #[] #[]] W.drew (fun e W2 =>
      (e = .returned (.bool true) ∧ W2.cell? ⟨b, 5, none⟩ = some (.pointer op) ∧ CallsIn Fence.wide (n - 1) Tryz.prog 66 #[.pointer op, .int .u64 k, .func (.yield l) #[] #[]] W2 (WalkPostQ xb W0 J Jx (pre ++ lz) lo)) ∨
      (e = .returned (.bool false) ∧ ∃ u, u <+: lz ∧ Jx (pre ++ u) W2)) := (ih1 (n - 1) W.drew (hJd _ _ _ hJ hdr) (hx.trans (Kq.of_ext hdr hx.size))).mono fun e W2 ⟨q, he, h1, h2⟩ => by
    cases q
    · exact .inr ⟨he, h2 rfl⟩
    · exact .inl ⟨he, (h.kq hap (h1 rfl).2).c4, ih2 _ _ (h1 rfl).1 (h1 rfl).2⟩
  generalize ((pr * 2 ^ (i + 1) : Nat) : Int) = key at *
  obtain ⟨c0, c1, c1b, c2, c3, c4, c5, c6, cb⟩ := h.kq hap hx
  clear cb hJ hge ih1 ih2 h hJd c1 c1b c5 c6
  refine callsIn_of_wp Tryz.func66 rfl trivial ?_ rfl
  simp only [Tryz.ntmps66, List.size_toArray, List.length_cons, List.length_nil, Nat.reduceAdd, Nat.reduceSub, Array.replicate_succ, Array.replicate_zero, List.push_toArray, List.append_toArray, List.nil_append, List.cons_append]
  gi_wp2
  refine wpIn_region_still_tail 17 (by kernel_rfl) (by kernel_rfl) ?_
  simp only [List.take_succ_cons, List.take_zero, List.drop_succ_cons, List.drop_zero]
  iterate 17 still_step
  refine wpStill_nil ?_
  gi_wp2_with (first
    | (refine ⟨trivial, deep _, ?_⟩; gi_at_call 66; refine k1.mono ?_; clear k1; rintro e W2 (⟨rfl, c4', k2⟩ | ⟨rfl, u, hu, hjx⟩))
    | (refine ⟨trivial, deep _, ?_⟩; gi_at_call 66; refine k2.mono ?_; clear k2; rintro e W3 ⟨q, rfl, h1, h2⟩))
  · go_ret
    refine ⟨q, rfl, fun e => ⟨by rw [← List.append_assoc]; exact (h1 e).1, (h1 e).2⟩, fun e => ?_⟩
    obtain ⟨u, ⟨r, hu⟩, hj⟩ := h2 e
    exact ⟨lz ++ u, ⟨r, by rw [List.append_assoc, hu]⟩, by rw [← List.append_assoc]; exact hj⟩
  · refine ⟨trivial, ?_⟩
    gi_wp2
    go_ret
    obtain ⟨r, hu⟩ := hu
    exact ⟨false, rfl, fun e => (by cases e), fun _ => ⟨u, ⟨r ++ lo, by rw [← hu, List.append_assoc]⟩, hjx⟩⟩


theorem walkQ_all (l N k : Nat) (xb : Nat) (W0 : World) (hap : Apt xb W0) (J Jx : List (Pr It) → World → Prop) (hJd : ∀ pre W W', J pre W → Ext W W' → J pre W')
    (hY : ∀ m pre x W, J pre W → pre.length < N → Kq xb W0.heap.size W0 W → YieldAt Fence.wide m Tryz.prog l (encP x) W (RoundQ xb W0 J Jx (pre ++ [x]))) : ∀ (t : (Nd It)) (p : Option Addr), At W0 p t → t.WF → ∀ (n : Nat) (pre : List (Pr It)) (W : World), Kq xb W0.heap.size W0 W → J pre W → pre.length + (t.from k).length ≤ N →
      CallsIn Fence.wide n Tryz.prog 66 #[.pointer p, .int .u64 k, .func (.yield l) #[] #[]] W (WalkPostQ xb W0 J Jx pre (t.from k)) := by
  intro t
  induction t with
  | leaf k' v' =>
    rintro p ⟨b, rfl, h⟩ _ n pre W hx hJ hN
    by_cases hlt : k' < k
    · have e : (Nd.leaf k' v').from k = [] := by simp [Nd.from, hlt]
      rw [e]
      refine callsIn_wide.2 ((walk_low k b k' v' W (h.kq hap hx) _ hlt).mono fun e W' ⟨he, hx'⟩ => ⟨true, he, fun _ => ⟨by simpa using hJd _ _ _ hJ hx', hx.trans (Kq.of_ext hx' hx.size)⟩, fun e => by cases e⟩)
    · have e : (Nd.leaf k' v').from k = [⟨k', v'⟩] := by simp [Nd.from, hlt]
      rw [e] at hN ⊢
      exact walkQ_leaf l N xb W0 hap J Jx hJd hY n k b k' v' pre W (h.kq hap hx) hx hJ (by simpa using hN) hlt
  | br pr i z o hz ho =>
    rintro p ⟨b, zp, op, rfl, h, h1, h2⟩ ⟨w0, w1, w2, _, _⟩ n pre W hx hJ hN
    have hkey : (Nd.br pr i z o).key = pr * 2 ^ (i + 1) := rfl
    rw [hkey] at h
    by_cases hlt : pr < k / 2 ^ i / 2
    · have e : (Nd.br pr i z o).from k = [] := by simp [Nd.from, hlt]
      rw [e]
      refine callsIn_wide.2 ((walk_past k b pr i zp op _ _ W (h.kq hap hx) w0 _ hlt).mono fun e W' ⟨he, hx'⟩ => ⟨true, he, fun _ => ⟨by simpa using hJd _ _ _ hJ hx', hx.trans (Kq.of_ext hx' hx.size)⟩, fun e => by cases e⟩)
    · have e : (Nd.br pr i z o).from k = z.from k ++ o.from k := by simp [Nd.from, hlt]
      rw [e] at hN ⊢
      simp only [List.length_append] at hN
      exact walkQ_br l xb W0 hap J Jx hJd n k b pr i zp op _ _ _ _ pre W h hx hJ w0 hlt (fun n W hj hx => hz _ h1 w1 n pre W hx hj (by omega)) (fun n W hj hx => ho _ h2 w2 n _ W hx hj (by simp; omega))


set_option maxHeartbeats 1000000 in
theorem from1_inQ (l N k : Nat) (xb : Nat) (W0 : World) (hap : Apt xb W0) (J Jx : List (Pr It) → World → Prop) (hJd : ∀ pre W W', J pre W → Ext W W' → J pre W')
    (hY : ∀ m pre x W, J pre W → pre.length < N → Kq xb W0.heap.size W0 W → YieldAt Fence.wide m Tryz.prog l (encP x) W (RoundQ xb W0 J Jx (pre ++ [x]))) (t : Option (Nd It)) (p : Option Addr) (hp : AtO W0 p t) (hwf : Nd.oWF t) (bm bk : Nat)
    (n : Nat) (W : World) (hx : Kq xb W0.heap.size W0 W) (h1 : W.heap[bm]? = some (.cells #[.pointer p] 81 (0, 0))) (h2 : W.heap[bk]? = some (.cells #[.int .u64 k] 82 (0, 0))) (hJ : J [] W) (hN : (fromO k t).length ≤ N) :
    CallsIn Fence.wide n Tryz.prog 65 #[.func (.yield l) #[] #[], .pointer (some ⟨bm, 0, none⟩), .pointer (some ⟨bk, 0, none⟩)] W fun e W' => (∃ v, e = .returned v) ∧
      ((∃ ys, ys = fromO k t ∧ J ys W') ∨ (∃ pre, pre <+: fromO k t ∧ Jx pre W')) := by
  have hw : CallsIn Fence.wide (n - 1) Tryz.prog 66 #[.pointer p, .int .u64 k, .func (.yield l) #[] #[]] W (WalkPostQ xb W0 J Jx [] (fromO k t)) := by
    cases t with
    | none =>
      obtain rfl : p = none := hp
      exact callsIn_wide.2 ((walk_nil k W _).mono fun e W' ⟨he, hx'⟩ => ⟨true, he, fun _ => ⟨hJd _ _ _ hJ hx', hx.trans (Kq.of_ext hx' hx.size)⟩, fun e => by cases e⟩)
    | some t => exact walkQ_all l N k xb W0 hap J Jx hJd hY t p hp hwf (n - 1) [] W hx hJ (by simpa [fromO] using hN)
  have m0 : W.cell? ⟨bm, 0, none⟩ = some (.pointer p) := by rw [cell_of_row W bm 0 _ _ _ h1]; rfl
  have k0 : W.cell? ⟨bk, 0, none⟩ = some (.int .u64 k) := by rw [cell_of_row W bk 0 _ _ _ h2]; rfl
  clear h1 h2 hp hwf hJ hN hJd hY
  refine callsIn_of_wp Tryz.func65 rfl trivial ?_ rfl
  simp only [Tryz.ntmps65, List.size_toArray, List.length_cons, List.length_nil, Nat.reduceAdd, Nat.reduceSub, Array.replicate_succ, Array.replicate_zero, List.push_toArray, List.append_toArray, List.nil_append, List.cons_append]
  gi_wp2_with (refine ⟨trivial, deep _, ?_⟩; gi_at_call 66; refine hw.mono ?_; clear hw; rintro e W1 ⟨q, rfl, h1, h2⟩)
  go_end0
  cases q
  · obtain ⟨u, hu, hj⟩ := h2 rfl
    exact ⟨⟨_, rfl⟩, .inr ⟨u, hu, by simpa using hj⟩⟩
  · exact ⟨⟨_, rfl⟩, .inl ⟨_, rfl, by simpa using (h1 rfl).1⟩⟩


theorem from_stopsQ (k : Nat) (xb : Nat) (W0 : World) (hap : Apt xb W0) (t : Option (Nd It)) (p : Option Addr) (hp : AtO W0 p t) (hwf : Nd.oWF t) (bm bk : Nat) (n : Nat) (w : World) (hx : Ext W0 w)
    (h1 : w.heap[bm]? = some (.cells #[.pointer p] 81 (0, 0))) (h2 : w.heap[bk]? = some (.cells #[.int .u64 k] 82 (0, 0))) :
    SeqStopsK Fence.wide n Tryz.prog 65 #[.pointer (some ⟨bm, 0, none⟩), .pointer (some ⟨bk, 0, none⟩)] encP (Kq xb W0.heap.size) (fun ys => ys = fromO k t) (fun pre => pre <+: fromO k t) (fromO k t).length w := by
  intro l J Jx W hW hJ _ hY h0
  refine from1_inQ l (fromO k t).length k xb W0 hap J Jx ?_ ?_ t p hp hwf bm bk n W (Kq.of_ext (hx.trans hW) (Nat.le_refl _)) (Ext.block hW h1) (Ext.block hW h2) h0 (Nat.le_refl _)
  · intro pre A B hj hab
    exact hJ pre A B none hj ⟨hab.os, hab.tape, hab.output, hab.size, fun k hk _ => Below.block hab k hk⟩ (fun r e => by cases e)
  · intro m pre x A hj hl hA
    refine yield_any m ((hY pre x A hj hl).mono fun e B h => ?_)
    rcases h with ⟨he, hj', hk⟩ | ⟨he, hj'⟩
    · exact ⟨true, he, fun _ => ⟨hj', hA.trans hk⟩, fun e => by cases e⟩
    · exact ⟨false, he, fun e => (by cases e), fun _ => hj'⟩
end It
end Go.Proofs.YtgcplndmhlideaaGreat
