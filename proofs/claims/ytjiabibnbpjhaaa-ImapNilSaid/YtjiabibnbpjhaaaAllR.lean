/- The contract of what Map.All hands back, for a range over it: it tells each run in turn. -/
import Derived.Test.YtjiabibnbpjhaaaOf
import Derived.Test.YtjiabibnbpjhaaaIter
import Derived.RangeFuncBox
import Derived.RangeFuncLeaves
import Derived.RangeFuncCalls
import Derived.RangeFuncBound
import Derived.RangeFuncNested
import Derived.OwnWalkIn
import Derived.TacticsInMore
import Derived.LoopNIn
import Derived.LoopIn
import Derived.Maps.OwnIn
namespace Go.Proofs.Ytjiabibnbpjhaaa.Rg
open Go.RowKit
attribute [local go_sem] Oper.semAt_some

/-- Of the blocks before n₀ only o may have turned. -/
structure Kq (o n₀ : Nat) (w w' : World) : Prop where
  os : w'.os = w.os
  tape : w'.tape = w.tape
  output : w'.output = w.output
  size : w.heap.size ≤ w'.heap.size
  block : ∀ k, k < n₀ → k ≠ o → w'.heap[k]? = w.heap[k]?
theorem Kq.refl (o n₀ : Nat) (w : World) : Kq o n₀ w w := ⟨rfl, rfl, rfl, Nat.le_refl _, fun _ _ _ => rfl⟩
theorem Kq.trans {o n₀ : Nat} {a b c : World} (h : Kq o n₀ a b) (k : Kq o n₀ b c) : Kq o n₀ a c :=
  ⟨k.os.trans h.os, k.tape.trans h.tape, k.output.trans h.output, Nat.le_trans h.size k.size, fun i hi hne => (k.block i hi hne).trans (h.block i hi hne)⟩
theorem Kq.of_ext {o n₀ : Nat} {w w' : World} (h : Ext w w') (hn : n₀ ≤ w.heap.size) : Kq o n₀ w w' := ⟨h.os, h.tape, h.output, h.size, fun k hk _ => Below.block h k (by omega)⟩
theorem Kq.alloc {o n₀ : Nat} {a b : World} (h : Kq o n₀ a b) (hn : n₀ ≤ a.heap.size) (x : Obj) : Kq o n₀ a (b.alloc x) :=
  h.trans (Kq.of_ext ((Ext.refl b).alloc x) (Nat.le_trans hn h.size))
theorem Kq.cell {o n₀ : Nat} {w w' : World} (h : Kq o n₀ w w') {p : Addr} (hp : p.block < n₀) (hne : p.block ≠ o) : w'.cell? p = w.cell? p := World.cell?_of_block (h.block _ hp hne)
theorem kq_t {o n₀ : Nat} {A B C : World} (h : Kq o n₀ A B) (k : Kq o n₀ B C) : Kq o n₀ A C := h.trans k
theorem kq_grown {o n₀ : Nat} {w w' : World} {row : Option Nat} (hg : w.grownBy w' row) (hn : n₀ ≤ w.heap.size) (hr : ∀ r, row = some r → n₀ ≤ r ∨ r = o) : Kq o n₀ w w' :=
  ⟨hg.os, hg.tape, hg.output, hg.size, fun k hk hne => hg.block k (by omega) (fun e => by rcases hr k e.symm with h | h <;> omega)⟩
theorem kq_b {o n₀ : Nat} {w : World} (hn : n₀ ≤ w.heap.size) (W : World) (l : Nat) (x x' : Obj) (hl : w.heap.size ≤ l) (h : W.heap[l]? = some x) (_ : x.isCells = false) (_ : x.isWalk = false) : Kq o n₀ W (W.putObj l x') :=
  kq_grown (grownBy_putObj' W l x') (by have := (Array.getElem?_eq_some_iff.1 h).1; omega) (fun k e => by cases e; exact .inl (by omega))
theorem ownFrom_kq {β : Type} {o n₀ B : Nat} {w₀ : World} (hn : n₀ ≤ w₀.heap.size) (hB : n₀ ≤ B) : OwnFrom B (fun (_ : β) W => Kq o n₀ w₀ W) :=
  fun _ _ _ _ hs hg hr => hs.trans (kq_grown hg (Nat.le_trans hn hs.size) (fun k e => .inl (Nat.le_trans hB (hr k e).1)))
theorem Kq.ext {a b c : World} {o : Nat} (h : Ext a b) (hk : Kq o b.heap.size b c) (ho : a.heap.size ≤ o) : Ext a c :=
  ⟨hk.os.trans h.os, hk.tape.trans h.tape, hk.output.trans h.output, Nat.le_trans h.size hk.size, fun k hk' => (hk.block k (Nat.lt_of_lt_of_le hk' h.size) (by omega)).trans (Below.block h k hk')⟩
theorem grown_of_ext {w w' : World} (h : Ext w w') : w.grownBy w' none := ⟨h.os, h.tape, h.output, h.size, fun k hk _ => Below.block h k hk⟩

/-- A run as Put makes them. -/
def RnOk (r : Rn) : Prop := 0 ≤ r.f ∧ r.f < r.t ∧ r.t ≤ 4611686018427387904
theorem mt_calls (r : Rn) (h : RnOk r) (w : World) :
    Calls Try.prog 48 #[.agg #[.int .i64 r.f, .int .i64 r.t], .agg #[.int .i64 0, .int .i64 4611686018427387904]] w fun e w' => e = .returned (.tuple #[.agg #[.int .i64 r.f, .int .i64 r.t], .bool true]) ∧ Ext w w' := by
  obtain ⟨h1, h2, h3⟩ := h
  have hm := Go.Proofs.Ytjiabibnbpjhaaa.meet_calls r.f r.t 0 4611686018427387904 w
  have e1 : meets r.f r.t 0 4611686018427387904 = true := by simp [meets, Go.Proofs.Ytjiabibnbpjhaaa.rightB]; omega
  have e2 : meetV r.f r.t 0 4611686018427387904 = .agg #[.int .i64 r.f, .int .i64 r.t] := by
    unfold meetV
    rw [e1, show max r.f 0 = r.f by omega, show min r.t 4611686018427387904 = r.t by omega]
    rfl
  rw [e1, e2] at hm
  exact hm

set_option maxRecDepth 100000 in
set_option maxHeartbeats 2000000 in
theorem all1_inR (n : Nat) (hn : 1 ≤ n) (l br bs ob n₀ : Nat) (A : Option Addr) (c : Nat) (zs : List Rn) (hlen : zs.length ≤ 1000000) (hok : ∀ r ∈ zs, RnOk r) (hb : 0 < zs.length → ∀ b o, A = some ⟨b, o, none⟩ → b < n₀ ∧ b ≠ ob) (hbs : bs < n₀ ∧ bs ≠ ob)
    (J Jx : List {r : Rn // r ∈ zs} → World → Prop) (hJ : ∀ pre W W', J pre W → Ext W W' → J pre W')
    (hY : ∀ pre x W, J pre W → pre.length < zs.length → YieldAt Fence.wide (n - 1) Try.prog l #[.agg #[.int .i64 x.1.f, .int .i64 x.1.t], .int .i64 x.1.v] W fun e W' =>
      (e = .returned (.bool true) ∧ J (pre ++ [x]) W' ∧ Kq ob n₀ W W') ∨ (e = .returned (.bool false) ∧ Jx (pre ++ [x]) W'))
    (W : World) (hW : n₀ ≤ W.heap.size) (hBr : W.cell? ⟨br, 0, none⟩ = some (.slice A zs.length c)) (hS0 : W.cell? ⟨bs, 0, none⟩ = some (.int .i64 0)) (hS1 : W.cell? ⟨bs, 1, none⟩ = some (.int .i64 4611686018427387904)) (hS : RunsAt W n₀ A zs) (h0 : J [] W) :
    CallsIn Fence.wide n Try.prog 47 #[.func (.yield l) #[] #[], .pointer (some ⟨br, 0, none⟩), .pointer (some ⟨bs, 0, none⟩)] W fun e W' => (∃ v, e = .returned v) ∧
      ((∃ ys, ys = zs.attach ∧ J ys W') ∨ (∃ pre, pre <+: zs.attach ∧ Jx pre W')) := by
  refine callsIn_of_wp Try.func47 rfl trivial ?_ rfl
  simp only [Try.ntmps47, List.size_toArray, List.length_cons, List.length_nil, Nat.reduceAdd, Nat.reduceSub, Array.replicate_succ, Array.replicate_zero, List.push_toArray, List.append_toArray, List.nil_append, List.cons_append]
  gi_wp2
  gi_loopw [10] (fun i wr => ∃ k : Nat, k ≤ zs.length ∧ i = .int .i64 k ∧ J (zs.attach.take k) wr ∧ Kq ob n₀ W wr)
    (fun i _ => zs.length - (intOf i).toNat)
  case atStart => exact ⟨0, Nat.zero_le _, rfl, h0, Kq.refl _ _ _⟩
  case round =>
    obtain ⟨k, hk, rfl, hJs, hnx⟩ := hrel
    by_cases hlt : k < zs.length
    · obtain ⟨b, hA, _, p0, p1, p2⟩ := hS k hlt
      obtain ⟨hbb, hbo⟩ := hb (by omega) b 0 hA
      subst hA
      replace p0 := (hnx.cell (p := ⟨b, k * 3, none⟩) hbb hbo).trans p0
      replace p1 := (hnx.cell (p := ⟨b, k * 3 + 1, none⟩) hbb hbo).trans p1
      replace p2 := (hnx.cell (p := ⟨b, k * 3 + 2, none⟩) hbb hbo).trans p2
      have s0 := (hnx.cell (p := ⟨bs, 0, none⟩) hbs.1 hbs.2).trans hS0
      have s1 := (hnx.cell (p := ⟨bs, 1, none⟩) hbs.1 hbs.2).trans hS1
      have hts : zs.attach.take (k + 1) = zs.attach.take k ++ [⟨zs[k], List.getElem_mem hlt⟩] := by
        rw [List.take_succ_eq_append_getElem (by simpa using hlt), List.getElem_attach]
      obtain ⟨s, hs⟩ : ∃ s : {r : Rn // r ∈ zs}, s = ⟨zs[k], List.getElem_mem hlt⟩ := ⟨_, rfl⟩
      have hsv : zs[k] = s.1 := by rw [hs]
      rw [← hs] at hts
      rw [hsv] at p0 p1 p2
      have hpf : zs.attach.take k ++ [s] <+: zs.attach := by rw [← hts]; exact List.take_prefix _ _
      have hlk : (zs.attach.take k).length < zs.length := by simp; omega
      have HMT := Lib.hid (fun W' => mt_calls s.1 (hok s.1 s.2) W')
      clear hs hsv
      have HT := Lib.hid hts
      have HP := Lib.hid hpf
      have HY := Lib.hid hY
      have HJS := Lib.hid hJs
      have hn2 : n₀ ≤ wr.heap.size := Nat.le_trans hW hnx.size
      have hxr : Ext wr (wr.alloc (.cells #[.int .i64 s.1.f, .int .i64 s.1.t, .int .i64 s.1.v] 80)) := (Ext.refl wr).alloc _
      have q0 : (wr.alloc (.cells #[.int .i64 s.1.f, .int .i64 s.1.t, .int .i64 s.1.v] 80)).cell? ⟨wr.heap.size, 0, none⟩ = some (.int .i64 s.1.f) := by simp
      have q1 : (wr.alloc (.cells #[.int .i64 s.1.f, .int .i64 s.1.t, .int .i64 s.1.v] 80)).cell? ⟨wr.heap.size, 1, none⟩ = some (.int .i64 s.1.t) := by simp
      have q2 : (wr.alloc (.cells #[.int .i64 s.1.f, .int .i64 s.1.t, .int .i64 s.1.v] 80)).cell? ⟨wr.heap.size, 2, none⟩ = some (.int .i64 s.1.v) := by simp
      have s0' := hxr.cell s0
      have s1' := hxr.cell s1
      clear hts hpf hS hb hBr hY hok
      gi_wp2_with (refine ⟨trivial, ?_⟩; gi_at_call 48; refine (callsIn_wide.2 (HMT.out _)).mono ?_; rintro e w7 ⟨rfl, hx7⟩; have q27 := hx7.cell q2; have q28 := ((Ext.refl w7).alloc (.cells #[.int .i64 s.1.f, .int .i64 s.1.t] 34)).cell q27; have hx8 : Ext wr (w7.alloc (.cells #[.int .i64 s.1.f, .int .i64 s.1.t] 34)) := (hxr.trans hx7).alloc _; obtain ⟨fn, tmps, assign, body, hy, hR⟩ := HY.out _ s _ (hJ _ _ _ HJS.out hx8) hlk)
      refine hR.mono ?_
      rintro e W3 (⟨rfl, hJ3, hk3⟩ | ⟨rfl, hJx3⟩)
      · gi_wp2
        go_roundw
        case rel => exact ⟨k + 1, by omega, by go_num, by rw [HT.out]; exact hJ3, (hnx.trans (Kq.of_ext hx8 hn2)).trans hk3⟩
        case measure => simp [intOf]; omega
      · gi_wp2
        refine bodyPost_ret (results_none rfl _ _ _) rfl ?_
        exact ⟨⟨_, rfl⟩, .inr ⟨_, HP.out, hJx3⟩⟩
    · obtain rfl : k = zs.length := by omega
      rw [show zs.attach.take zs.length = zs.attach by rw [List.take_of_length_le (by simp)]] at hJs
      gi_wp2
      go_end0
      exact ⟨⟨_, rfl⟩, .inl ⟨_, rfl, hJs⟩⟩

theorem all_stopsR (n : Nat) (hn : 1 ≤ n) (br bs ob n₀ : Nat) (A : Option Addr) (c : Nat) (zs : List Rn) (hlen : zs.length ≤ 1000000) (hok : ∀ r ∈ zs, RnOk r) (hb : 0 < zs.length → ∀ b o, A = some ⟨b, o, none⟩ → b < n₀ ∧ b ≠ ob) (hbs : bs < n₀ ∧ bs ≠ ob) (w : World) (hBr : br < w.heap.size) (hn₀ : n₀ ≤ w.heap.size)
    (hc : w.cell? ⟨br, 0, none⟩ = some (.slice A zs.length c)) (hS0 : w.cell? ⟨bs, 0, none⟩ = some (.int .i64 0)) (hS1 : w.cell? ⟨bs, 1, none⟩ = some (.int .i64 4611686018427387904)) (hS : RunsAt w n₀ A zs) :
    SeqStopsK Fence.wide n Try.prog 47 #[.pointer (some ⟨br, 0, none⟩), .pointer (some ⟨bs, 0, none⟩)] (fun x : {r : Rn // r ∈ zs} => #[.agg #[.int .i64 x.1.f, .int .i64 x.1.t], .int .i64 x.1.v]) (Kq ob n₀) (fun ys => ys = zs.attach) (fun pre => pre <+: zs.attach) zs.length w := fun l J Jx W hW hJ _ hY h0 =>
  all1_inR n hn l br bs ob n₀ A c zs hlen hok hb hbs J Jx (fun pre W1 W2 hj hx => hJ pre W1 W2 none hj (grown_of_ext hx) (fun r e => by cases e)) hY W (Nat.le_trans hn₀ (Below.size hW)) ((hW.cell (p := ⟨br, 0, none⟩) hBr).trans hc) ((hW.cell (p := ⟨bs, 0, none⟩) (Nat.lt_of_lt_of_le hbs.1 hn₀)).trans hS0) ((hW.cell (p := ⟨bs, 1, none⟩) (Nat.lt_of_lt_of_le hbs.1 hn₀)).trans hS1)
    (fun k hk => by
      obtain ⟨b, e, hlt, p0, p1, p2⟩ := hS k hk
      have hlt2 : b < w.heap.size := Nat.lt_of_lt_of_le hlt hn₀
      exact ⟨b, e, hlt, (hW.cell (p := ⟨b, k * 3, none⟩) hlt2).trans p0, (hW.cell (p := ⟨b, k * 3 + 1, none⟩) hlt2).trans p1, (hW.cell (p := ⟨b, k * 3 + 2, none⟩) hlt2).trans p2⟩) h0
end Go.Proofs.Ytjiabibnbpjhaaa.Rg
