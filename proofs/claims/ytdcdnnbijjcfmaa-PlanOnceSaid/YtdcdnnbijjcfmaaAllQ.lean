/- The contract of what Set.All hands back, where the body turns a block that lies ahead of the list. -/
import Derived.Test.YtdcdnnbijjcfmaaAll
import Derived.RangeFuncBox
import Derived.RangeFuncLeaves
import Derived.RangeFuncCalls
import Derived.RangeFuncBound
import Derived.RangeFuncNested
import Derived.OwnWalkIn
import Derived.TacticsInMore
import Derived.LoopNIn
import Derived.LoopIn
namespace Go.Proofs.Ytdcdnnbijjcfmaa
open Go.RowKit
attribute [local go_sem] Oper.semAt_some

/-- Of the blocks before n₀ only o may have turned. -/
structure Kq (o n₀ : Nat) (w w' : World) : Prop where
  os : w'.os = w.os
  tape : w'.tape = w.tape
  output : w'.output = w.output
  size : w.heap.size ≤ w'.heap.size
  block : ∀ k, k < n₀ → k ≠ o → w'.heap[k]? = w.heap[k]?
theorem Kq.refl (o n₀ : Nat) (w : World) : Kq o n₀ w w := ⟨rfl, rfl, rfl, Nat.le_refl _, fun _ _ _ => rfl⟩
theorem Kq.trans {o n₀ : Nat} {a b c : World} (h : Kq o n₀ a b) (k : Kq o n₀ b c) : Kq o n₀ a c :=
  ⟨k.os.trans h.os, k.tape.trans h.tape, k.output.trans h.output, Nat.le_trans h.size k.size, fun i hi hne => (k.block i hi hne).trans (h.block i hi hne)⟩
theorem Kq.of_ext {o n₀ : Nat} {w w' : World} (h : Ext w w') (hn : n₀ ≤ w.heap.size) : Kq o n₀ w w' := ⟨h.os, h.tape, h.output, h.size, fun k hk _ => Below.block h k (by omega)⟩
theorem Kq.alloc {o n₀ : Nat} {a b : World} (h : Kq o n₀ a b) (hn : n₀ ≤ a.heap.size) (x : Obj) : Kq o n₀ a (b.alloc x) :=
  h.trans (Kq.of_ext ((Ext.refl b).alloc x) (Nat.le_trans hn h.size))
theorem Kq.cell {o n₀ : Nat} {w w' : World} (h : Kq o n₀ w w') {p : Addr} (hp : p.block < n₀) (hne : p.block ≠ o) : w'.cell? p = w.cell? p := World.cell?_of_block (h.block _ hp hne)
theorem kq_t {o n₀ : Nat} {A B C : World} (h : Kq o n₀ A B) (k : Kq o n₀ B C) : Kq o n₀ A C := h.trans k
theorem kq_grown {o n₀ : Nat} {w w' : World} {row : Option Nat} (hg : w.grownBy w' row) (hn : n₀ ≤ w.heap.size) (hr : ∀ r, row = some r → n₀ ≤ r ∨ r = o) : Kq o n₀ w w' :=
  ⟨hg.os, hg.tape, hg.output, hg.size, fun k hk hne => hg.block k (by omega) (fun e => by rcases hr k e.symm with h | h <;> omega)⟩
theorem kq_b {o n₀ : Nat} {w : World} (hn : n₀ ≤ w.heap.size) (W : World) (l : Nat) (x x' : Obj) (hl : w.heap.size ≤ l) (h : W.heap[l]? = some x) (_ : x.isCells = false) (_ : x.isWalk = false) : Kq o n₀ W (W.putObj l x') :=
  kq_grown (grownBy_putObj' W l x') (by have := (Array.getElem?_eq_some_iff.1 h).1; omega) (fun k e => by cases e; exact .inl (by omega))
theorem ownFrom_kq {β : Type} {o n₀ B : Nat} {w₀ : World} (hn : n₀ ≤ w₀.heap.size) (hB : n₀ ≤ B) : OwnFrom B (fun (_ : β) W => Kq o n₀ w₀ W) :=
  fun _ _ _ _ hs hg hr => hs.trans (kq_grown hg (Nat.le_trans hn hs.size) (fun k e => .inl (Nat.le_trans hB (hr k e).1)))
theorem SAt.kq {w w' : World} {A : Option Addr} {l : List Sp} {o n₀ : Nat} (h : SAt w A l) (hk : Kq o n₀ w w') (hA : 0 < l.length → ∀ b o', A = some ⟨b, o', none⟩ → b < n₀ ∧ b ≠ o) : SAt w' A l := fun k hk' => by
  obtain ⟨b, o', e, p0, p1⟩ := h k hk'
  obtain ⟨h1, h2⟩ := hA (by omega) b o' e
  have hb := hk.block b h1 h2
  exact ⟨b, o', e, (World.cell?_of_block hb).trans p0, (World.cell?_of_block hb).trans p1⟩

set_option maxRecDepth 100000 in
set_option maxHeartbeats 2000000 in
theorem all1_inQ (F : Fence) (n : Nat) (h7 : F.fn 64) (hro : F.round = none) (hn : 1 ≤ n) (l bs ob n₀ : Nat) (A : Option Addr) (c : Nat) (zs : List Sp) (hlen : zs.length ≤ 1000000) (hb : 0 < zs.length → ∀ b o, A = some ⟨b, o, none⟩ → b < n₀ ∧ b ≠ ob)
    (J Jx : List {s : Sp // s ∈ zs} → World → Prop) (hJ : ∀ pre W o, J pre W → J pre (W.alloc o))
    (hY : ∀ pre x W, J pre W → pre.length < zs.length → YieldAt F (n - 1) Try.prog l #[.agg #[.int .i64 x.1.f, .int .i64 x.1.t]] W fun e W' =>
      (e = .returned (.bool true) ∧ J (pre ++ [x]) W' ∧ Kq ob n₀ W W') ∨ (e = .returned (.bool false) ∧ Jx (pre ++ [x]) W'))
    (W : World) (hW : n₀ ≤ W.heap.size) (hBs : W.cell? ⟨bs, 0, none⟩ = some (.slice A zs.length c)) (hS : SAt W A zs) (h0 : J [] W) :
    CallsIn F n Try.prog 64 #[.func (.yield l) #[] #[], .pointer (some ⟨bs, 0, none⟩)] W fun e W' => (∃ v, e = .returned v) ∧
      ((∃ ys, ys = zs.attach ∧ J ys W') ∨ (∃ pre, pre <+: zs.attach ∧ Jx pre W')) := by
  refine callsIn_of_wp Try.func64 rfl h7 ?_ hro
  simp only [Try.ntmps64, List.size_toArray, List.length_cons, List.length_nil, Nat.reduceAdd, Nat.reduceSub, Array.replicate_succ, Array.replicate_zero, List.push_toArray, List.append_toArray, List.nil_append, List.cons_append]
  gi_wp2
  gi_loopw [8] (fun i wr => ∃ k : Nat, k ≤ zs.length ∧ i = .int .i64 k ∧ J (zs.attach.take k) wr ∧ Kq ob n₀ W wr)
    (fun i _ => zs.length - (intOf i).toNat)
  case atStart => exact ⟨0, Nat.zero_le _, rfl, h0, Kq.refl _ _ _⟩
  case round =>
    obtain ⟨k, hk, rfl, hJs, hnx⟩ := hrel
    by_cases hlt : k < zs.length
    · obtain ⟨b, o, hA, p0, p1⟩ := hS k hlt
      obtain ⟨hbb, hbo⟩ := hb (by omega) b o hA
      subst hA
      replace p0 := (hnx.cell (p := ⟨b, o + k * 2, none⟩) hbb hbo).trans p0
      replace p1 := (hnx.cell (p := ⟨b, o + k * 2 + 1, none⟩) hbb hbo).trans p1
      have hts : zs.attach.take (k + 1) = zs.attach.take k ++ [⟨zs[k], List.getElem_mem hlt⟩] := by
        rw [List.take_succ_eq_append_getElem (by simpa using hlt), List.getElem_attach]
      obtain ⟨s, hs⟩ : ∃ s : {s : Sp // s ∈ zs}, s = ⟨zs[k], List.getElem_mem hlt⟩ := ⟨_, rfl⟩
      have hsv : zs[k] = s.1 := by rw [hs]
      rw [← hs] at hts
      rw [hsv] at p0 p1
      have hpf : zs.attach.take k ++ [s] <+: zs.attach := by rw [← hts]; exact List.take_prefix _ _
      have hlk : (zs.attach.take k).length < zs.length := by simp; omega
      have hYY := fun x o => hY _ x _ (hJ _ _ o hJs) hlk
      clear hs hsv
      obtain ⟨fn, tmps, assign, body, hy, hR⟩ := hYY s (.cells #[.int .i64 s.1.f, .int .i64 s.1.t] 48)
      have HT := Lib.hid hts
      have HP := Lib.hid hpf
      have hn2 : n₀ ≤ wr.heap.size := Nat.le_trans hW hnx.size
      clear hts hpf hYY hS hb hBs hlk
      gi_wp2
      refine hR.mono ?_
      rintro e W3 (⟨rfl, hJ3, hk3⟩ | ⟨rfl, hJx3⟩)
      · gi_wp2
        go_roundw
        case rel => exact ⟨k + 1, by omega, by go_num, by rw [HT.out]; exact hJ3, (hnx.alloc hW _).trans hk3⟩
        case measure => simp [intOf]; omega
      · gi_wp2
        refine bodyPost_ret (results_none rfl _ _ _) rfl ?_
        exact ⟨⟨_, rfl⟩, .inr ⟨_, HP.out, hJx3⟩⟩
    · obtain rfl : k = zs.length := by omega
      rw [show zs.attach.take zs.length = zs.attach by rw [List.take_of_length_le (by simp)]] at hJs
      gi_wp2
      go_end0
      exact ⟨⟨_, rfl⟩, .inl ⟨_, rfl, hJs⟩⟩

theorem all_stopsQ (F : Fence) (n : Nat) (h7 : F.fn 64) (hro : F.round = none) (hn : 1 ≤ n) (bs ob n₀ : Nat) (A : Option Addr) (c : Nat) (zs : List Sp) (hlen : zs.length ≤ 1000000) (hb : 0 < zs.length → ∀ b o, A = some ⟨b, o, none⟩ → b < n₀ ∧ b ≠ ob) (w : World) (hBs : bs < w.heap.size) (hn₀ : n₀ ≤ w.heap.size)
    (hc : w.cell? ⟨bs, 0, none⟩ = some (.slice A zs.length c)) (hS : SAt w A zs) :
    SeqStopsK F n Try.prog 64 #[.pointer (some ⟨bs, 0, none⟩)] (fun x : {s : Sp // s ∈ zs} => #[.agg #[.int .i64 x.1.f, .int .i64 x.1.t]]) (Kq ob n₀) (fun ys => ys = zs.attach) (fun pre => pre <+: zs.attach) zs.length w := fun l J Jx W hW hJ _ hY h0 =>
  all1_inQ F n h7 hro hn l bs ob n₀ A c zs hlen hb J Jx (fun pre W1 o hj => hJ pre W1 (W1.alloc o) none hj (World.grownBy_alloc W1 o none) (fun r e => by cases e)) hY W (Nat.le_trans hn₀ (Below.size hW)) ((hW.cell (p := ⟨bs, 0, none⟩) hBs).trans hc)
    (fun k hk => by
      obtain ⟨b, o, e, p0, p1⟩ := hS k hk
      have hlt : b < w.heap.size := Nat.lt_of_lt_of_le (hb (by omega) b o e).1 hn₀
      exact ⟨b, o, e, (hW.cell (p := ⟨b, o + k * 2, none⟩) hlt).trans p0, (hW.cell (p := ⟨b, o + k * 2 + 1, none⟩) hlt).trans p1⟩) h0
end Go.Proofs.Ytdcdnnbijjcfmaa
