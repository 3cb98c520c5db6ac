/- The contract of what Set.All hands back: it tells a function of each span in turn. -/
import Derived.Test.YtdcdnnbijjcfmaaSpn
import Derived.RangeFuncBox
import Derived.RangeFuncLeaves
import Derived.RangeFuncCalls
import Derived.RangeFuncBound
import Derived.RangeFuncNested
import Derived.OwnWalkIn
import Derived.TacticsInMore
import Derived.LoopNIn
import Derived.LoopIn
namespace Go.Proofs.Ytdcdnnbijjcfmaa
open Go.RowKit
attribute [local go_sem] Oper.semAt_some

theorem setall_calls (A : Option Addr) (c : Nat) (l : List Sp) (w : World) :
    Calls Try.prog 46 #[.agg #[.slice A l.length c]] w fun e w' => e = .returned (.func (.func 64) #[] #[.pointer (some ⟨w.heap.size, 0, none⟩)]) ∧ w' = w.alloc (.cells #[.slice A l.length c] 30) := by
  go_enter Try.func46, Try.ntmps46
  go_wp2
  go_ret
  exact ⟨rfl, rfl⟩

set_option maxRecDepth 100000 in
set_option maxHeartbeats 2000000 in
theorem all1_in (F : Fence) (n : Nat) (h7 : F.fn 64) (hro : F.round = none) (hn : 1 ≤ n) (l bs n₀ : Nat) (A : Option Addr) (c : Nat) (zs : List Sp) (hlen : zs.length ≤ 1000000) (hb : 0 < zs.length → ∀ b o, A = some ⟨b, o, none⟩ → b < n₀)
    (J Jx : List {s : Sp // s ∈ zs} → World → Prop) (hJ : ∀ pre W o, J pre W → J pre (W.alloc o))
    (hY : ∀ pre x W, J pre W → pre.length < zs.length → YieldAt F (n - 1) Try.prog l #[.agg #[.int .i64 x.1.f, .int .i64 x.1.t]] W fun e W' =>
      (e = .returned (.bool true) ∧ J (pre ++ [x]) W' ∧ Below n₀ W W') ∨ (e = .returned (.bool false) ∧ Jx (pre ++ [x]) W'))
    (W : World) (hW : n₀ ≤ W.heap.size) (hBs : W.cell? ⟨bs, 0, none⟩ = some (.slice A zs.length c)) (hS : SAt W A zs) (h0 : J [] W) :
    CallsIn F n Try.prog 64 #[.func (.yield l) #[] #[], .pointer (some ⟨bs, 0, none⟩)] W fun e W' => (∃ v, e = .returned v) ∧
      ((∃ ys, ys = zs.attach ∧ J ys W') ∨ (∃ pre, pre <+: zs.attach ∧ Jx pre W')) := by
  refine callsIn_of_wp Try.func64 rfl h7 ?_ hro
  simp only [Try.ntmps64, List.size_toArray, List.length_cons, List.length_nil, Nat.reduceAdd, Nat.reduceSub, Array.replicate_succ, Array.replicate_zero, List.push_toArray, List.append_toArray, List.nil_append, List.cons_append]
  gi_wp2
  gi_loopw [8] (fun i wr => ∃ k : Nat, k ≤ zs.length ∧ i = .int .i64 k ∧ J (zs.attach.take k) wr ∧ Below n₀ W wr)
    (fun i _ => zs.length - (intOf i).toNat)
  case atStart => exact ⟨0, Nat.zero_le _, rfl, h0, Below.refl _ _⟩
  case round =>
    obtain ⟨k, hk, rfl, hJs, hnx⟩ := hrel
    by_cases hlt : k < zs.length
    · obtain ⟨b, o, hA, p0, p1⟩ := hS k hlt
      have hbb := hb (by omega) b o hA
      subst hA
      replace p0 := (hnx.cell (p := ⟨b, o + k * 2, none⟩) hbb).trans p0
      replace p1 := (hnx.cell (p := ⟨b, o + k * 2 + 1, none⟩) hbb).trans p1
      have hts : zs.attach.take (k + 1) = zs.attach.take k ++ [⟨zs[k], List.getElem_mem hlt⟩] := by
        rw [List.take_succ_eq_append_getElem (by simpa using hlt), List.getElem_attach]
      obtain ⟨s, hs⟩ : ∃ s : {s : Sp // s ∈ zs}, s = ⟨zs[k], List.getElem_mem hlt⟩ := ⟨_, rfl⟩
      have hsv : zs[k] = s.1 := by rw [hs]
      rw [← hs] at hts
      rw [hsv] at p0 p1
      have hpf : zs.attach.take k ++ [s] <+: zs.attach := by rw [← hts]; exact List.take_prefix _ _
      have hlk : (zs.attach.take k).length < zs.length := by simp; omega
      have hYY := fun x o => hY _ x _ (hJ _ _ o hJs) hlk
      clear hs hsv
      obtain ⟨fn, tmps, assign, body, hy, hR⟩ := hYY s (.cells #[.int .i64 s.1.f, .int .i64 s.1.t] 48)
      have HT := Lib.hid hts
      have HP := Lib.hid hpf
      have hn2 : n₀ ≤ wr.heap.size := Nat.le_trans hW (Below.size hnx)
      clear hts hpf hYY hS hb hBs hlk
      gi_wp2
      refine hR.mono ?_
      rintro e W3 (⟨rfl, hJ3, hk3⟩ | ⟨rfl, hJx3⟩)
      · gi_wp2
        go_roundw
        case rel => exact ⟨k + 1, by omega, by go_num, by rw [HT.out]; exact hJ3, (hnx.alloc hn2 _).trans hk3⟩
        case measure => simp [intOf]; omega
      · gi_wp2
        refine bodyPost_ret (results_none rfl _ _ _) rfl ?_
        exact ⟨⟨_, rfl⟩, .inr ⟨_, HP.out, hJx3⟩⟩
    · obtain rfl : k = zs.length := by omega
      rw [show zs.attach.take zs.length = zs.attach by rw [List.take_of_length_le (by simp)]] at hJs
      gi_wp2
      go_end0
      exact ⟨⟨_, rfl⟩, .inl ⟨_, rfl, hJs⟩⟩

theorem all_stops (F : Fence) (n : Nat) (h7 : F.fn 64) (hro : F.round = none) (hn : 1 ≤ n) (bs n₀ : Nat) (A : Option Addr) (c : Nat) (zs : List Sp) (hlen : zs.length ≤ 1000000) (hb : 0 < zs.length → ∀ b o, A = some ⟨b, o, none⟩ → b < n₀) (w : World) (hBs : bs < w.heap.size) (hn₀ : n₀ ≤ w.heap.size)
    (hc : w.cell? ⟨bs, 0, none⟩ = some (.slice A zs.length c)) (hS : SAt w A zs) :
    SeqStopsK F n Try.prog 64 #[.pointer (some ⟨bs, 0, none⟩)] (fun x : {s : Sp // s ∈ zs} => #[.agg #[.int .i64 x.1.f, .int .i64 x.1.t]]) (Below n₀) (fun ys => ys = zs.attach) (fun pre => pre <+: zs.attach) zs.length w := fun l J Jx W hW hJ _ hY h0 =>
  all1_in F n h7 hro hn l bs n₀ A c zs hlen hb J Jx (fun pre W1 o hj => hJ pre W1 (W1.alloc o) none hj (World.grownBy_alloc W1 o none) (fun r e => by cases e)) hY W (Nat.le_trans hn₀ (Below.size hW)) ((hW.cell (p := ⟨bs, 0, none⟩) hBs).trans hc)
    (fun k hk => by
      obtain ⟨b, o, e, p0, p1⟩ := hS k hk
      have hlt : b < w.heap.size := Nat.lt_of_lt_of_le (hb (by omega) b o e) hn₀
      exact ⟨b, o, e, (hW.cell (p := ⟨b, o + k * 2, none⟩) hlt).trans p0, (hW.cell (p := ⟨b, o + k * 2 + 1, none⟩) hlt).trans p1⟩) h0
end Go.Proofs.Ytdcdnnbijjcfmaa
