/- The contracts of the book's Add, Less, Of, All and of budget.New. -/
import Derived.Test.YtmcddajniiaieaaDoorBset
import Derived.BigQuiet
namespace Go.Proofs.YtmcddajniiaieaaDoor
open Go.RowKit

set_option maxRecDepth 100000 in
theorem bright_calls (n : Int) (w : World) (h : 0 ≤ n ∧ n ≤ 1125899906842624) : Calls Tryd.prog 38 #[.int .i64 n] w fun e w' => e = .returned (.bool true) ∧ w' = w := by
  obtain ⟨h0, h1⟩ := h
  go_enter Tryd.func38, Tryd.ntmps38
  go_wp2
  go_ret
  exact ⟨by simp [h0, h1], rfl⟩
set_option maxRecDepth 100000 in
theorem asks_calls (bb : Nat) (t : Bool) (n : Int) (w : World) (h : 0 ≤ n ∧ n ≤ 1125899906842624) : Calls Tryd.prog 46 #[.pointer (some ⟨bb, 0, none⟩), .string (nmB t), .int .i64 n] w fun e w' => e = .returned (.bool true) ∧ w' = w := by
  have hs : (nmB t).size = 1 := by cases t <;> rfl
  have HR := Lib.hid (fun W => bright_calls n W h)
  clear h
  go_enter Tryd.func46, Tryd.ntmps46
  go_wp2_with fail
  refine (HR.out _).mono ?_
  rintro e w1 ⟨rfl, rfl⟩
  go_wp2
  go_ret
  exact ⟨rfl, rfl⟩
set_option maxRecDepth 100000 in
theorem bof_calls (B bb c : Nat) (S : Int) (b : Bk) (t : Bool) (w : World) (h : BkAt w B bb c S b) : Calls Tryd.prog 28 #[.pointer (some ⟨bb, 0, none⟩), .string (nmB t)] w fun e w' => e = .returned (.int .i64 (b.p t)) ∧ w' = w := by
  have l3 : w.cell? ⟨bb, 3, none⟩ = some (.map b.m) := blk_cell h.blk 3 rfl
  have hrun := h.look t
  obtain ⟨p, hp⟩ : ∃ p, b.p t = p := ⟨_, rfl⟩
  obtain ⟨m, hm⟩ : ∃ m, b.m = m := ⟨_, rfl⟩
  rw [hp, hm] at hrun
  rw [hp]
  rw [hm] at l3
  clear h hp hm
  go_enter Tryd.func28, Tryd.ntmps28
  go_wp2
  go_ret
  exact ⟨rfl, rfl⟩
set_option maxRecDepth 100000 in
theorem ball_calls (B bb c : Nat) (S : Int) (b : Bk) (w : World) (h : BkAt w B bb c S b) : Calls Tryd.prog 27 #[.pointer (some ⟨bb, 0, none⟩)] w fun e w' => e = .returned (.int .i64 (b.p true + b.p false)) ∧ w' = w := by
  have l2 : w.cell? ⟨bb, 2, none⟩ = some (.int .i64 (b.p true + b.p false)) := blk_cell h.blk 2 rfl
  obtain ⟨p, hp⟩ : ∃ p, b.p true + b.p false = p := ⟨_, rfl⟩
  rw [hp] at l2
  rw [hp]
  clear h hp
  go_enter Tryd.func27, Tryd.ntmps27
  go_wp2
  go_ret
  exact ⟨rfl, rfl⟩
set_option maxRecDepth 100000 in
theorem bnew_calls (S : Int) (B : Nat) (w : World) (h0 : 0 ≤ S) (h1 : S ≤ 1000) (hB : B ≤ w.heap.size) : Calls Tryd.prog 15 #[.int .i64 (2 * S), .int .i64 S] w fun e w' => ∃ bb, e = .returned (.tuple #[.pointer (some ⟨bb, 0, none⟩), .int .i64 0]) ∧ BkAt w' B bb 0 S ⟨none, fun _ => 0⟩ ∧ Ext w w' := by
  have HR1 := Lib.hid (fun W => bright_calls (2 * S) W (by omega))
  have HR2 := Lib.hid (fun W => bright_calls S W (by omega))
  obtain ⟨R, hR⟩ : ∃ R, 2 * S = R := ⟨_, rfl⟩
  rw [hR] at HR1
  rw [hR]
  have hRS : ¬ R < S := by omega
  have HRR := Lib.hid hR
  clear hR
  go_enter Tryd.func15, Tryd.ntmps15
  go_wp2_with fail
  refine (HR1.out _).mono ?_
  rintro e w1 ⟨rfl, rfl⟩
  go_wp2_with fail
  refine (HR2.out _).mono ?_
  rintro e w2 ⟨rfl, rfl⟩
  go_wp2
  refine bodyPost_ret (v := .tuple #[.pointer (some ⟨w2.heap.size, 0, none⟩), .int .i64 0]) (by simp [results, Tryd.results15, go_sem]) rfl ?_
  refine ⟨w2.heap.size, rfl, ⟨by rw [heap_alloc_new w2 _, ← HRR.out]; rfl, hB, fun t => ⟨Int.le_refl _, h0⟩, .inl ⟨rfl, fun _ => rfl⟩⟩, (Ext.refl w2).alloc _⟩
def BkPost (w : World) (B bb c : Nat) (S : Int) (b : Bk) (e : Ending) (w' : World) : Prop := ∃ r b', e = .returned (.int .i64 r) ∧ BkAt w' B bb (c + 1) S b' ∧ BkM w b b' ∧ Kp B bkTs b.m.toList w w'

set_option maxHeartbeats 1000000 in
set_option maxRecDepth 100000 in
theorem bless_calls (B bb c : Nat) (S : Int) (b : Bk) (t : Bool) (n : Int) (w : World) (h : BkAt w B bb c S b) (hn : 0 ≤ n ∧ n ≤ 1125899906842624) (hS : S ≤ 1099511627776) (hc : c < 100000) (hB : B ≤ w.heap.size) :
    Calls Tryd.prog 44 #[.pointer (some ⟨bb, 0, none⟩), .string (nmB t), .int .i64 n] w (BkPost w B bb c S b) := by
  have HA := Lib.hid (asks_calls bb t n w hn)
  have l3 : w.cell? ⟨bb, 3, none⟩ = some (.map b.m) := blk_cell h.blk 3 rfl
  have hrun := h.look t
  have o := h.ok t
  have H := Lib.hid h
  have HSET : Hid (n ≤ b.p t → Calls Tryd.prog 47 #[.pointer (some ⟨bb, 0, none⟩), .string (nmB t), .int .i64 (b.p t - n)] w (SetPostB w B bb c S b t (b.p t - n))) := Lib.hid fun hle => bset_calls B bb c S b t (b.p t - n) w h (by omega) hS hc hB
  obtain ⟨p, hp⟩ : ∃ p, b.p t = p := ⟨_, rfl⟩
  obtain ⟨m, hm⟩ : ∃ m, b.m = m := ⟨_, rfl⟩
  rw [hp] at hrun o HSET
  rw [hm] at hrun l3
  have HM := Lib.hid hm
  clear h hp hm
  obtain ⟨n0, n1⟩ := hn
  go_enter Tryd.func44, Tryd.ntmps44
  go_wp2_with fail
  refine HA.out.mono ?_
  rintro e w1 ⟨rfl, rfl⟩
  by_cases hlt : p < n
  · go_wp2
    go_ret
    exact ⟨4, b, rfl, H.out.mono (Nat.le_succ _), .inl rfl, Kp.refl _ _ _ _⟩
  · have hw : IntKind.i64.wrap (p - n) = p - n := IntWalk.i64_in _ (by omega)
    have HS2 := Lib.hid (HSET.out (by omega))
    obtain ⟨q, hq⟩ : ∃ q, p - n = q := ⟨_, rfl⟩
    rw [hq] at HS2 hw
    go_wp2_with fail
    refine HS2.out.mono ?_
    rintro e w2 ⟨b', rfl, h1, h2, h3, h4⟩
    go_wp2
    go_ret
    exact ⟨0, b', rfl, h1, h3, h4⟩

set_option maxHeartbeats 1000000 in
set_option maxRecDepth 100000 in
theorem badd_calls (B bb c : Nat) (S : Int) (b : Bk) (t : Bool) (n : Int) (w : World) (h : BkAt w B bb c S b) (hn : 0 ≤ n ∧ n ≤ 1125899906842624) (hS : S ≤ 1099511627776) (hc : c < 100000) (hB : B ≤ w.heap.size) :
    Calls Tryd.prog 25 #[.pointer (some ⟨bb, 0, none⟩), .string (nmB t), .int .i64 n] w (BkPost w B bb c S b) := by
  have HA := Lib.hid (asks_calls bb t n w hn)
  have l0 : w.cell? ⟨bb, 0, none⟩ = some (.int .i64 (2 * S)) := blk_cell h.blk 0 rfl
  have l1 : w.cell? ⟨bb, 1, none⟩ = some (.int .i64 S) := blk_cell h.blk 1 rfl
  have l2 : w.cell? ⟨bb, 2, none⟩ = some (.int .i64 (b.p true + b.p false)) := blk_cell h.blk 2 rfl
  have l3 : w.cell? ⟨bb, 3, none⟩ = some (.map b.m) := blk_cell h.blk 3 rfl
  have hrunN : ∀ k, (Instr.lookup 89 (.map b.m) (.string (nmB t)) false).run Tryd.prog (w.drewN k) = .ok (.int .i64 (b.p t)) (w.drewN k) := fun k => (h.ext ((Ext.refl w).drewN k)).look t
  have o := h.ok t
  have o1 := h.ok true
  have o2 := h.ok false
  have H := Lib.hid h
  have HSET : Hid (b.p t + n ≤ S → ∀ W, Ext w W → Calls Tryd.prog 47 #[.pointer (some ⟨bb, 0, none⟩), .string (nmB t), .int .i64 (b.p t + n)] W (SetPostB W B bb c S b t (b.p t + n))) := Lib.hid fun hle W hx => bset_calls B bb c S b t (b.p t + n) W (h.ext hx) (by omega) hS hc (Nat.le_trans hB hx.size)
  obtain ⟨p, hp⟩ : ∃ p, b.p t = p := ⟨_, rfl⟩
  obtain ⟨al, hal⟩ : ∃ a, b.p true + b.p false = a := ⟨_, rfl⟩
  have hal2 : 0 ≤ al ∧ al ≤ 2 * S := by omega
  obtain ⟨m, hm⟩ : ∃ m, b.m = m := ⟨_, rfl⟩
  rw [hp] at o HSET
  simp only [hp, hm] at hrunN
  rw [hal] at l2
  rw [hm] at l3
  obtain ⟨R, hR⟩ : ∃ R, 2 * S = R := ⟨_, rfl⟩
  rw [hR] at l0 hal2
  have hRb : R ≤ 2199023255552 := by omega
  clear h hp hm hal hR o1 o2
  obtain ⟨n0, n1⟩ := hn
  have hw1 : IntKind.i64.wrap (al + n) = al + n := IntWalk.i64_in _ (by omega)
  have hw2 : IntKind.i64.wrap (p + n) = p + n := IntWalk.i64_in _ (by omega)
  go_enter Tryd.func25, Tryd.ntmps25
  go_wp2_with fail
  refine HA.out.mono ?_
  rintro e w1 ⟨rfl, rfl⟩
  by_cases h1 : R < al + n
  · go_wp2
    go_quiet (fail)
    go_wp2
    go_ret
    exact ⟨5, b, rfl, (H.out.mono (Nat.le_succ _)).ext ((Ext.refl _).drewN _), .inl rfl, (Kp.refl _ _ _ _).ext ((Ext.refl _).drewN _)⟩
  · by_cases h2 : S < p + n
    · go_wp2
      go_quiet (fail)
      go_wp2
      go_ret
      exact ⟨5, b, rfl, (H.out.mono (Nat.le_succ _)).ext ((Ext.refl _).drewN _), .inl rfl, (Kp.refl _ _ _ _).ext ((Ext.refl _).drewN _)⟩
    · have HS2 := Lib.hid (HSET.out (by omega))
      go_wp2
      go_quiet (fail)
      go_wp2_with fail
      refine (HS2.out _ ((Ext.refl _).drewN _)).mono ?_
      rintro e w2 ⟨b', rfl, r1, r2, r3, r4⟩
      go_wp2
      go_ret
      exact ⟨0, b', rfl, r1, r3, ((Kp.refl _ _ _ _).ext ((Ext.refl _).drewN _)).trans r4⟩
end Go.Proofs.YtmcddajniiaieaaDoor
