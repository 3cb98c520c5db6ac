/- The contract of awake. -/
import Derived.Test.YtoahjhkfnchdhaaAwk
import Derived.Lib.SlBytesConst
namespace Go.Proofs.Ytoahjhkfnchdhaa
open Go.RowKit

theorem lit_bytes (w : World) (l : List UInt8) (fr : Nat × Nat) : BytesAt (w.alloc (.cells (bytesL l).toArray 5 fr)) (some ⟨w.heap.size, 0, none⟩) l := fun k hk => by
  refine ⟨w.heap.size, 0, rfl, ?_⟩
  rw [Nat.zero_add, cell_of_row _ _ _ _ _ _ (heap_alloc_new w _)]
  simp [bytesL, hk]

set_option maxHeartbeats 4000000 in
set_option maxRecDepth 100000 in
theorem awake_calls (w : World) : Calls Try.prog 11 #[] w fun e w' => e = .returned (.bool true) ∧ Ext w w' := by
  have hp := partsl_calls 3 9 4 9 (by decide) w
  rw [a_parts] at hp
  have HP := Lib.hid hp
  clear hp
  have kc := fun (w : World) (C : Array Value) (n c : Nat) => Lib.run_convert_bytes_const (P := Try.prog) w 43 5 C n c Try.underlying43 Try.underlying5
  go_enter Try.func11, Try.ntmps11
  go_wp2_with fail
  refine HP.out.mono ?_
  rintro e w1 ⟨v, rfl, hown, hx1⟩
  obtain ⟨g1, cap1, rfl⟩ := ownsRow_succ hown
  have hg1 := (hown.lt g1 rfl).2
  have q6 : w1.cell? ⟨g1, 6, none⟩ = some (.int .i64 2) := by rw [hown.cellAt _ (by decide)]; rfl
  have q7 : w1.cell? ⟨g1, 7, none⟩ = some (.int .i64 8) := by rw [hown.cellAt _ (by decide)]; rfl
  have q8 : w1.cell? ⟨g1, 8, none⟩ = some (.int .i64 9) := by rw [hown.cellAt _ (by decide)]; rfl
  clear HP hown
  go_wp2_with fail
  refine (new_calls 2 4 (-1) (by decide) _).mono ?_
  rintro e w2 ⟨hx2, hp⟩
  rw [if_pos a_span.1] at hp
  obtain ⟨pb, rfl, hb⟩ := hp
  have hb0 : BufAt w1.heap.size w2.heap.size w2 pb BA0 := hb.out
  replace q6 := hx2.cell q6
  replace q7 := hx2.cell q7
  replace q8 := hx2.cell q8
  have hx02 := hx1.trans hx2
  clear hb
  have hl1 : (([97, 98, 99, 100] : List UInt8)).length = 4 := rfl
  have hP1 := put_calls w1.heap.size w2.heap.size pb BA0 6 (some ⟨w2.heap.size, 0, none⟩) 4 [97, 98, 99, 100] _ (hb0.ext ((Ext.refl w2).alloc (.cells #[.int .u8 97, .int .u8 98, .int .u8 99, .int .u8 100] 5 (4, 5)))) ba0_ok (by rw [World.size_alloc]; omega) (lit_bytes w2 [97, 98, 99, 100] (4, 5)) (by decide) (by decide) (by decide) (by decide) (fun b o e => by cases e; exact .inr (Nat.le_refl _))
  rw [ba1_put.1, ba1_put.2.1, ba1_put.2.2] at hP1
  have HP1 := Lib.hid hP1
  have hh2 := hx2.size
  clear hP1
  go_wp2_with fail
  refine HP1.out.mono ?_
  rintro e w4 ⟨rfl, hb1, hc1⟩
  replace q6 := hc1.cell (((Ext.refl w2).alloc _).cell q6) (.inl hg1)
  replace q7 := hc1.cell (((Ext.refl w2).alloc _).cell q7) (.inl hg1)
  replace q8 := hc1.cell (((Ext.refl w2).alloc _).cell q8) (.inl hg1)
  replace hc1 := (Chg.of_ext (lo := w1.heap.size) (hi := w2.heap.size) ((Ext.refl w2).alloc _)).trans hc1
  clear HP1 hb0
  go_wp2_with fail
  refine (whole_calls _ _ pb BA1 _ hb1.out ba1_ok).mono ?_
  rintro e w5 ⟨hx5, hp⟩
  rw [if_neg (by rw [ba1_holds]; decide)] at hp
  subst hp
  have hb5 := hb1.out.ext hx5
  replace q6 := hx5.cell q6
  replace q7 := hx5.cell q7
  replace q8 := hx5.cell q8
  replace hc1 := hc1.trans (Chg.of_ext hx5)
  clear hb1 hx5
  have hz5 := hc1.size
  have hP2 := put_calls w1.heap.size w2.heap.size pb BA1 9 (some ⟨w5.heap.size, 0, none⟩) 1 [120] _ (hb5.ext ((Ext.refl w5).alloc (.cells #[.int .u8 120] 5 (1, 2)))) ba1_ok (by rw [World.size_alloc]; omega) (lit_bytes w5 [120] (1, 2)) (by decide) (by decide) (by decide) (by decide) (fun b o e => by cases e; exact .inr (by show w2.heap.size ≤ w5.heap.size; omega))
  rw [ba1_clash.1, ba1_clash.2.1, ba1_clash.2.2] at hP2
  have HP2 := Lib.hid hP2
  clear hP2
  go_wp2_with fail
  refine HP2.out.mono ?_
  rintro e w7 ⟨rfl, hb7, hc7⟩
  replace q6 := hc7.cell (((Ext.refl w5).alloc _).cell q6) (.inl hg1)
  replace q7 := hc7.cell (((Ext.refl w5).alloc _).cell q7) (.inl hg1)
  replace q8 := hc7.cell (((Ext.refl w5).alloc _).cell q8) (.inl hg1)
  replace hc1 := hc1.trans ((Chg.of_ext ((Ext.refl w5).alloc _)).trans hc7)
  clear HP2 hb5 hc7 hz5
  have hz7 := hc1.size
  have hP3 := seal_calls w1.heap.size w2.heap.size pb BA1 10 w7 hb7.out ba1_ok (by omega)
  rw [ba2_seal.1, ba2_seal.2] at hP3
  have HP3 := Lib.hid hP3
  clear hP3
  go_wp2_with fail
  refine HP3.out.mono ?_
  rintro e w8 ⟨rfl, hb8, hc8⟩
  replace q6 := hc8.cell q6 (.inl hg1)
  replace q7 := hc8.cell q7 (.inl hg1)
  replace q8 := hc8.cell q8 (.inl hg1)
  replace hc1 := hc1.trans hc8
  clear HP3 hb7 hc8 hz7
  go_wp2_with fail
  refine (whole_calls _ _ pb BA2 _ hb8.out ba2_ok).mono ?_
  rintro e w9 ⟨hx9, hp⟩
  rw [if_pos ba2_holds] at hp
  obtain ⟨A9, c9, rfl, hw9⟩ := hp
  have hB9 : BytesAt w9 A9 [99, 100] := bytes_of_own (l := [99, 100]) hw9.out
  have hb9 := hb8.out.ext hx9
  replace q6 := hx9.cell q6
  replace q7 := hx9.cell q7
  replace q8 := hx9.cell q8
  replace hc1 := hc1.trans (Chg.of_ext hx9)
  have hn2 : (BA2.t - BA2.f).toNat = 2 := by decide
  rw [hn2]
  clear hb8 hx9 hw9
  go_wp2_with fail
  refine (has_calls _ _ pb BA2 _ hb9 (by decide)).mono ?_
  rintro e w10 ⟨v10, rfl, hown, hx10⟩
  obtain ⟨g10, cap10, rfl⟩ := ownsRow_succ hown
  have s0 : w10.cell? ⟨g10, 0, none⟩ = some (.int .i64 8) := by rw [hown.cellAt _ (by decide)]; rfl
  have s1 : w10.cell? ⟨g10, 1, none⟩ = some (.int .i64 10) := by rw [hown.cellAt _ (by decide)]; rfl
  replace hB9 := hB9.ext hx10
  replace q6 := hx10.cell q6
  replace q7 := hx10.cell q7
  replace q8 := hx10.cell q8
  replace hc1 := hc1.trans (Chg.of_ext hx10)
  clear hb9 hx10 hown
  go_wp2_with fail
  refine (new_calls 3 4 9 (by decide) _).mono ?_
  rintro e w11 ⟨hx11, hp⟩
  rw [if_neg (by rw [a_span.2.1]; decide)] at hp
  subst hp
  replace hB9 := hB9.ext hx11
  replace s0 := hx11.cell s0
  replace s1 := hx11.cell s1
  replace q6 := hx11.cell q6
  replace q7 := hx11.cell q7
  replace q8 := hx11.cell q8
  replace hc1 := hc1.trans (Chg.of_ext hx11)
  have hcv : (convert 43 9 (.slice A9 2 c9)).run Try.prog w11 = .ok (.string ⟨#[99, 100]⟩) w11 := conv_bytes w11 A9 [99, 100] c9 hB9
  clear hx11 hB9
  go_wp2_with (first
    | (go_at_call 14; refine (no_calls 7 4 _ (by decide)).mono ?_; rintro e w12 ⟨rfl, rfl⟩)
    | (go_at_call 12; refine (span_calls 2 4 9 _).mono ?_; rintro e w13 ⟨rfl, hx13⟩; rw [a_span.2.2.1])
    | (go_at_call 16; refine (count_calls 4 9 _).mono ?_; rintro e w14 ⟨rfl, rfl⟩; rw [a_span.2.2.2.2]))
  go_ret
  exact ⟨rfl, (hc1.ext hx02 hx1.size).trans hx13⟩
end Go.Proofs.Ytoahjhkfnchdhaa
