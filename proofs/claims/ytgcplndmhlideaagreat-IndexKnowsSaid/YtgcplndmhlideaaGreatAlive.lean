/- The law's example is as it says. -/
import Derived.Test.YtgcplndmhlideaaGreatIhas
namespace Go.Proofs.YtgcplndmhlideaaGreat
open Go.RowKit

theorem Ext.chx {w0 w w' : World} {xb : Nat} (h : Ext w0 w) (hc : Chx xb w w') (hx : w0.heap.size ≤ xb) : Ext w0 w' := Below.grown h hc h.size (fun k e => by cases e; exact hx)
theorem put_1 : putX 8 ⟨[], 0⟩ 5 1 8 = (⟨[⟨5, 1, 8, 1⟩], 1⟩, 0) := by rfl
theorem put_2 : putX 8 ⟨[⟨5, 1, 8, 1⟩], 1⟩ 5 2 3 = (⟨[⟨5, 1, 8, 1⟩, ⟨5, 2, 3, 2⟩], 2⟩, 0) := by rfl
theorem since_1 : sinceOf ⟨[⟨5, 1, 8, 1⟩, ⟨5, 2, 3, 2⟩], 2⟩ 1 = [⟨2, 5, 2⟩] := by rfl
theorem has_1 : ofS ((itemsOf [⟨5, 1, 8, 1⟩, ⟨5, 2, 3, 2⟩] 5).map (spW 8)) = [⟨8, 19⟩] := by decide
theorem forg_1 : sumS (([⟨5, 1, 8, 1⟩, ⟨5, 2, 3, 2⟩] : List Sl).filter fun s => decide (s.v = 5)) = 11 := by rfl
theorem forg_2 : forgS [⟨5, 1, 8, 1⟩, ⟨5, 2, 3, 2⟩] 5 = [] := by rfl

theorem slok_put {u : Int} {x : Ix} {v n b : Int} (h : (0 ≤ v ∧ v ≤ 1099511627776) ∧ (0 ≤ n ∧ n ≤ 1099511627776) ∧ 1 ≤ b ∧ b ≤ u) : SlOk u ⟨v, n, b, x.c + 1⟩ := ⟨h.1.1, h.1.2, h.2.1.1, h.2.1.2, h.2.2⟩
theorem Fit.putX {u : Int} {x : Ix} (h : Fit u x) (hl : x.L.length < 900) (hc : x.c < 900) (v n b : Int) : Fit u (putX u x v n b).1 := by
  unfold Go.Proofs.YtgcplndmhlideaaGreat.putX
  split
  · rename_i hh
    split
    · exact h
    · rename_i hg
      exact ⟨h.ok.put hg (slok_put hh), h.u0, h.u1, by simp [putS]; omega, by show x.c + 1 ≤ 900; omega⟩
  · exact h
theorem Fit.filter {u : Int} {x : Ix} (h : Fit u x) (p : Sl → Bool) : Fit u ⟨x.L.filter p, x.c⟩ := ⟨h.ok.filter p, h.u0, h.u1, Nat.le_trans (List.length_filter_le _ _) h.len, h.c1⟩
theorem Fit.drop {u : Int} {x : Ix} (h : Fit u x) (v n : Int) : Fit u ⟨dropS x.L v n, x.c⟩ := h.filter _
theorem Fit.forg {u : Int} {x : Ix} (h : Fit u x) (v : Int) : Fit u ⟨forgS x.L v, x.c⟩ := h.filter _
theorem uOk_8 : uOk 8 = true := by decide
theorem flatN_spans (l : List (Pr Nm)) : flatN l = spans (l.map fun r => ⟨r.v.v, r.v.n⟩) := by
  simp [flatN, spans, Sp.cells, List.flatMap_map]

set_option maxHeartbeats 2000000 in
set_option maxRecDepth 100000 in
theorem alive_calls (w : World) : Calls Tryz.prog 4 #[] w fun e w' => e = .returned (.bool true) ∧ Ext w w' := by
  have HP1 : Hid (∀ W, IxAt W w.heap.size 8 ⟨[], 0⟩ → Calls Tryz.prog 16 #[.pointer (some ⟨w.heap.size, 0, none⟩), .agg #[.int .i64 5, .int .i64 1], .int .i64 8] W (XPost W w.heap.size 8 ⟨[⟨5, 1, 8, 1⟩], 1⟩ (.int .i64 0))) := Lib.hid fun W h => by
    have := xput_calls w.heap.size 8 ⟨[], 0⟩ 5 1 8 W h (fit_new uOk_8)
    rwa [put_1] at this
  have F1 : Fit 8 ⟨[⟨5, 1, 8, 1⟩], 1⟩ := by have := (fit_new uOk_8).putX (by decide) (by decide) 5 1 8; rwa [put_1] at this
  have F2 : Fit 8 ⟨[⟨5, 1, 8, 1⟩, ⟨5, 2, 3, 2⟩], 2⟩ := by have := F1.putX (by decide) (by decide) 5 2 3; rwa [put_2] at this
  have HP2 : Hid (∀ W, IxAt W w.heap.size 8 ⟨[⟨5, 1, 8, 1⟩], 1⟩ → Calls Tryz.prog 16 #[.pointer (some ⟨w.heap.size, 0, none⟩), .agg #[.int .i64 5, .int .i64 2], .int .i64 3] W (XPost W w.heap.size 8 ⟨[⟨5, 1, 8, 1⟩, ⟨5, 2, 3, 2⟩], 2⟩ (.int .i64 0))) := Lib.hid fun W h => by
    have := xput_calls w.heap.size 8 _ 5 2 3 W h F1
    rwa [put_2] at this
  obtain ⟨X, hX⟩ : ∃ X : Ix, X = ⟨[⟨5, 1, 8, 1⟩, ⟨5, 2, 3, 2⟩], 2⟩ := ⟨_, rfl⟩
  rw [← hX] at F2 HP2
  have s1 : sinceOf X 1 = [⟨2, 5, 2⟩] := by rw [hX]; exact since_1
  have s2 : ofS ((itemsOf X.L 5).map (spW 8)) = [⟨8, 19⟩] := by rw [hX]; exact has_1
  have s3 : sumS (X.L.filter fun s => decide (s.v = 5)) = 11 := by rw [hX]; exact forg_1
  have s4 : forgS X.L 5 = [] := by rw [hX]; exact forg_2
  have s5 : (itemsOf X.L 5).length ≤ 1000 := by rw [hX]; decide
  have HSI : Hid (∀ W, IxAt W w.heap.size 8 X → Calls Tryz.prog 17 #[.pointer (some ⟨w.heap.size, 0, none⟩), .int .i64 1] W (SincePost W [⟨2, 5, 2⟩])) := Lib.hid fun W h => by
    have := xsince_calls w.heap.size 8 X 1 W h F2 (by unfold I64; omega)
    rwa [s1] at this
  have HHA : Hid (∀ W, IxAt W w.heap.size 8 X → Calls Tryz.prog 12 #[.pointer (some ⟨w.heap.size, 0, none⟩), .int .i64 5] W (SetPost W [⟨8, 19⟩])) := Lib.hid fun W h => by
    have := has_any (some ⟨w.heap.size, 0, none⟩) 8 5 (itemsOf X.L 5) W (OfAt.of h F2 5) (.inr ⟨_, rfl, by obtain ⟨p, q, lv, hb, _⟩ := h; exact cell_blk hb 0 rfl⟩) s5
    rwa [s2] at this
  have HFO : Hid (∀ W, IxAt W w.heap.size 8 X → Calls Tryz.prog 18 #[.pointer (some ⟨w.heap.size, 0, none⟩), .int .i64 5] W (XPost W w.heap.size 8 ⟨[], X.c⟩ (.int .i64 11))) := Lib.hid fun W h => by
    have := xforget_calls w.heap.size 8 X 5 W h F2
    rwa [s3, s4] at this
  have HBY : Hid (∀ W, IxAt W w.heap.size 8 ⟨[], X.c⟩ → Calls Tryz.prog 19 #[.pointer (some ⟨w.heap.size, 0, none⟩)] W fun e w' => e = .returned (.int .i64 0) ∧ Ext W w') := Lib.hid fun W h => xbytes_calls _ _ _ W h
  have HN := Lib.hid (xnew_calls 8 w)
  clear s1 s2 s3 s4 s5 hX F1 F2
  go_enter Tryz.func4, Tryz.ntmps4
  go_wp2_with fail
  refine HN.out.mono ?_
  rintro e w1 (⟨_, rfl, hix, hx1⟩ | ⟨hh, _⟩)
  rotate_left
  · rw [uOk_8] at hh; cases hh
  go_wp2_with fail
  refine (HP1.out _ hix).mono ?_
  rintro e w2 ⟨rfl, hix2, hc2⟩
  have hx2 := hx1.chx hc2 (Nat.le_refl _)
  clear hix hx1 hc2
  go_wp2_with fail
  refine (HP2.out _ hix2).mono ?_
  rintro e w3 ⟨rfl, hix3, hc3⟩
  have hx3 := hx2.chx hc3 (Nat.le_refl _)
  clear hix2 hx2 hc3
  go_wp2_with fail
  refine (HSI.out _ hix3).mono ?_
  rintro e w4 ⟨V, rfl, hV, hx4⟩
  have hix4 := hix3.ext hx4
  replace hx4 := hx3.trans hx4
  obtain ⟨A, c, rfl, -⟩ := own_shape hV
  clear hx3 
  go_wp2_with fail
  refine (HHA.out _ hix4).mono ?_
  rintro e w5 ⟨A2, c2, rfl, hS, hN, hx5⟩
  have hix5 := hix4.ext hx5
  have HNM := Lib.hid ((sat_of_own (l := [⟨5, 2⟩]) hV).ext hx5)
  replace hx5 := hx4.trans hx5
  have HS5 := Lib.hid (spans_calls A2 c2 [⟨8, 19⟩] w5 hS.out (by decide))
  clear hx4 hix4 hix3 hV hS hN
  dsimp only [List.length_cons, List.length_nil, Nat.zero_add] at HS5 ⊢
  go_wp2_with fail
  refine HS5.out.mono ?_
  rintro e w6 ⟨V6, rfl, hV6, hx6⟩
  obtain ⟨A6, c6, rfl, -⟩ := own_shape hV6
  have hix6 := hix5.ext hx6
  have HNM6 := Lib.hid (HNM.out.ext hx6)
  have HX6 := Lib.hid (hx5.trans hx6)
  have HR6 := Lib.hid (sat_of_own hV6)
  clear HS5 hV6 hx6 hx5 hix5 HNM
  dsimp only [List.length_cons, List.length_nil, Nat.zero_add]
  go_wp2_with fail
  have hx7 : Ext w6 (w6.alloc (.cells #[.int .i64 8, .int .i64 19] 53)) := (Ext.refl w6).alloc _
  have hSB : SAt (w6.alloc (.cells #[.int .i64 8, .int .i64 19] 53)) (some ⟨w6.heap.size, 0, none⟩) [⟨8, 19⟩] := fun k hk => by
    obtain rfl : k = 0 := by simpa using hk
    have := heap_alloc_new w6 (.cells #[.int .i64 8, .int .i64 19] 53)
    exact ⟨w6.heap.size, 0, rfl, cell_blk this 0 rfl, cell_blk this 1 rfl⟩
  refine (list_calls A6 (some ⟨w6.heap.size, 0, none⟩) c6 1 [⟨8, 19⟩] [⟨8, 19⟩] _ (HR6.out.ext hx7) hSB (by decide) (by decide)).mono ?_
  rintro e w8 ⟨rfl, hx8⟩
  replace hx8 := hx7.trans hx8
  have hix8 := hix6.ext hx8
  have hz := HNM6.out.ext hx8
  obtain ⟨nb, no, rfl, -, n1⟩ := hz 0 (by decide)
  have HX8 := Lib.hid (HX6.out.trans hx8)
  have hdd : decide (([⟨8, 19⟩] : List Sp) = [⟨8, 19⟩]) = true := by decide
  rw [hdd]
  simp only [Nat.zero_mul, Nat.add_zero, List.getElem_cons_zero] at n1
  clear hx7 hSB hx8 hz HX6 HR6 HNM6 hix6
  go_wp2_with fail
  refine (HFO.out _ hix8).mono ?_
  rintro e w9 ⟨rfl, hix9, hc9⟩
  have hx9 := HX8.out.chx hc9 (Nat.le_refl _)
  clear hix8 hc9 n1
  go_wp2_with fail
  refine (HBY.out _ hix9).mono ?_
  rintro e w10 ⟨rfl, hx10⟩
  replace hx10 := hx9.trans hx10
  clear hix9 hx9
  go_wp2
  go_ret
  exact ⟨rfl, hx10⟩
end Go.Proofs.YtgcplndmhlideaaGreat
