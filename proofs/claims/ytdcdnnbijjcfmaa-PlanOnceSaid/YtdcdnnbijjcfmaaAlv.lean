/- The chapter's examples hold. -/
import Derived.Test.YtdcdnnbijjcfmaaPln
namespace Go.Proofs.Ytdcdnnbijjcfmaa
open Go.RowKit

def cfA : Cf := ⟨4, 4, 16, 0, 0, 0, 0, 0, 0, 0⟩
def cfB : Cf := ⟨4, 0, 16, 0, 0, 0, 0, 0, 0, 0⟩
def gA : List Sp := ofS [⟨1, 3⟩, ⟨9, 14⟩]
def fA : List Sp := ofS [⟨0, 40⟩]
theorem alv_a : chkE 40 cfA (unitsS gA 40 4) fA = 0 ∧ planP 40 cfA (unitsS gA 40 4) fA = [⟨0, 16⟩] ∧ unitsS gA 40 4 = [⟨0, 4⟩, ⟨8, 16⟩] := by decide +kernel
theorem alv_b : chkE 40 cfB (unitsS gA 40 4) fA = 0 ∧ planP 40 cfB (unitsS gA 40 4) fA = [⟨0, 4⟩, ⟨8, 16⟩] := by decide +kernel
theorem sat_two (W : World) (a b c d : Int) : SAt (W.alloc (.cells #[.int .i64 a, .int .i64 b, .int .i64 c, .int .i64 d] 48)) (some ⟨W.heap.size, 0, none⟩) [⟨a, b⟩, ⟨c, d⟩] := fun k hk => by
  rcases k with _ | _ | k
  · exact ⟨_, _, rfl, by simp, by simp⟩
  · exact ⟨_, _, rfl, by simp, by simp⟩
  · simp at hk; omega
theorem alv_small : SmallU (unitsS gA 40 4) 4 := by rw [alv_a.2.2]; intro s hs; simp at hs; rcases hs with rfl | rfl <;> simp

theorem gA_len : gA.length ≤ 50000 := Nat.le_trans (of_length [⟨1, 3⟩, ⟨9, 14⟩]) (by decide)
theorem fA_len : fA.length ≤ 100000 := Nat.le_trans (of_length [⟨0, 40⟩]) (by decide)
theorem alv_planA (W : World) (A : Option Addr) (ca : Nat) (B : Option Addr) (d : Nat) (h1 : SAt W A gA) (h2 : SAt W B fA) :
    Calls Try.prog 13 #[.agg #[.slice A gA.length ca], .agg #[.slice B fA.length d], .int .i64 40, .agg #[.int .i64 4, .int .i64 4, .int .i64 16, .int .i64 0, .int .i64 0, .int .i64 0, .int .i64 0, .int .i64 0, .int .i64 0, .int .i64 0]] W (PlanPost W [⟨0, 16⟩] 0) := by
  have h := plan_calls A ca gA B d fA 40 cfA W h1 h2 (norm_of _) (norm_of _) gA_len fA_len (fun _ => alv_small)
  have e : cfA.u = 4 := rfl
  rw [e, alv_a.1, alv_a.2.1] at h
  exact h
theorem alv_planB (W : World) (A : Option Addr) (ca : Nat) (B : Option Addr) (d : Nat) (h1 : SAt W A gA) (h2 : SAt W B fA) :
    Calls Try.prog 13 #[.agg #[.slice A gA.length ca], .agg #[.slice B fA.length d], .int .i64 40, .agg #[.int .i64 4, .int .i64 0, .int .i64 16, .int .i64 0, .int .i64 0, .int .i64 0, .int .i64 0, .int .i64 0, .int .i64 0, .int .i64 0]] W (PlanPost W [⟨0, 4⟩, ⟨8, 16⟩] 0) := by
  have h := plan_calls A ca gA B d fA 40 cfB W h1 h2 (norm_of _) (norm_of _) gA_len fA_len (fun _ => alv_small)
  have e : cfB.u = 4 := rfl
  rw [e, alv_b.1, alv_b.2] at h
  exact h
theorem alv_ofA (W : World) : Calls Try.prog 22 #[.slice (some ⟨W.heap.size, 0, none⟩) 2 2] (W.alloc (.cells #[.int .i64 1, .int .i64 3, .int .i64 9, .int .i64 14] 48)) (SetPost (W.alloc (.cells #[.int .i64 1, .int .i64 3, .int .i64 9, .int .i64 14] 48)) gA) :=
  of_calls (some ⟨W.heap.size, 0, none⟩) 2 [⟨1, 3⟩, ⟨9, 14⟩] _ (sat_two W 1 3 9 14) (by simp)
theorem alv_ofB (W : World) (nb : Nat) (hnb : nb = W.heap.size) : Calls Try.prog 22 #[.slice (some ⟨nb, 0, none⟩) 1 1] (W.alloc (.cells #[.int .i64 0, .int .i64 40] 48)) (SetPost (W.alloc (.cells #[.int .i64 0, .int .i64 40] 48)) fA) :=
  by subst hnb; exact of_calls (some ⟨W.heap.size, 0, none⟩) 1 [⟨0, 40⟩] _ (sat_one W 0 40) (by simp)

set_option maxHeartbeats 2000000 in
set_option maxRecDepth 100000 in
theorem alive_calls (w : World) : Calls Try.prog 10 #[] w fun e w' => e = .returned (.bool true) ∧ Ext w w' := by
  have HA := Lib.hid alv_planA
  have HB := Lib.hid alv_planB
  have HG := Lib.hid alv_ofA
  have HF := Lib.hid alv_ofB
  generalize gA = G at *
  generalize fA = F at *
  go_enter Try.func10, Try.ntmps10
  go_wp2_with fail
  refine (HG.out _).mono ?_
  rintro e w1 ⟨Ag, cg, rfl, HS1, _, hx1⟩
  replace hx1 := ((Ext.refl w).alloc (.cells #[.int .i64 1, .int .i64 3, .int .i64 9, .int .i64 14] 48)).trans hx1
  clear HG
  go_wp2_with fail
  refine (HF.out _ _ (by simp)).mono ?_
  rintro e w2 ⟨Af, cf, rfl, HS2, _, hx2⟩
  have hx12 : Ext w1 w2 := (((Ext.refl w1).alloc (.cells #[.slice Ag G.length cg] 30)).alloc (.cells #[.int .i64 0, .int .i64 40] 48)).trans hx2
  have h1 := HS1.out.ext hx12
  have c1 : w2.cell? ⟨w1.heap.size, 0, none⟩ = some (.slice Ag G.length cg) := hx2.cell (by simp [go_sem])
  have hz : w1.heap.size < w2.heap.size := block_of_cell c1
  have hxa := (Ext.refl w2).alloc (.cells #[.slice Af F.length cf] 30)
  have h1' := h1.ext hxa
  have h2' := HS2.out.ext hxa
  have c1' := hxa.cell c1
  have c2' : (w2.alloc (.cells #[.slice Af F.length cf] 30)).cell? ⟨w2.heap.size, 0, none⟩ = some (.slice Af F.length cf) := by simp
  have hxw := (hx1.trans hx12).trans hxa
  clear HF hx1 hx12 hx2 HS1 HS2 h1 c1
  go_wp2_with fail
  generalize w2.alloc (.cells #[.slice Af F.length cf] 30) = w3 at *
  refine (HA.out w3 Ag cg Af cf h1' h2').mono ?_
  rintro e w4 ⟨A4, k4, rfl, HS4, hx4⟩
  replace c1' := hx4.cell c1'
  replace c2' := hx4.cell c2'
  have h1'' := h1'.ext hx4
  have h2'' := h2'.ext hx4
  go_wp2_with fail
  refine (HB.out w4 Ag cg Af cf h1'' h2'').mono ?_
  rintro e w5 ⟨A5, k5, rfl, HS5, hx5⟩
  have hS4 := HS4.out.ext hx5
  have HL1 := Lib.hid (fun W (hW : Ext w5 W) B d (hb : SAt W B [⟨0, 16⟩]) => list_calls A4 B k4 d [⟨0, 16⟩] [⟨0, 16⟩] W (hS4.ext hW) hb (by simp) (by simp))
  have HL2 := Lib.hid (fun W (hW : Ext w5 W) B d (hb : SAt W B [⟨0, 4⟩, ⟨8, 16⟩]) => list_calls A5 B k5 d [⟨0, 4⟩, ⟨8, 16⟩] [⟨0, 4⟩, ⟨8, 16⟩] W (HS5.out.ext hW) hb (by simp) (by simp))
  clear HA HB h1' h2' h1'' h2'' c1' c2' hS4
  go_wp2_with fail
  refine (HL1.out _ ((Ext.refl w5).alloc _) _ 1 (sat_one w5 0 16)).mono ?_
  rintro e w6 ⟨rfl, hx6⟩
  replace hx6 := ((Ext.refl w5).alloc (.cells #[.int .i64 0, .int .i64 16] 48)).trans hx6
  go_wp2_with fail
  refine (HL2.out _ (hx6.alloc _) _ 2 (sat_two w6 0 4 8 16)).mono ?_
  rintro e w7 ⟨rfl, hx7⟩
  go_wp2
  go_ret
  exact ⟨by simp, ((hxw.trans hx4).trans hx5).trans ((hx6.alloc _).trans hx7)⟩
end Go.Proofs.Ytdcdnnbijjcfmaa
