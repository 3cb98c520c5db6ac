/- The contract of the reference's Fewest, whole. -/
import Derived.Test.YtdcdnnbijjcfmaaFew
namespace Go.Proofs.Ytdcdnnbijjcfmaa
open Go.RowKit

set_option maxRecDepth 100000 in
theorem few_nil (AU : Option Addr) (lu cu : Nat) (B : Option Addr) (lb d : Nat) (n : Int) (c : Cf) (A : Option Addr) (ca : Nat) (w : World) :
    Calls Try.prog 19 #[.slice AU lu cu, .slice A 0 ca, .slice B lb d, .int .i64 n, .agg c.cells.toArray] w fun e w' => e = .returned (.int .i64 0) ∧ Ext w w' := by
  obtain ⟨u, wa, mo, r3, r4, r5, r6, r7, r8, r9⟩ := c
  show Calls Try.prog 19 #[.slice AU lu cu, .slice A 0 ca, .slice B lb d, .int .i64 n, .agg #[.int .i64 u, .int .i64 wa, .int .i64 mo, .int .i64 r3, .int .i64 r4, .int .i64 r5, .int .i64 r6, .int .i64 r7, .int .i64 r8, .int .i64 r9]] w fun e w' => e = .returned (.int .i64 0) ∧ Ext w w'
  have hx0 : Ext w (w.alloc (.cells #[.int .i64 u, .int .i64 wa, .int .i64 mo, .int .i64 r3, .int .i64 r4, .int .i64 r5, .int .i64 r6, .int .i64 r7, .int .i64 r8, .int .i64 r9] 24)) := (Ext.refl w).alloc _
  go_enter Try.func19, Try.ntmps19
  go_wp2
  go_ret
  exact ⟨rfl, hx0⟩
theorem few_nil' (U F : List Sp) (n : Int) (c : Cf) (k : Nat) : fewS U F n c k [] = 0 := by cases k <;> rfl
theorem fewest_calls (AU : Option Addr) (cu : Nat) (U : List Sp) (B : Option Addr) (d : Nat) (F : List Sp) (n : Int) (c : Cf) (hUN : Norm U) (hlU : U.length ≤ 60000) (hlF : F.length ≤ 100000) (hLn : lengthB n = true) :
    ∀ (k : Nat), k ≤ 900 → ∀ (L : List Sp) (a : Int) (A : Option Addr) (ca : Nat) (w : World), SAt w AU U → SAt w B F → SAt w A L → L.length ≤ 60000 → Pok L F c (endI n) → Shut L → Rest U L a → Enough L c.u k →
      Calls Try.prog 19 #[.slice AU U.length cu, .slice A L.length ca, .slice B F.length d, .int .i64 n, .agg c.cells.toArray] w fun e w' => e = .returned (.int .i64 (fewS U F n c k L)) ∧ Ext w w' := by
  intro k
  induction k with
  | zero =>
    intro _ L a A ca w hU hF hA hl h hS hR hk
    obtain rfl : L = [] := enough_no h hk
    exact few_nil AU _ cu B _ d n c A ca w
  | succ k ih =>
    intro hk9 L a A ca w hU hF hA hl h hS hR hk
    cases L with
    | nil => rw [few_nil']; exact few_nil AU _ cu B _ d n c A ca w
    | cons s l =>
      have h0 : 0 < (s :: l).length := by simp
      refine few_step AU cu U B d F n c hUN hlU hlF k s l A ca w hU hF hA h hl fun e he => ?_
      obtain ⟨a1, a2, a3, a4, a5, a6, a7, _⟩ := any_step h hS hR h0 he hk
      have hcl := cut_len (s :: l) e
      refine ⟨a2, _, few_eq hLn hUN k _ e (by omega) a3 a4 a5 a6, by omega, ?_, fun A' ca' w' h1 h2 h3 => ?_⟩
      · have := fewer_len (F := F) (c := c) k (cutL (s :: l) e); omega
      · rw [← few_eq hLn hUN k _ e (by omega) a3 a4 a5 a6]
        exact ih (by omega) _ e A' ca' w' h1 h2 h3 (by omega) a3 a4 a5 a6
/-- What PlanFewest asks of Fewest. -/
theorem plan_fewest {n : Int} {c : Cf} {g F : List Sp} (hg : Norm g) (hF : Norm F) (hlg : g.length ≤ 1000) (hlF : F.length ≤ 1000) (hE : chkE n c (unitsS g n c.u) F = 0) (hs : SmallU (unitsS g n c.u) c.u) (hn : 0 ≤ n) :
    ∀ (AU : Option Addr) (cu : Nat) (B : Option Addr) (d : Nat) (w : World), SAt w AU (unitsS g n c.u) → SAt w B F → Calls Try.prog 19 #[.slice AU (unitsS g n c.u).length cu, .slice AU (unitsS g n c.u).length cu, .slice B F.length d, .int .i64 n, .agg c.cells.toArray] w fun e w' => e = .returned (.int .i64 ((planP n c (unitsS g n c.u) F).length)) ∧ Ext w w' := by
  intro AU cu B d w hU hF'
  have hp := ok_parts hE
  have hm := hp.1
  have hm2 := hm
  simp [measB] at hm2
  have hUN := units_norm g n c.u
  have h := pok_start hg hF hE hs
  have hS : Shut (unitsS g n c.u) := fun s hsm => by
    have h1 := (h.lok.t s hsm).1
    obtain ⟨e1, e2, e3⟩ := end_bound hm2.2
    omega
  have hul := units_len hg n c.u
  have hen := enough_start h
  have := fewest_calls AU cu _ B d F n c hUN (by omega) (by omega) hm2.2 101 (by omega) _ 0 AU cu w hU hF' hU (by omega) h hS (rest_self hUN) hen
  rw [few_eq hm2.2 hUN 101 _ 0 (by omega) h hS (rest_self hUN) hen] at this
  have hP : planP n c (unitsS g n c.u) F = planF F c 101 (unitsS g n c.u) := by unfold planP planL; rw [if_pos hE]
  rw [hP]
  exact this
end Go.Proofs.Ytdcdnnbijjcfmaa
