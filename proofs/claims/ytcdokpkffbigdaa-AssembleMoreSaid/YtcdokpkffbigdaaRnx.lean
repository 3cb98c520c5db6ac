/- The reference's can, parted, Next. -/
import Derived.Test.YtcdokpkffbigdaaRsm
namespace Go.Proofs.Ytcdokpkffbigdaa
open Go.RowKit

set_option maxHeartbeats 2000000 in
set_option maxRecDepth 100000 in
theorem rcan_calls (s : List UInt8) (f t : Int) (A : Option Addr) (c : Nat) (S : List Sp) (w : World) (h : SAt w A S) (hl : S.length ≤ 1000000) (hsz : s.length ≤ 1000000)
    (hp : s = [] → 0 ≤ f ∧ f ≤ 4611686018427387904 ∧ 0 ≤ t ∧ t ≤ 4611686018427387904) (hS : ∀ q ∈ S, 0 ≤ q.t ∧ q.t ≤ 4611686018427387904) :
    Calls Try.prog 49 #[.agg #[.string ⟨s.toArray⟩, .int .i64 f, .int .i64 t], .slice A S.length c] w fun e w' => e = .returned (.int .i64 (canS ⟨s, f, t⟩ S)) ∧ Ext w w' := by
  have hx0 : Ext w (w.alloc (.cells #[.string ⟨s.toArray⟩, .int .i64 f, .int .i64 t] 40)) := (Ext.refl w).alloc _
  have h' := h.ext hx0
  cases e1 : (s == [])
  · have hs : ¬ s = [] := by simpa using e1
    have HR : Hid (canS ⟨s, f, t⟩ S = s.length) := Lib.hid (by simp [canS, hs])
    clear h h' hS hs hp
    go_enter Try.func49, Try.ntmps49
    go_wp2
    go_ret
    exact ⟨by rw [HR.out]; rfl, hx0⟩
  · have hs : s = [] := by simpa using e1
    subst hs
    obtain ⟨hf0, hf1, ht0, ht1⟩ := hp rfl
    go_enter Try.func49, Try.ntmps49
    go_wp2_with fail
    refine (refFirst_calls A c S f _ h' hl).mono ?_
    rintro e w1 ⟨rfl, hx⟩
    have k0 : w1.cell? ⟨w.heap.size, 0, none⟩ = some (.string ⟨#[]⟩) := hx.cell (by simp [go_sem])
    have k1 : w1.cell? ⟨w.heap.size, 1, none⟩ = some (.int .i64 f) := hx.cell (by simp [go_sem])
    have k2 : w1.cell? ⟨w.heap.size, 2, none⟩ = some (.int .i64 t) := hx.cell (by simp [go_sem])
    have z0 : w.heap.size < w1.heap.size := by have := hx.size; simp at this; omega
    have z1 : ¬ w1.heap.size = w.heap.size := by omega
    have z2 : ¬ w.heap.size = w1.heap.size := by omega
    replace hx := hx0.trans hx
    clear hx0 h' h hl hp
    cases hF : firstS S f
    · have HR : Hid (canS ⟨[], f, t⟩ S = 0) := Lib.hid (by simp [canS, hF])
      have hv : optV none = .agg #[.int .i64 0, .int .i64 0] := rfl
      rw [hv]
      clear hv hF hS
      go_wp2
      refine bodyPost_ret (v := .int .i64 0) (by simp [results, Try.results49, go_sem]) rfl ⟨by rw [HR.out], hx.alloc _⟩
    · rename_i x
      have hxt : 0 ≤ x.t ∧ x.t ≤ 4611686018427387904 := by
        unfold firstS at hF
        cases hl : S[beh S f]? with
        | none => rw [hl] at hF; cases hF
        | some y =>
          rw [hl] at hF
          cases hF
          exact hS y (List.mem_of_getElem? hl)
      rcases x with ⟨xf, xt⟩
      simp only at hxt
      have hv : optV (some ⟨xf, xt⟩) = .agg #[.int .i64 xf, .int .i64 xt] := rfl
      rw [hv]
      clear hv hS
      cases e2 : decide (xf = f)
      · have e3 : ¬ xf = f := by simpa using e2
        have HR : Hid (canS ⟨[], f, t⟩ S = 0) := Lib.hid (by simp [canS, hF, e3])
        clear hF e2
        go_wp2
        refine bodyPost_ret (v := .int .i64 0) (by simp [results, Try.results49, go_sem]) rfl ⟨by rw [HR.out], hx.alloc _⟩
      · have e3 : xf = f := by simpa using e2
        subst e3
        have HR : Hid (canS ⟨[], xf, t⟩ S = min xt t - xf) := Lib.hid (by simp [canS, hF, Int.min_comm])
        clear hF e2
        have hmm : -4611686018427387904 ≤ min xt t - xf ∧ min xt t - xf ≤ 4611686018427387904 := by omega
        go_wp2
        go_ret
        exact ⟨by rw [HR.out]; rfl, hx.alloc _⟩

set_option maxHeartbeats 2000000 in
set_option maxRecDepth 100000 in
theorem parted_calls (s : List UInt8) (f t m : Int) (w : World) (hm : 1 ≤ m) (ht : s ≠ [] → m ≤ s.length ∧ s.length ≤ 1000000) (hp : s = [] → 0 ≤ f ∧ f + m ≤ 4611686018427387904) :
    Calls Try.prog 50 #[.agg #[.string ⟨s.toArray⟩, .int .i64 f, .int .i64 t], .int .i64 m] w fun e w' => e = .returned (.tuple #[(cutA ⟨s, f, t⟩ m).val, (cutB ⟨s, f, t⟩ m).val]) ∧ Ext w w' := by
  have hx0 : Ext w (((w.alloc (.cells #[.string ⟨s.toArray⟩, .int .i64 f, .int .i64 t] 40)).alloc (.cells #[.string ⟨#[]⟩, .int .i64 0, .int .i64 0] 40)).alloc (.cells #[.string ⟨#[]⟩, .int .i64 0, .int .i64 0] 40)) := (((Ext.refl w).alloc _).alloc _).alloc _
  cases e1 : (s == [])
  · have hs : ¬ s = [] := by simpa using e1
    obtain ⟨ht1, ht2⟩ := ht hs
    obtain ⟨sa, hsa⟩ : ∃ sa, s.take m.toNat = sa := ⟨_, rfl⟩
    obtain ⟨sb, hsb⟩ : ∃ sb, s.drop m.toNat = sb := ⟨_, rfl⟩
    have HA : Hid (cutA ⟨s, f, t⟩ m = ⟨sa, 0, 0⟩) := Lib.hid (by simp [cutA, hs, hsa])
    have HB : Hid (cutB ⟨s, f, t⟩ m = ⟨sb, 0, 0⟩) := Lib.hid (by simp [cutB, hs, hsb])
    clear hs hp ht
    go_enter Try.func50, Try.ntmps50
    go_wp2
    go_region
    rw [str_take, str_drop, hsa, hsb]
    clear hsa hsb
    go_wp2
    refine bodyPost_ret (v := .tuple #[.agg #[.string ⟨sa.toArray⟩, .int .i64 0, .int .i64 0], .agg #[.string ⟨sb.toArray⟩, .int .i64 0, .int .i64 0]]) (by simp [results, Try.results50, go_sem]) rfl ⟨by rw [HA.out, HB.out]; rfl, ?_⟩
    exact ((((Ext.refl w).alloc _).alloc _).alloc _).drew
  · have hs : s = [] := by simpa using e1
    obtain ⟨hp1, hp2⟩ := hp hs
    subst hs
    have HA : Hid (cutA ⟨[], f, t⟩ m = ⟨[], f, f + m⟩) := Lib.hid (by simp [cutA])
    have HB : Hid (cutB ⟨[], f, t⟩ m = ⟨[], f + m, t⟩) := Lib.hid (by simp [cutB])
    clear hp ht
    go_enter Try.func50, Try.ntmps50
    go_wp2
    go_region
    go_wp2
    refine bodyPost_ret (v := .tuple #[.agg #[.string ⟨#[]⟩, .int .i64 f, .int .i64 (f + m)], .agg #[.string ⟨#[]⟩, .int .i64 (f + m), .int .i64 t]]) (by simp [results, Try.results50, go_sem]) rfl ⟨by rw [HA.out, HB.out]; rfl, ?_⟩
    exact ((((Ext.refl w).alloc _).alloc _).alloc _).drew
end Go.Proofs.Ytcdokpkffbigdaa
