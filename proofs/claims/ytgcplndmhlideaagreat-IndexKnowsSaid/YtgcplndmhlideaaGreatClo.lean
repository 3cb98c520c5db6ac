/- What the laws' own yields do: they gather numbers, and ask for more or not. -/
import Derived.Test.YtgcplndmhlideaaGreatSince
namespace Go.Proofs.YtgcplndmhlideaaGreat
open Go.RowKit

theorem infoI : (Tryz.prog.info? 2).map (fun i => (i.zero, i.size, i.bytes)) = some (some (.int .i64 0), 1, 8) := by kernel_rfl
theorem news1 (W : World) (a : Value) (t : TypeId) : ∀ j u, [a][j]? = some u → (W.alloc (.cells #[a] t)).cell? ((⟨W.heap.size, 0, none⟩ : Addr).add j) = some u := by
  exact World.news_of_block (heap_alloc_new W _)
theorem ret_bool {a b : Bool} (h : a = b) : Ending.returned (.bool a) = .returned (.bool b) := by rw [h]
/-- The gathered numbers, and what a yield keeps. -/
def Gat (B ob n : Nat) (xs : List Value) (W : World) : Prop := ∃ v, Boxed W ob 31 v ∧ W.ownsRow B 2 1 v n xs
def KeepC (ob : Nat) (W W' : World) : Prop := ∀ (b : Nat) (cs : Array Value) (t : TypeId), b ≠ ob → t ≠ 2 → W.heap[b]? = some (.cells cs t (0, 0)) → W'.heap[b]? = some (.cells cs t (0, 0))
def CloPost (B ob n : Nat) (xs : List Value) (W : World) (r : Bool) (e : Ending) (W' : World) : Prop := e = .returned (.bool r) ∧ Gat B ob n xs W' ∧ KeepsOthers W W' ∧ Below B W W' ∧ KeepC ob W W'
theorem keepC {W w1 : World} {ob B n m : Nat} {v u : Value} {xs : List Value} {o : Obj} (hrow : W.ownsRow B 2 1 v n xs) (hg : (W.alloc o).grownBy w1 v.ownBlock) : KeepC ob W (w1.setCell ⟨ob, m, none⟩ u) := by
  intro b cs t hb ht hh
  have hlt : b < W.heap.size := (Array.getElem?_eq_some_iff.1 hh).1
  have h1 := (Below.heap_alloc W o b hlt).trans hh
  have h2 := (hg.block b (by simp; omega) (fun e => by
    rcases hrow.2 with ⟨rfl, _⟩ | ⟨g, cap, cur, rfl, _, h3, _⟩
    · cases e
    · simp [Value.ownBlock] at e
      subst e
      rw [hh] at h3
      cases h3
      exact ht rfl)).trans h1
  exact (Below.heap_setCell w1 ⟨ob, m, none⟩ u b hb).trans h2

set_option maxHeartbeats 1000000 in
set_option maxRecDepth 100000 in
theorem of1_calls (B ob n : Nat) (xs : List Value) (z : Int) (W : World) (h : Gat B ob n xs W) (hB : B ≤ W.heap.size) (hob : B ≤ ob) (hn : n < 10000) : Calls Tryz.prog 29 #[.int .i64 z, .pointer (some ⟨ob, 0, none⟩)] W (CloPost B ob (n + 1) (xs ++ [.int .i64 z]) W (decide (n + 1 < 10000))) := by
  obtain ⟨i0, hi, hz0, hz1, hz2⟩ := info_parts infoI
  obtain ⟨v, hv, hrow⟩ := h
  have hc := hv.cell
  go_enter Tryz.func29, Tryz.ntmps29
  go_wp2_with (at_builtin; refine wpList_append_own _ rfl _ _ 31 rfl B 2 i0 (.int .i64 0) 1 8 Tryz.underlying31 hi hz0 hz1 hz2 rfl (by decide) _ _ _ rfl (hrow.alloc _) ⟨W.heap.size, 0, none⟩ 1 1 [.int .i64 z] rfl rfl (news1 _ _ _) (by simp [Value.oneCell']) (by unfold maxLen; omega) (by omega) (by simp; omega) ?_; intro v' w1 hown' hgrow _; obtain ⟨g', cap', rfl⟩ := ownsRow_succ hown'; obtain ⟨hv1, hv2, hr2, hk2, hb2⟩ := hv.appended (by decide) hrow hB (by omega) hown' hgrow; have hc1 := hv1.cell; have hf1 := hv1.frozen; have hc2 := hv2.cell)
  go_ret
  exact ⟨ret_bool (decide_eq_decide.2 (by omega)), ⟨_, hv2, hr2⟩, hk2, hb2, keepC hrow hgrow⟩

end Go.Proofs.YtgcplndmhlideaaGreat
