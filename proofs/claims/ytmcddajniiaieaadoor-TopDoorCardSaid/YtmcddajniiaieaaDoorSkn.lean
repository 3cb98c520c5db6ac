/- The contract of sketch.New. -/
import Derived.Test.YtmcddajniiaieaaDoorSka
import Derived.Test.YtmcddajniiaieaaDoorOrder
import Derived.Deep.RegionHeld3
import Derived.Deep.RegionLaw
import Derived.Laws.MakeOwn
import Derived.Laws.OwnMore
namespace Go.Proofs.YtmcddajniiaieaaDoor
open Go.RowKit

def zrow : Array Value := madeCells (Value.int .i64 0).cells 1024
theorem run_zrow (w : World) : (Instr.makeSlice 28 (.int .i64 1024) (.int .i64 1024)).run Tryd.prog w = .ok (.slice (some ⟨w.heap.size, 0, none⟩) 1024 1024) (w.alloc (.cells zrow 2)) := by
  obtain ⟨i0, hi, hz0, hz1, hz2⟩ := info_parts infoI
  have := run_makeSlice (P := Tryd.prog) w 28 2 i0 (.int .i64 0) Tryd.underlying28 hi hz0 .i64 .i64 1024 1024 (by omega) (Int.le_refl _) (by rw [hz1]; decide) (by rw [hz2]; omega) (by omega)
  rw [hz1] at this
  exact this
theorem zrow_at (j : Nat) (hj : j < 1024) : ∃ n, zrow[j]? = some (.int .i64 n) := ⟨0, by
  have h : zrow.toList = List.replicate 1024 (.int .i64 0) := toList_madeCells_one (.int .i64 0) 1024
  rw [← Array.getElem?_toList, h, List.getElem?_replicate, if_pos hj]⟩
theorem infoRows : (Tryd.prog.info? 28).map (fun i => (i.zero, i.size, i.bytes)) = some (some (.slice none 0 0), 1, 24) := by kernel_rfl
theorem own_far {W w3 : World} {N n size b : Nat} {e t : TypeId} {v v1 : Value} {xs : List Value} {cs : Array Value} (hown : W.ownsRow N e size v n xs) (hb : W.heap[b]? = some (.cells cs t (0, 0))) (ht : t ≠ e) (hm : Moved W w3 v v1) : w3.heap[b]? = some (.cells cs t (0, 0)) := by
  refine (hm.1.block b (Array.getElem?_eq_some_iff.1 hb).1 (fun e1 => ?_)).trans hb
  rcases hown.2 with ⟨rfl, _⟩ | ⟨g, cap, cur, rfl, _, hh, _⟩
  · cases e1
  · have e2 : b = g := by simpa [Value.ownBlock] using e1
    subst e2
    rw [hb] at hh
    simp at hh
    exact ht hh.2
theorem own_set {w : World} {N n size b j : Nat} {e t : TypeId} {v u : Value} {xs : List Value} {cs : Array Value} (h : w.ownsRow N e size v n xs) (hb : w.heap[b]? = some (.cells cs t (0, 0))) (ht : t ≠ e) : (w.setCell ⟨b, j, none⟩ u).ownsRow N e size v n xs := by
  refine ⟨h.1, ?_⟩
  rcases h.2 with h2 | ⟨g, cap, cur, hv, hg, hh, r⟩
  · exact .inl h2
  · refine .inr ⟨g, cap, cur, hv, hg, (set_far _ (fun e1 => ?_)).trans hh, r⟩
    subst e1
    rw [hb] at hh
    simp at hh
    exact ht hh.2
/-- The rows that stand. -/
def SkRows (w : World) (N k : Nat) (xs : List Value) : Prop := xs.length = k ∧ ∀ i, i < k → ∃ r ds, xs[i]? = some (.slice (some ⟨r, 0, none⟩) 1024 1024) ∧ N ≤ r ∧ w.heap[r]? = some (.cells ds 2 (0, 0)) ∧ ∀ j, j < 1024 → ∃ n, ds[j]? = some (.int .i64 n)
def SkN (w : World) (sb k : Nat) (wr : World) : Prop := ∃ v xs, wr.heap[sb]? = some (.cells #[v, .int .i64 16384, .int .i64 0] 100 (0, 0)) ∧ wr.ownsRow w.heap.size 28 1 v k xs ∧ SkRows wr w.heap.size k xs ∧ Ext w wr

set_option maxHeartbeats 2000000 in
set_option maxRecDepth 100000 in
theorem sknew_calls (B : Nat) (w : World) (hB : B ≤ w.heap.size) : Calls Tryd.prog 17 #[.int .i64 4, .int .i64 1024, .int .i64 16384] w fun e w' => ∃ sb, e = .returned (.tuple #[.pointer (some ⟨sb, 0, none⟩), .int .i64 0]) ∧ SkAt w' B sb 0 ∧ Ext w w' := by
  have hmk := run_zrow
  have hb0 := heap_alloc_new w (.cells #[.slice none 0 0, .int .i64 16384, .int .i64 0] 100)
  have hx0 : Ext w (w.alloc (.cells #[.slice none 0 0, .int .i64 16384, .int .i64 0] 100)) := (Ext.refl w).alloc _
  go_enter Tryd.func17, Tryd.ntmps17
  go_wp2
  have hr0 : SkN w w.heap.size 0 (w.alloc (.cells #[.slice none 0 0, .int .i64 16384, .int .i64 0] 100)) := ⟨_, [], hb0, World.ownsRow_nil _ _ _ _, ⟨rfl, fun i hi => absurd hi (by omega)⟩, hx0⟩
  obtain ⟨sb, hsb⟩ : ∃ s, w.heap.size = s := ⟨_, rfl⟩
  generalize (w.alloc (.cells #[.slice none 0 0, .int .i64 16384, .int .i64 0] 100)) = W0 at *
  have HSB := Lib.hid hsb
  have hR : ∃ P : Nat → World → Prop, (∀ k W, P k W ↔ SkN w sb k W) := ⟨fun k W => SkN w sb k W, fun _ _ => Iff.rfl⟩
  rw [hsb] at hr0
  rw [hsb]
  clear hb0 hx0 hR
  go_loopw [35] (fun i wr => ∃ k : Nat, k ≤ 4 ∧ i = .int .i64 k ∧ SkN w sb k wr) (fun i _ => 4 - (intOf i).toNat)
  case atStart => exact ⟨0, Nat.zero_le _, rfl, hr0⟩
  case round =>
    obtain ⟨k, hk, rfl, v, xs, hb, hown, hrows, hx⟩ := hrel
    by_cases hlt : k < 4
    · obtain ⟨A, c, rfl, -⟩ := own_shape hown
      have l0 : wr.cell? ⟨sb, 0, none⟩ = some (.slice A k c) := blk_cell hb 0 rfl
      have e1 : ∀ o1, (wr.alloc o1).cell? ⟨sb, 0, none⟩ = some (.slice A k c) := fun o1 => ((Ext.refl wr).alloc o1).cell l0
      have e2 : ∀ o1 o2, ((wr.alloc o1).alloc o2).cell? ⟨sb, 0, none⟩ = some (.slice A k c) := fun o1 o2 => (((Ext.refl wr).alloc o1).alloc o2).cell l0
      have HR := Lib.hid (show ∀ o1 o2, ((wr.alloc o1).alloc o2).ownsRow w.heap.size 28 1 (.slice A k c) k xs from fun o1 o2 => (hown.alloc o1).alloc o2)
      have HN2 := Lib.hid (show ∀ o1 cs, ((wr.alloc o1).alloc (.cells cs 28)).heap[wr.heap.size + 1]? = some (.cells cs 28 (0, 0)) from fun o1 cs => by have := heap_alloc_new (wr.alloc o1) (.cells cs 28); simpa using this)
      have hNb : ∀ o1 o2, w.heap.size ≤ ((wr.alloc o1).alloc o2).heap.size := fun o1 o2 => by have := hx.size; simp; omega
      have HBB := Lib.hid (show ∀ o1 o2, ((wr.alloc o1).alloc o2).heap[sb]? = some (.cells #[.slice A k c, .int .i64 16384, .int .i64 0] 100 (0, 0)) from fun o1 o2 => (((Ext.refl wr).alloc o1).alloc o2).block hb)
      have HRd := Lib.hid (show ∀ o1 o2, ((wr.alloc o1).alloc o2).drew.ownsRow w.heap.size 28 1 (.slice A k c) k xs from fun o1 o2 => HR.out o1 o2)
      have HBd := Lib.hid (show ∀ o1 o2, ((wr.alloc o1).alloc o2).drew.heap[sb]? = some (.cells #[.slice A k c, .int .i64 16384, .int .i64 0] 100 (0, 0)) from fun o1 o2 => HBB.out o1 o2)
      have HX := Lib.hid hx
      have HRW := Lib.hid hrows
      have hwsz := hx.size
      clear hb hown hrows hx hr0
      go_wp2
      go_region_law (refine step_append_new _ (by rfl) _ _ 98 (by rfl) w.heap.size 28 _ 1 24 Tryd.underlying98 infoRows rfl (by omega) (.slice A k c) k xs (by rfl) (HR.out _ _) (wr.heap.size + 1) 1 1 #[.slice (some ⟨wr.heap.size, 0, none⟩) 1024 1024] (0, 0) (by rfl) (HN2.out _ _) (by rfl) (by simp [Value.oneCell']) (by simp [maxLen]; omega) (by omega) (hNb _ _) ?_; intro v1 w3 hown2 hm2; obtain ⟨A1, k1, rfl, _⟩ := own_shape hown2; have hb3 := own_far (HRd.out _ _) (HBd.out _ _) (by decide) hm2; have d0 := blk_cell hb3 0 rfl; have d1 := blk_frozen hb3 0; have HB3 := Lib.hid hb3; have HM2 := Lib.hid hm2; have HO2 := Lib.hid hown2; clear hb3 hm2 hown2)
      all_goals
        have hxW : Ext wr ((wr.alloc (.cells zrow 2)).alloc (.cells #[.slice (some ⟨wr.heap.size, 0, none⟩) 1024 1024] 28)).drew := (((Ext.refl wr).alloc _).alloc _).drew
        have hnw : ((wr.alloc (.cells zrow 2)).alloc (.cells #[.slice (some ⟨wr.heap.size, 0, none⟩) 1024 1024] 28)).drew.heap[wr.heap.size]? = some (.cells zrow 2 (0, 0)) := (((Ext.refl (wr.alloc (.cells zrow 2))).alloc _).drew).block (heap_alloc_new wr _)
        have hrel' : SkN w sb (k + 1) (w3.setCell ⟨sb, 0, none⟩ (.slice A1 (k + 1) k1)) := by
          have far3 : ∀ (r : Nat) (ds : Array Value), ((wr.alloc (.cells zrow 2)).alloc (.cells #[.slice (some ⟨wr.heap.size, 0, none⟩) 1024 1024] 28)).drew.heap[r]? = some (.cells ds 2 (0, 0)) → (w3.setCell ⟨sb, 0, none⟩ (.slice A1 (k + 1) k1)).heap[r]? = some (.cells ds 2 (0, 0)) := fun r ds h => by
            have h3 := own_far (HRd.out _ _) h (by decide) HM2.out
            exact (set_far _ (ne_of_ty h3 HB3.out (by decide))).trans h3
          obtain ⟨hl, hr⟩ := HRW.out
          refine ⟨_, xs ++ [.slice (some ⟨wr.heap.size, 0, none⟩) 1024 1024], (set_blk HB3.out _).trans rfl, own_set HO2.out HB3.out (by decide), ⟨by simp [hl], fun i hi => ?_⟩, (ext_moved (HX.out.trans hxW) (HRd.out _ _) HM2.out).setCell (by show w.heap.size ≤ sb; rw [HSB.out]; exact Nat.le_refl _) _⟩
          by_cases hik : i < k
          · obtain ⟨r, ds, r1, r2, r3, r4⟩ := hr i hik
            exact ⟨r, ds, by rw [List.getElem?_append_left (by omega)]; exact r1, r2, far3 r ds (hxW.block r3), r4⟩
          · obtain rfl : i = k := by omega
            exact ⟨wr.heap.size, zrow, by rw [List.getElem?_append_right (by omega), hl]; simp, hwsz, far3 _ _ hnw, zrow_at⟩
        clear HR HN2 hNb HBB HRd HBd HX HRW HB3 HM2 HO2 hxW hnw e1 e2 l0 d0 d1 hmk
        go_wp2
        go_roundw
        case rel => exact ⟨k + 1, by omega, by go_num, hrel'⟩
        case measure => simp [intOf] <;> omega
    · obtain rfl : k = 4 := by omega
      obtain ⟨A, c, rfl, -⟩ := own_shape hown
      have HOW := Lib.hid hown
      have HB := Lib.hid hb
      have HRW := Lib.hid hrows
      clear hb hown hrows hr0 hmk
      go_wp2
      refine bodyPost_ret (v := .tuple #[.pointer (some ⟨sb, 0, none⟩), .int .i64 0]) (by simp [results, Tryd.results17, go_sem]) rfl ?_
      rcases HOW.out.2 with ⟨_, h0⟩ | ⟨g, cap, cur, hv, hg, hh, _, hc1, hc2, hc3⟩
      · simp at h0
      · cases hv
        obtain ⟨hl, hr⟩ := HRW.out
        refine ⟨sb, rfl, ⟨⟨g, _, HB.out, cur, hh, fun i hi => ?_⟩, by rw [← HSB.out]; exact hB⟩, hx⟩
        obtain ⟨r, ds, r1, r2, r3, r4⟩ := hr i hi
        refine ⟨r, 1024, ds, ?_, Nat.le_trans hB r2, r3, r4⟩
        rw [← hc3, List.getElem?_take, if_pos (by omega)] at r1
        rw [← Array.getElem?_toList]
        exact r1
end Go.Proofs.YtmcddajniiaieaaDoor
