/- The index's of, whose answer stood before. -/
import Derived.Test.YtgcplndmhlideaaGreatIxa
namespace Go.Proofs.YtgcplndmhlideaaGreat
open Go.RowKit
def OfPost0 (w0 w : World) (l : List (Pr It)) (e : Ending) (w' : World) : Prop := ∃ p, e = .returned (.agg #[.pointer p]) ∧ ItAt w0 p l ∧ Ext w w'
/-- The index's version, or nothing. -/
def OfAt (w : World) (r : Option Addr) (v : Int) (l : List (Pr It)) : Prop := ∀ W, Ext w W → Calls Tryz.prog 30 #[.pointer r, .int .i64 v] W (OfPost0 w W l)

set_option maxHeartbeats 1000000 in
set_option maxRecDepth 100000 in
theorem ofx0_calls (xb : Nat) (u : Int) (x : Ix) (v : Int) (w0 w : World) (h : IxAt w0 xb u x) (hf : Fit u x) (h00 : Ext w0 w) :
    Calls Tryz.prog 30 #[.pointer (some ⟨xb, 0, none⟩), .int .i64 v] w (OfPost0 w0 w (itemsOf x.L v)) := by
  have hx0 : Ext w (w.alloc (.cells #[.pointer none] 81)) := (Ext.refl w).alloc _
  have hb0 := heap_alloc_new w (.cells #[.pointer none] 81)
  have e0 : (w.alloc (.cells #[.pointer none] 81)).cell? ⟨w.heap.size, 0, none⟩ = some (.pointer none) := by rw [cell_of_row _ _ 0 _ _ _ hb0]; rfl
  have f0 : (w.alloc (.cells #[.pointer none] 81)).frozen? ⟨w.heap.size, 0, none⟩ = false := frozen_blk hb0 0
  have H0 := Lib.hid h
  have HB0 := Lib.hid hb0
  have HXX := Lib.hid (h00.trans hx0)
  clear h h00 hb0
  go_enter Tryz.func30, Tryz.ntmps30
  go_wp2_with fail
  generalize w.alloc (.cells #[.pointer none] 81) = W at *
  refine (rightN_calls v W).mono ?_
  rintro e w1 ⟨rfl, hx1⟩
  replace e0 := hx1.cell e0
  replace f0 : w1.frozen? ⟨w.heap.size, 0, none⟩ = false := frozen_blk (hx1.block HB0.out) 0
  have hb1 := Lib.hid (hx1.block HB0.out)
  have h1 := Lib.hid H0.out
  replace HXX := Lib.hid (HXX.out.trans hx1)
  have HX := hx0.trans hx1
  clear H0 HB0 hx0 hx1
  cases eR : (decide (0 ≤ v) && decide (v ≤ 1099511627776))
  · have hi := items_out hf (v := v) (by simpa using eR)
    have HI := Lib.hid hi
    clear hi
    go_wp2
    have k0 := set1_cells hb1.out (.pointer none)
    exact bodyPost_ret (v := .agg #[.pointer none]) (by simp [results, Tryz.results30, go_sem, k0]) rfl ⟨none, rfl, by rw [HI.out]; exact it_nil _, HX.setCell (p := ⟨w.heap.size, 0, none⟩) (Nat.le_refl _) _⟩
  · obtain ⟨k, rfl⟩ : ∃ k : Nat, v = k := ⟨v.toNat, by simp at eR; omega⟩
    have hk : k ≤ 1099511627776 := by simp at eR; omega
    obtain ⟨p, q, lv, hb', hm, _, hv⟩ := h1.out
    have hb := HXX.out.block hb'
    have hgl := vers_get hm hv hf k
    obtain ⟨t, hat', hwf, hl⟩ := hm
    have hat := hat'.ext HXX.out
    have hgo : Mp.getO k t = getL k lv := by rw [← hl, ← getO_getL t hwf k]; cases t <;> rfl
    rw [← hgo] at hgl
    have c1 : w1.cell? ⟨xb, 1, none⟩ = some (.pointer p) := by rw [cell_of_row _ _ 1 _ _ _ hb]; rfl
    have hw : IntKind.u64.wrap (k : Int) = (k : Int) := IntWalk.u64_in _ (by omega)
    have HC := Lib.hid (Mp.mget_calls p t k w1 hat hwf (by omega))
    have HF := Lib.hid hf
    generalize itemsOf x.L k = l at *
    generalize Mp.getO k t = R at *
    have HGL := Lib.hid hgl
    clear hgl hat hat' hwf hl hgo hb hb' hv h1 hf
    go_wp2_with fail
    refine HC.out.mono ?_
    rintro e w2 ⟨rfl, hx2⟩
    replace e0 := hx2.cell e0
    have hb2 := hx2.block hb1.out
    have hb3 : (w2.alloc (.cells #[.pointer none] 81)).heap[w.heap.size]? = some (.cells #[.pointer none] 81 (0, 0)) := ((Ext.refl w2).alloc _).block hb2
    replace f0 : w2.frozen? ⟨w.heap.size, 0, none⟩ = false := frozen_blk hb2 0
    replace HX := HX.trans hx2
    have HX12 := Lib.hid hx2
    have HB2 := Lib.hid hb2
    clear hb1 hx2 c1 hb2 hb3
    cases R with
    | none =>
      have HI := Lib.hid (HGL.out.2 rfl)
      have hm : Mp.getV none = .tuple #[.agg #[.pointer none], .bool false] := rfl
      have hx3 : Ext w2 (w2.alloc (.cells #[.pointer none] 81)) := (Ext.refl w2).alloc _
      have hb3 := Lib.hid (hx3.block HB2.out)
      have e3 := hx3.cell e0
      have f3 : (w2.alloc (.cells #[.pointer none] 81)).frozen? ⟨w.heap.size, 0, none⟩ = false := frozen_blk hb3.out 0
      replace HX := HX.trans hx3
      rw [hm]
      clear hm hx3
      go_wp2
      have k0 := set1_cells hb3.out (.pointer none)
      exact bodyPost_ret (v := .agg #[.pointer none]) (by simp [results, Tryz.results30, go_sem, k0]) rfl ⟨_, rfl, by rw [HI.out]; exact it_nil _, HX.setCell (p := ⟨w.heap.size, 0, none⟩) (Nat.le_refl _) _⟩
    | some q =>
      have HI := Lib.hid (HGL.out.1 q rfl)
      have HX1 := Lib.hid (HX12.out.alloc (.cells #[.pointer q] 81))
      have hm : Mp.getV (some q) = .tuple #[.agg #[.pointer q], .bool true] := rfl
      have hx3 : Ext w2 (w2.alloc (.cells #[.pointer q] 81)) := (Ext.refl w2).alloc _
      have hb3 := Lib.hid (hx3.block HB2.out)
      have e3 := hx3.cell e0
      have f3 : (w2.alloc (.cells #[.pointer q] 81)).frozen? ⟨w.heap.size, 0, none⟩ = false := frozen_blk hb3.out 0
      replace HX := HX.trans hx3
      rw [hm]
      clear hm hx3
      go_wp2
      have k0 := set1_cells hb3.out (.pointer q)
      refine bodyPost_ret (v := .agg #[.pointer q]) (by simp [results, Tryz.results30, go_sem, k0]) rfl ⟨_, rfl, HI.out, HX.setCell (p := ⟨w.heap.size, 0, none⟩) (Nat.le_refl _) _⟩
theorem OfAt.of {w : World} {xb : Nat} {u : Int} {x : Ix} (h : IxAt w xb u x) (hf : Fit u x) (v : Int) : OfAt w (some ⟨xb, 0, none⟩) v (itemsOf x.L v) := fun W hW => ofx0_calls xb u x v w W h hf hW
set_option maxRecDepth 100000 in
theorem of_nil (v : Int) (w : World) : OfAt w none v [] := by
  intro W _
  have hx0 : Ext W (W.alloc (.cells #[.pointer none] 81)) := (Ext.refl W).alloc _
  have hb0 := heap_alloc_new W (.cells #[.pointer none] 81)
  have e0 : (W.alloc (.cells #[.pointer none] 81)).cell? ⟨W.heap.size, 0, none⟩ = some (.pointer none) := by rw [cell_of_row _ _ 0 _ _ _ hb0]; rfl
  have f0 : (W.alloc (.cells #[.pointer none] 81)).frozen? ⟨W.heap.size, 0, none⟩ = false := frozen_blk hb0 0
  have hb1 := Lib.hid hb0
  clear hb0
  go_enter Tryz.func30, Tryz.ntmps30
  go_upto_region 1 with (fail)
  generalize W.alloc (.cells #[.pointer none] 81) = W1 at *
  go_wp2
  have k0 := set1_cells hb1.out (.pointer none)
  exact bodyPost_ret (v := .agg #[.pointer none]) (by simp [results, Tryz.results30, go_sem, k0]) rfl ⟨none, rfl, it_nil _, hx0.setCell (p := ⟨W.heap.size, 0, none⟩) (Nat.le_refl _) _⟩
end Go.Proofs.YtgcplndmhlideaaGreat
