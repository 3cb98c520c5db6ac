/- The contracts of the index's Get, Bytes and New. -/
import Derived.Test.YtgcplndmhlideaaIxa
import Derived.Deep.RegionHeld3
namespace Go.Proofs.Ytgcplndmhlideaa
open Go.RowKit

theorem cell_blk {w : World} {b : Nat} {cs : Array Value} {t : TypeId} (h : w.heap[b]? = some (.cells cs t (0, 0))) (i : Nat) {u : Value} (hi : cs[i]? = some u) : w.cell? ⟨b, i, none⟩ = some u := by
  rw [cell_of_row _ _ i _ _ _ h]; exact hi
def I64 (n : Int) : Prop := -9223372036854775808 ≤ n ∧ n ≤ 9223372036854775807
/-- A number as an index's maps are asked for it. -/
theorem get_key {u : Int} {x : Ix} (hf : Fit u x) (v n : Int) (hn : I64 n) :
    ∃ k : Nat, IntKind.u64.wrap n = (k : Int) ∧ k < 2 ^ 64 ∧ (0 ≤ n → (k : Int) = n) ∧ getL k (itemsOf x.L v) = (getS x.L v n).map fun s => ⟨s.b, s.c⟩ := by
  obtain ⟨h1, h2⟩ := hn
  by_cases h0 : 0 ≤ n
  · refine ⟨n.toNat, by rw [IntWalk.u64_in _ (by omega)]; omega, by omega, fun _ => by omega, get_items hf.ok v n h0⟩
  · have hw : IntKind.u64.wrap n = n + 18446744073709551616 := by rw [IntKind.wrap_u64]; omega
    refine ⟨(n + 18446744073709551616).toNat, by rw [hw]; omega, by omega, fun h => absurd h h0, ?_⟩
    have e1 : getS x.L v n = none := getS_none.2 fun s hs ⟨_, h⟩ => by have := (hf.ok.ok s hs).2.2.1; omega
    rw [e1, Option.map_none, getL_none']
    intro e he hk
    obtain ⟨s, hs, _, a, _⟩ := (mem_items hf.ok.dis hf.ok.n0 v e).1 he
    have := (hf.ok.ok s hs).2.2.2.1
    omega
theorem itget_calls (p : Mp) (l : List (Pr It)) (k : Nat) (w : World) (h : ItAt w p l) (hk : k < 2 ^ 64) :
    Calls Try.prog 35 #[.agg #[.pointer p], .int .u64 k] w fun e w' => e = .returned (It.getV (getL k l)) ∧ Ext w w' := by
  obtain ⟨t, a, b, rfl⟩ := h
  have := It.mget_calls p t k w a b hk
  have e : It.getO k t = getL k (Nd.oL t) := by rw [← getO_getL t b k]; cases t <;> rfl
  rw [e] at this
  exact this
/-- What Get tells. -/
def gotV (o : Option Sl) : Value := match o with
  | some s => .tuple #[.int .i64 s.b, .int .i64 s.c, .bool true]
  | none => .tuple #[.int .i64 0, .int .i64 0, .bool false]

set_option maxHeartbeats 1000000 in
set_option maxRecDepth 100000 in
theorem xget_calls (xb : Nat) (u : Int) (x : Ix) (v n : Int) (w : World) (h : IxAt w xb u x) (hf : Fit u x) (hn : I64 n) :
    Calls Try.prog 12 #[.pointer (some ⟨xb, 0, none⟩), .agg #[.int .i64 v, .int .i64 n]] w fun e w' => e = .returned (gotV (getS x.L v n)) ∧ Ext w w' := by
  obtain ⟨k, hw, hk, _, hg⟩ := get_key hf v n hn
  have hx0 : Ext w (w.alloc (.cells #[.int .i64 v, .int .i64 n] 39)) := (Ext.refl w).alloc _
  have e0 : (w.alloc (.cells #[.int .i64 v, .int .i64 n] 39)).cell? ⟨w.heap.size, 0, none⟩ = some (.int .i64 v) := by simp
  have e1 : (w.alloc (.cells #[.int .i64 v, .int .i64 n] 39)).cell? ⟨w.heap.size, 1, none⟩ = some (.int .i64 n) := by simp
  have hO : ∀ W, Ext (w.alloc (.cells #[.int .i64 v, .int .i64 n] 39)) W → Calls Try.prog 34 #[.pointer (some ⟨xb, 0, none⟩), .int .i64 v] W (OfPost W (itemsOf x.L v)) := fun W hx => ofx_calls xb u x v W (h.ext (hx0.trans hx)) hf
  have hG : ∀ W p, ItAt W p (itemsOf x.L v) → Calls Try.prog 35 #[.agg #[.pointer p], .int .u64 k] W fun e w' => e = .returned (It.getV ((getS x.L v n).map fun s => ⟨s.b, s.c⟩)) ∧ Ext W w' := fun W p hp => by
    have := itget_calls p _ k W hp hk
    rw [hg] at this
    exact this
  have HO := Lib.hid hO
  have HG := Lib.hid hG
  have HW := Lib.hid hw
  clear hg h hO hG hf hn
  generalize itemsOf x.L v = l at *
  generalize getS x.L v n = R at *
  go_enter Try.func12, Try.ntmps12
  go_upto_region 1 with (fail)
  generalize w.alloc (.cells #[.int .i64 v, .int .i64 n] 39) = W at *
  generalize hnb : w.heap.size = nb at *
  have HE := Lib.hid (Ext.refl W)
  have keep : Hid (∀ W', Ext W W' → W'.cell? ⟨nb, 0, none⟩ = some (.int .i64 v) ∧ W'.cell? ⟨nb, 1, none⟩ = some (.int .i64 n)) := Lib.hid fun W' hE => ⟨hE.cell e0, hE.cell e1⟩
  cases R with
  | none =>
    replace HG := Lib.hid (show ∀ W p, ItAt W p l → Calls Try.prog 35 #[.agg #[.pointer p], .int .u64 k] W fun e w' => e = .returned (.tuple #[.agg #[.int .i64 0, .int .i64 0], .bool false]) ∧ Ext W w' from HG.out)
    go_region_held3 (fun w' => w'.cell? ⟨nb, 0, none⟩ = some (.int .i64 v) ∧ w'.cell? ⟨nb, 1, none⟩ = some (.int .i64 n)) (exact keep.out _ (by repeat' (first | (with_reducible exact HE.out) | (with_reducible refine Ext.drew ?_) | (with_reducible refine Ext.alloc ?_ _) | (with_reducible refine Ext.setCell ?_ (by first | exact Nat.le_refl _ | assumption) _))))
      (first
        | (go_at_call 34
           refine (HO.out _ (by repeat' (first | (with_reducible exact HE.out) | (with_reducible refine Ext.drew ?_) | (with_reducible refine Ext.alloc ?_ _)))).mono ?_
           rintro e wa ⟨p, rfl, hit, hx⟩
           replace HE := Lib.hid (Ext.trans (show Ext W _ by repeat' (first | (with_reducible exact HE.out) | (with_reducible refine Ext.drew ?_) | (with_reducible refine Ext.alloc ?_ _))) hx)
           have hsa := HE.out.size
           (try (refine (fun (y0 : wa.heap[W.heap.size]? = some (.cells #[.int .i64 0, .int .i64 0] 91 (0, 0))) => ?_) ?_; rotate_left; · (exact hx.block (heap_alloc_new W _); done)))
           (try (have y1 := frozen_blk y0 0; have y2 := frozen_blk y0 1; have y3 := cell_blk y0 0 rfl; have y4 := cell_blk y0 1 rfl)))
        | (go_at_call 35
           refine (HG.out _ _ (by first | (with_reducible exact hit) | (with_reducible exact hit.ext ((Ext.refl _).alloc _)))).mono ?_
           rintro e wb ⟨rfl, hx⟩
           replace HE := Lib.hid (Ext.trans (show Ext W _ by repeat' (first | (with_reducible exact HE.out) | (with_reducible refine Ext.drew ?_) | (with_reducible refine Ext.alloc ?_ _))) hx)
           have hsb := HE.out.size
           (try (replace y0 := hx.block y0; replace y1 := frozen_blk y0 0; replace y2 := frozen_blk y0 1; replace y3 := cell_blk y0 0 rfl; replace y4 := cell_blk y0 1 rfl))
           (try (refine (fun (y0 : wb.heap[wa.heap.size]? = some (.cells #[.int .i64 0, .int .i64 0] 91 (0, 0))) => ?_) ?_; rotate_left; · (exact hx.block (heap_alloc_new wa _); done)))
           (try (have y1 := frozen_blk y0 0; have y2 := frozen_blk y0 1; have y3 := cell_blk y0 0 rfl; have y4 := cell_blk y0 1 rfl))
           (first | (have yy := y0; clear yy) | have y0 := heap_alloc_new wb (.cells #[.int .i64 0, .int .i64 0] 91))))
    all_goals
      obtain ⟨k0, k1⟩ := set2_cells y0 (.int .i64 0) (.int .i64 0)
      go_wp2_with fail
      go_quiet (fail)
      go_wp2
      refine bodyPost_ret (v := .tuple #[.int .i64 0, .int .i64 0, .bool false]) (by simp [results, Try.results12, go_sem]) rfl ⟨rfl, hx0.trans ?_⟩
      repeat' (first | (with_reducible exact HE.out) | (with_reducible refine Ext.drew ?_) | (with_reducible refine Ext.drewN ?_ _) | (with_reducible refine Ext.alloc ?_ _) | (with_reducible refine Ext.setCell ?_ (by first | exact Nat.le_refl _ | assumption) _))
  | some s =>
    replace HG := Lib.hid (show ∀ W p, ItAt W p l → Calls Try.prog 35 #[.agg #[.pointer p], .int .u64 k] W fun e w' => e = .returned (.tuple #[.agg #[.int .i64 s.b, .int .i64 s.c], .bool true]) ∧ Ext W w' from HG.out)
    obtain ⟨sv, sn, sb, sc⟩ := s
    dsimp only at HG
    go_region_held3 (fun w' => w'.cell? ⟨nb, 0, none⟩ = some (.int .i64 v) ∧ w'.cell? ⟨nb, 1, none⟩ = some (.int .i64 n)) (exact keep.out _ (by repeat' (first | (with_reducible exact HE.out) | (with_reducible refine Ext.drew ?_) | (with_reducible refine Ext.alloc ?_ _) | (with_reducible refine Ext.setCell ?_ (by first | exact Nat.le_refl _ | assumption) _))))
      (first
        | (go_at_call 34
           refine (HO.out _ (by repeat' (first | (with_reducible exact HE.out) | (with_reducible refine Ext.drew ?_) | (with_reducible refine Ext.alloc ?_ _)))).mono ?_
           rintro e wa ⟨p, rfl, hit, hx⟩
           replace HE := Lib.hid (Ext.trans (show Ext W _ by repeat' (first | (with_reducible exact HE.out) | (with_reducible refine Ext.drew ?_) | (with_reducible refine Ext.alloc ?_ _))) hx)
           have hsa := HE.out.size
           (try (refine (fun (y0 : wa.heap[W.heap.size]? = some (.cells #[.int .i64 0, .int .i64 0] 91 (0, 0))) => ?_) ?_; rotate_left; · (exact hx.block (heap_alloc_new W _); done)))
           (try (have y1 := frozen_blk y0 0; have y2 := frozen_blk y0 1; have y3 := cell_blk y0 0 rfl; have y4 := cell_blk y0 1 rfl)))
        | (go_at_call 35
           refine (HG.out _ _ (by first | (with_reducible exact hit) | (with_reducible exact hit.ext ((Ext.refl _).alloc _)))).mono ?_
           rintro e wb ⟨rfl, hx⟩
           replace HE := Lib.hid (Ext.trans (show Ext W _ by repeat' (first | (with_reducible exact HE.out) | (with_reducible refine Ext.drew ?_) | (with_reducible refine Ext.alloc ?_ _))) hx)
           have hsb := HE.out.size
           (try (replace y0 := hx.block y0; replace y1 := frozen_blk y0 0; replace y2 := frozen_blk y0 1; replace y3 := cell_blk y0 0 rfl; replace y4 := cell_blk y0 1 rfl))
           (try (refine (fun (y0 : wb.heap[wa.heap.size]? = some (.cells #[.int .i64 0, .int .i64 0] 91 (0, 0))) => ?_) ?_; rotate_left; · (exact hx.block (heap_alloc_new wa _); done)))
           (try (have y1 := frozen_blk y0 0; have y2 := frozen_blk y0 1; have y3 := cell_blk y0 0 rfl; have y4 := cell_blk y0 1 rfl))
           (first | (have yy := y0; clear yy) | have y0 := heap_alloc_new wb (.cells #[.int .i64 0, .int .i64 0] 91))))
    all_goals
      obtain ⟨k0, k1⟩ := set2_cells y0 (.int .i64 sb) (.int .i64 sc)
      go_wp2_with fail
      go_quiet (fail)
      go_wp2
      refine bodyPost_ret (v := .tuple #[.int .i64 sb, .int .i64 sc, .bool true]) (by simp [results, Try.results12, go_sem]) rfl ⟨rfl, hx0.trans ?_⟩
      repeat' (first | (with_reducible exact HE.out) | (with_reducible refine Ext.drew ?_) | (with_reducible refine Ext.drewN ?_ _) | (with_reducible refine Ext.alloc ?_ _) | (with_reducible refine Ext.setCell ?_ (by first | exact Nat.le_refl _ | assumption) _))

set_option maxRecDepth 100000 in
theorem xbytes_calls (xb : Nat) (u : Int) (x : Ix) (w : World) (h : IxAt w xb u x) : Calls Try.prog 9 #[.pointer (some ⟨xb, 0, none⟩)] w fun e w' => e = .returned (.int .i64 (sumS x.L)) ∧ Ext w w' := by
  obtain ⟨p, q, lv, hb, _⟩ := h
  have c4 : w.cell? ⟨xb, 4, none⟩ = some (.int .i64 (sumS x.L)) := cell_blk hb 4 rfl
  generalize sumS x.L = t at *
  clear hb
  go_enter Try.func9, Try.ntmps9
  go_wp2
  go_ret
  exact ⟨rfl, Ext.refl w⟩
end Go.Proofs.Ytgcplndmhlideaa
