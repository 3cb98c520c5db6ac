/- The contracts of span.Has and Map.Get, and of the reference's Get. -/
import Derived.Test.YtjiabibnbpjhaaaMade
import Derived.Test.YtjiabibnbpjhaaaSame
import Derived.Deep.RegionHeld3
namespace Go.Proofs.Ytjiabibnbpjhaaa
open Go.RowKit

def hasB (f t x : Int) : Bool := rightB f t && decide (f ≤ x) && decide (x < t)

theorem has_calls (f t x : Int) (w : World) :
    Calls Try.prog 43 #[.agg #[.int .i64 f, .int .i64 t], .int .i64 x] w fun e w' => e = .returned (.bool (hasB f t x)) ∧ Ext w w' := by
  unfold hasB
  go_enter Try.func43, Try.ntmps43
  go_wp2_with fail
  refine (right_calls _ _ _).mono ?_
  rintro e w1 ⟨rfl, hx⟩
  have c1 : w1.cell? ⟨w.heap.size, 0, none⟩ = some (.int .i64 f) := hx.cell (by simp)
  have c2 : w1.cell? ⟨w.heap.size, 1, none⟩ = some (.int .i64 t) := hx.cell (by simp)
  replace hx := ((Ext.refl w).alloc _).trans hx
  cases e1 : rightB f t <;> cases e2 : decide (f ≤ x)
  all_goals
    go_wp2
    go_ret
    exact ⟨by simp [e1, e2], hx⟩

/-- The run that has a byte. -/
def findR (l : List Rn) (x : Int) : Option Rn := l.find? fun r => hasB r.f r.t x
def gotV (o : Option Rn) : Int := match o with | some r => r.v | none => 0
def gotF (o : Option Rn) : Int := match o with | some r => r.f | none => 0
def gotT (o : Option Rn) : Int := match o with | some r => r.t | none => 0

set_option maxHeartbeats 4000000 in
set_option maxRecDepth 100000 in
theorem get_calls (mb : Nat) (l : List Rn) (x : Int) (w : World) (hm : Holds w mb l) (hl : l.length ≤ 1000000) :
    Calls Try.prog 26 #[.pointer (some ⟨mb, 0, none⟩), .int .i64 x] w fun e w' =>
      e = .returned (.tuple #[.int .i64 (gotV (findR l x)), .agg #[.int .i64 (gotF (findR l x)), .int .i64 (gotT (findR l x))], .bool (findR l x).isSome]) ∧ Ext w w' := by
  obtain ⟨A, c, hmb, _, hru⟩ := hm.row
  have hm0 : w.cell? ⟨mb, 0, none⟩ = some (.slice A l.length c) := by rw [cell_of_row w mb 0 _ _ _ hmb]; rfl
  have hlt := block_of_cell hm0
  simp only at hlt
  clear hmb hm
  go_enter Try.func26, Try.ntmps26
  go_wp2
  have hx0 : Ext w (w.alloc (.cells #[.int .i64 0, .int .i64 0] 34)) := (Ext.refl w).alloc _
  have hbx : (w.alloc (.cells #[.int .i64 0, .int .i64 0] 34)).heap[w.heap.size]? = some (.cells #[.int .i64 0, .int .i64 0] 34 (0, 0)) := heap_alloc_new w _
  have HB := hide hbx
  clear hbx
  go_loopw [19] (fun i wr => ∃ k : Nat, k ≤ l.length ∧ i = .int .i64 k ∧ findR l x = findR (l.drop k) x ∧ Ext (w.alloc (.cells #[.int .i64 0, .int .i64 0] 34)) wr) (fun i _ => l.length - (intOf i).toNat)
  case atStart => exact ⟨0, Nat.zero_le _, rfl, rfl, Ext.refl _⟩
  case round =>
    obtain ⟨k, hk, rfl, hfind, hx⟩ := hrel
    have HF := hide hfind
    clear hfind
    have hxw := hx0.trans hx
    have hb1 := hx.block (unhide HB)
    have b0 : wr.cell? ⟨w.heap.size, 0, none⟩ = some (.int .i64 0) := by rw [cell_of_row _ _ 0 _ _ _ hb1]; rfl
    have b1 : wr.cell? ⟨w.heap.size, 1, none⟩ = some (.int .i64 0) := by rw [cell_of_row _ _ 1 _ _ _ hb1]; rfl
    have bf : ∀ i, wr.frozen? ⟨w.heap.size, i, none⟩ = false := fun i => by simp [World.frozen?, hb1]
    have z1 : w.heap.size < wr.heap.size := (Array.getElem?_eq_some_iff.1 hb1).1
    have HX := hide hx
    have HXW := hide hxw
    clear hb1 hx hxw
    by_cases hlt : k < l.length
    · obtain ⟨b, rfl, _, p0, p1, p2⟩ := (hru.ext (unhide HXW)) k hlt
      obtain ⟨r, hr⟩ : ∃ r, l[k] = r := ⟨_, rfl⟩
      rw [hr] at p0 p1 p2
      have hs : findR (l.drop k) x = if hasB r.f r.t x then some r else findR (l.drop (k + 1)) x := by
        rw [List.drop_eq_getElem_cons hlt, hr]
        unfold findR
        rw [List.find?_cons]
        cases hasB r.f r.t x <;> rfl
      have HS := hide hs
      clear hs hr
      go_wp2_with fail
      refine (has_calls _ _ _ _).mono ?_
      rintro e w1 ⟨rfl, hx2⟩
      have q0 : w1.cell? ⟨wr.heap.size, 0, none⟩ = some (.int .i64 r.f) := hx2.cell (by simp)
      have q1 : w1.cell? ⟨wr.heap.size, 1, none⟩ = some (.int .i64 r.t) := hx2.cell (by simp)
      have q2 : w1.cell? ⟨wr.heap.size, 2, none⟩ = some (.int .i64 r.v) := hx2.cell (by simp)
      replace hx2 := ((Ext.refl wr).alloc _).trans hx2
      replace b0 := hx2.cell b0
      replace b1 := hx2.cell b1
      have bf0 := (hx2.frozen (p := ⟨w.heap.size, 0, none⟩) z1).trans (bf 0)
      have bf1 := (hx2.frozen (p := ⟨w.heap.size, 1, none⟩) z1).trans (bf 1)
      have hxe := (unhide HX).trans hx2
      have hxf := (unhide HXW).trans hx2
      clear bf p0 p1 p2 hx2
      cases e1 : hasB r.f r.t x
      · have hh : findR (l.drop k) x = findR (l.drop (k + 1)) x := by rw [unhide HS, e1]; rfl
        have HH := hide hh
        clear hh
        go_wp2
        go_roundw
        case rel => exact ⟨k + 1, by omega, by go_num, by rw [unhide HF, unhide HH], hxe⟩
        case measure => simp [intOf] <;> omega
      · have hh : findR l x = some r := by rw [unhide HF, unhide HS, e1]; rfl
        have HH := hide hh
        have hn : wr.heap.size ≠ w.heap.size := by omega
        have hn' : w.heap.size ≠ wr.heap.size := by omega
        clear hh
        go_wp2
        go_region_held3 (fun w' => w'.cell? ⟨wr.heap.size, 0, none⟩ = some (.int .i64 r.f) ∧ w'.cell? ⟨wr.heap.size, 1, none⟩ = some (.int .i64 r.t) ∧ w'.cell? ⟨wr.heap.size, 2, none⟩ = some (.int .i64 r.v)) (go_keep) (fail)
        have hxe2 : Ext w (((w1.setCell ⟨w.heap.size, 0, none⟩ (.int .i64 r.f)).setCell ⟨w.heap.size, 1, none⟩ (.int .i64 r.t)).drew) := ((hxf.setCell (p := ⟨w.heap.size, 0, none⟩) (Nat.le_refl _) _).setCell (p := ⟨w.heap.size, 1, none⟩) (Nat.le_refl _) _).drew
        have HXE := hide hxe2
        clear hxe2
        have g0 : (((w1.setCell ⟨w.heap.size, 0, none⟩ (.int .i64 r.f)).setCell ⟨w.heap.size, 1, none⟩ (.int .i64 r.t)).drew).cell? ⟨w.heap.size, 0, none⟩ = some (.int .i64 r.f) := by simp [go_sem, b0, b1]
        have g1 : (((w1.setCell ⟨w.heap.size, 0, none⟩ (.int .i64 r.f)).setCell ⟨w.heap.size, 1, none⟩ (.int .i64 r.t)).drew).cell? ⟨w.heap.size, 1, none⟩ = some (.int .i64 r.t) := by simp [go_sem, b0, b1]
        go_wp2
        exact bodyPost_ret (v := .tuple #[.int .i64 r.v, .agg #[.int .i64 r.f, .int .i64 r.t], .bool true]) (by simp [results, Try.results26, go_sem, b0, b1]) rfl ⟨by rw [unhide HH]; rfl, unhide HXE⟩
    · obtain rfl : k = l.length := by omega
      have hh : findR l x = none := by rw [unhide HF, List.drop_length]; rfl
      have HH := hide hh
      clear hh
      have hxe : Ext w ((wr.setCell ⟨w.heap.size, 0, none⟩ (.int .i64 0)).setCell ⟨w.heap.size, 1, none⟩ (.int .i64 0)) := ((unhide HXW).setCell (p := ⟨w.heap.size, 0, none⟩) (Nat.le_refl _) _).setCell (p := ⟨w.heap.size, 1, none⟩) (Nat.le_refl _) _
      have HXE := hide hxe
      clear hxe
      go_wp2
      exact bodyPost_ret (v := .tuple #[.int .i64 0, .agg #[.int .i64 0, .int .i64 0], .bool false]) (by simp [results, Try.results26, go_sem, b0, b1]) rfl ⟨by rw [unhide HH]; rfl, unhide HXE⟩
end Go.Proofs.Ytjiabibnbpjhaaa
