/- The contract of the document's Since: the names of those behind a count. -/
import Derived.Test.YtgcplndmhlideaaRof
namespace Go.Proofs.Ytgcplndmhlideaa
open Go.RowKit

/-- The names of those behind a count (a name as a pair). -/
def nmsS (L : List Sl) (k : Int) : List Sp := (L.filter fun s => decide (k < s.c)).map fun s => ⟨s.v, s.n⟩
theorem infoRn : (Try.prog.info? 34).map (fun i => (i.zero, i.size, i.bytes)) = some (some (.agg #[.int .i64 0, .int .i64 0]), 2, 16) := by kernel_rfl
theorem nmsS_len (L : List Sl) (k : Int) : (nmsS L k).length ≤ L.length := by
  unfold nmsS
  rw [List.length_map]
  exact List.length_filter_le _ _
theorem nmsS_snoc (L : List Sl) (s : Sl) (k : Int) : nmsS (L ++ [s]) k = nmsS L k ++ (if k < s.c then [⟨s.v, s.n⟩] else []) := by
  unfold nmsS
  rw [List.filter_append, List.map_append]
  congr 1
  by_cases h : k < s.c <;> simp [h]
def NmsPost (w : World) (l : List Sp) (e : Ending) (w' : World) : Prop := ∃ v, e = .returned v ∧ w'.ownsRow w.heap.size 34 2 v l.length (spans l) ∧ Ext w w'

set_option maxHeartbeats 1000000 in
set_option maxRecDepth 100000 in
theorem rsince_calls (u c : Int) (A : Option Addr) (cp N : Nat) (L : List Sl) (q : Int) (w : World) (h : RowS w N (.slice A L.length cp) L) (hl : L.length ≤ 1000) :
    Calls Try.prog 11 #[.agg #[.int .i64 u, .int .i64 c, .slice A L.length cp], .int .i64 q] w (NmsPost w (nmsS L q)) := by
  have hx0 : Ext w (w.alloc (.cells #[.int .i64 u, .int .i64 c, .slice A L.length cp] 27)) := (Ext.refl w).alloc _
  obtain ⟨_, hrow⟩ := h.at_
  clear h
  go_enter Try.func11, Try.ntmps11
  go_wp2
  go_loopw [5, 11] (fun s i wr => ∃ k : Nat, k ≤ L.length ∧ i = .int .i64 k ∧ wr.ownsRow w.heap.size 34 2 s (nmsS (L.take k) q).length (spans (nmsS (L.take k) q)) ∧ Ext w wr) (fun _ i _ => L.length - (intOf i).toNat)
  case atStart => exact ⟨0, Nat.zero_le _, rfl, World.ownsRow_nil _ _ _ _, hx0⟩
  case round =>
    rename_i sv iv wr0
    obtain ⟨k, hk, rfl, hown, hx⟩ := hrel
    have hlen := nmsS_len (L.take k) q
    rw [List.length_take] at hlen
    by_cases hlt : k < L.length
    · obtain ⟨b, rfl, p0, p1, p2, p3⟩ := hrow k hlt
      have hx1 : Ext wr (wr.alloc (.cells #[.int .i64 L[k].v, .int .i64 L[k].n, .int .i64 L[k].b, .int .i64 L[k].c] 42)) := (Ext.refl wr).alloc _
      replace p0 : wr.cell? ⟨b, k * 4, none⟩ = some (.int .i64 L[k].v) := hx.cell p0
      replace p1 : wr.cell? ⟨b, k * 4 + 1, none⟩ = some (.int .i64 L[k].n) := hx.cell p1
      replace p2 : wr.cell? ⟨b, k * 4 + 2, none⟩ = some (.int .i64 L[k].b) := hx.cell p2
      replace p3 : wr.cell? ⟨b, k * 4 + 3, none⟩ = some (.int .i64 L[k].c) := hx.cell p3
      have e : nmsS (L.take (k + 1)) q = nmsS (L.take k) q ++ (if q < L[k].c then [⟨L[k].v, L[k].n⟩] else []) := by rw [List.take_succ_eq_append_getElem hlt, nmsS_snoc]
      generalize nmsS (L.take k) q = M at *
      obtain ⟨s, hs⟩ : ∃ s, L[k] = s := ⟨_, rfl⟩
      rw [hs] at e hx1 p0 p1 p2 p3
      have hown2 := ownsRow_ext hown hx1
      have HX := Lib.hid (hx.trans hx1)
      clear hrow hs hown
      by_cases hv : q < s.c
      · rw [if_pos hv] at e
        have HE := Lib.hid e
        clear e
        go_wp2_with (at_builtin; refine wpList_append_new _ rfl _ _ 35 rfl w.heap.size 34 _ 2 16 Try.underlying35 infoRn rfl (by omega) _ M.length (spans M) rfl hown2 1 1 (wr.heap.size + 1) (by simp) _ (by rfl) (by rfl) (by simp [Value.oneCell']) (by simp [maxLen]; omega) (by omega) HX.out.size ?_; intro v1 w3 hown3 hm3)
        have hx3 := ext_moved HX.out hown2 hm3
        go_roundw
        case rel => exact ⟨k + 1, by omega, by go_num, by rw [HE.out, spans_append, spans_one, List.length_append]; exact hown3, hx3⟩
        case measure => simp [intOf] <;> omega
      · rw [if_neg hv, List.append_nil] at e
        have HE := Lib.hid e
        clear e
        go_wp2
        go_roundw
        case rel => exact ⟨k + 1, by omega, by go_num, by rw [HE.out]; exact hown2, HX.out⟩
        case measure => simp [intOf] <;> omega
    · obtain rfl : k = L.length := by omega
      rw [List.take_length] at *
      clear hrow
      go_wp2
      go_ret
      exact ⟨_, rfl, hown, hx⟩
end Go.Proofs.Ytgcplndmhlideaa
