/- The contract of List.Order. -/
import Derived.Test.YtmcddajniiaieaaDoorLs
namespace Go.Proofs.YtmcddajniiaieaaDoor
open Go.RowKit

def intsV (l : List Int) : List Value := l.map (Value.int .i64)
theorem intsV_append (a b : List Int) : intsV (a ++ b) = intsV a ++ intsV b := by simp [intsV]
theorem infoI : (Tryd.prog.info? 2).map (fun i => (i.zero, i.size, i.bytes)) = some (some (.int .i64 0), 1, 8) := by kernel_rfl
def slLen : Value → Nat
  | .slice _ n _ => n
  | _ => 0
/-- The keys of these things, in a row of one's own. -/
def KeysAt (w : World) (B : Nat) (v : Value) (L : List Nd) : Prop := w.ownsRow B 2 1 v L.length (intsV (L.map Nd.k))
theorem KeysAt.shape {w : World} {B : Nat} {v : Value} {L : List Nd} (h : KeysAt w B v L) : ∃ A c, v = .slice A L.length c ∧ L.length ≤ c := own_shape h
theorem KeysAt.ext {w w' : World} {B : Nat} {v : Value} {L : List Nd} (h : KeysAt w B v L) (hx : Ext w w') : KeysAt w' B v L := ownsRow_ext h hx
def OrderPost (w : World) (L : List Nd) (e : Ending) (w' : World) : Prop := ∃ v, e = .returned v ∧ KeysAt w' w.heap.size v L ∧ Ext w w'

set_option maxHeartbeats 2000000 in
set_option maxRecDepth 100000 in
theorem order_calls (B lb c : Nat) (s : Ls) (w : World) (h : LsAt w B lb c s) : Calls Tryd.prog 21 #[.pointer (some ⟨lb, 0, none⟩)] w (OrderPost w s.all) := by
  have hc := h.core
  have hT := hc.seT
  have hK := hc.seK
  have l3 : w.cell? ⟨lb, 3, none⟩ = some (.pointer (hdP s.T none)) := blk_cell hc.blk 3 rfl
  have l6 : w.cell? ⟨lb, 6, none⟩ = some (.pointer (hdP s.K none)) := blk_cell hc.blk 6 rfl
  have hlen : s.T.length + s.K.length ≤ 1000 := by have := hc.len; simpa using this
  have hall : s.all = s.T ++ s.K := rfl
  rw [hall]
  generalize s.T = T at *
  generalize s.K = K at *
  have HT := Lib.hid hT
  have HK := Lib.hid hK
  have HL := Lib.hid hlen
  clear h hc hT hK hall hlen
  go_enter Tryd.func21, Tryd.ntmps21
  go_wp2
  go_loopw [3, 4] (fun o t wr => ∃ A D, T = A ++ D ∧ t = .pointer (hdP D none) ∧ KeysAt wr w.heap.size o (A) ∧ Ext w wr) (fun o _ _ => T.length - slLen o)
  case atStart => exact ⟨[], T, rfl, rfl, World.ownsRow_nil _ _ _ _, Ext.refl w⟩
  case round =>
    obtain ⟨A, D, hAD, rfl, hown, hx⟩ := hrel
    have HAD := Lib.hid hAD
    obtain ⟨Ao, co, rfl, -⟩ := hown.shape
    have HOW := Lib.hid hown
    cases D with
    | cons x D =>
      have hseg := (show _ ∧ _ ∧ _ from (seg_append A (x :: D) none none).1 (hAD ▸ HT.out)).2.1
      have x3w : w.cell? ⟨x.b, 3, none⟩ = some (.pointer (hdP D none)) := blk_cell hseg 3 rfl
      have x0 : wr.cell? ⟨x.b, 0, none⟩ = some (.int .i64 x.k) := hx.cell (blk_cell hseg 0 rfl)
      have x3 : wr.cell? ⟨x.b, 3, none⟩ = some (.pointer (hdP D none)) := hx.cell x3w
      have hp : hdP (x :: D) none = some ⟨x.b, 0, none⟩ := rfl
      rw [hp]
      have hown2 : wr.ownsRow w.heap.size 2 1 (.slice Ao (A).length co) (A).length (intsV ((A).map Nd.k)) := hown
      have hlen : (A).length < 1000 ∧ (A).length + 1 ≤ T.length := by have := congrArg List.length hAD; have := HL.out; simp at *; omega
      have HE := Lib.hid (show intsV ((A ++ [x]).map Nd.k) = intsV ((A).map Nd.k) ++ [.int .i64 x.k] ∧ (A ++ [x]).length = (A).length + 1 by simp [intsV])
      obtain ⟨la, hla⟩ : ∃ n, (A).length = n := ⟨_, rfl⟩
      rw [hla] at hown2 hlen HE
      rw [hla]
      have HLA := Lib.hid hla
      clear hAD hseg hp hown hla HOW
      go_wp2_with (at_builtin; refine wpList_append_new _ rfl _ _ 28 rfl w.heap.size 2 _ 1 8 Tryd.underlying28 infoI rfl (by omega) _ la _ rfl hown2 1 1 wr.heap.size (by simp) _ (by rfl) (by rfl) (by simp [Value.oneCell']) (by simp [maxLen]; omega) (by omega) hx.size ?_; intro v1 w3 hown3 hm3; have hx3 := ext_moved hx hown2 hm3; replace x3 : w3.cell? ⟨x.b, 3, none⟩ = some (.pointer (hdP D none)) := hx3.cell x3w)
      obtain ⟨A3, c3, rfl, -⟩ := own_shape hown3
      go_roundw
      case rel => exact ⟨A ++ [x], D, by rw [HAD.out]; simp, rfl, by unfold KeysAt; rw [HE.out.1, HE.out.2]; exact hown3, hx3⟩
      case measure => show _ - (la + 1) < _ - la; omega
    | nil =>
      have hp : hdP [] none = none := rfl
      rw [hp]
      rw [List.append_nil] at hAD
      subst hAD
      have hx1 := hx
      replace l6 := hx.cell l6
      have HX1 := Lib.hid hx
      clear hp hown HAD
      go_wp2
      go_loopw [3, 5] (fun o t wr => ∃ A D, K = A ++ D ∧ t = .pointer (hdP D none) ∧ KeysAt wr w.heap.size o (T ++ (A)) ∧ Ext w wr) (fun o _ _ => (T.length + K.length) - slLen o)
      case atStart => exact ⟨[], K, rfl, rfl, by simpa using HOW.out, hx1⟩
      case round =>
        obtain ⟨A, D, hAD, rfl, hown, hx⟩ := hrel
        have HAD := Lib.hid hAD
        obtain ⟨Ao, co, rfl, -⟩ := hown.shape
        have HOW := Lib.hid hown
        cases D with
        | cons x D =>
          have hseg := (show _ ∧ _ ∧ _ from (seg_append A (x :: D) none none).1 (hAD ▸ HK.out)).2.1
          have x3w : w.cell? ⟨x.b, 3, none⟩ = some (.pointer (hdP D none)) := blk_cell hseg 3 rfl
          have x0 : wr.cell? ⟨x.b, 0, none⟩ = some (.int .i64 x.k) := hx.cell (blk_cell hseg 0 rfl)
          have x3 : wr.cell? ⟨x.b, 3, none⟩ = some (.pointer (hdP D none)) := hx.cell x3w
          have hp : hdP (x :: D) none = some ⟨x.b, 0, none⟩ := rfl
          rw [hp]
          have hown2 : wr.ownsRow w.heap.size 2 1 (.slice Ao (T ++ (A)).length co) (T ++ (A)).length (intsV ((T ++ (A)).map Nd.k)) := hown
          have hlen : (T ++ (A)).length < 1000 ∧ (T ++ (A)).length + 1 ≤ (T.length + K.length) := by have := congrArg List.length hAD; have := HL.out; simp at *; omega
          have HE := Lib.hid (show intsV ((T ++ (A ++ [x])).map Nd.k) = intsV ((T ++ (A)).map Nd.k) ++ [.int .i64 x.k] ∧ (T ++ (A ++ [x])).length = (T ++ (A)).length + 1 by simp [intsV] <;> omega)
          obtain ⟨la, hla⟩ : ∃ n, (T ++ (A)).length = n := ⟨_, rfl⟩
          rw [hla] at hown2 hlen HE
          rw [hla]
          have HLA := Lib.hid hla
          clear hAD hseg hp hown hla HOW
          go_wp2_with (at_builtin; refine wpList_append_new _ rfl _ _ 28 rfl w.heap.size 2 _ 1 8 Tryd.underlying28 infoI rfl (by omega) _ la _ rfl hown2 1 1 wr.heap.size (by simp) _ (by rfl) (by rfl) (by simp [Value.oneCell']) (by simp [maxLen]; omega) (by omega) hx.size ?_; intro v1 w3 hown3 hm3; have hx3 := ext_moved hx hown2 hm3; replace x3 : w3.cell? ⟨x.b, 3, none⟩ = some (.pointer (hdP D none)) := hx3.cell x3w)
          obtain ⟨A3, c3, rfl, -⟩ := own_shape hown3
          go_roundw
          case rel => exact ⟨A ++ [x], D, by rw [HAD.out]; simp, rfl, by unfold KeysAt; rw [HE.out.1, HE.out.2]; exact hown3, hx3⟩
          case measure => show _ - (la + 1) < _ - la; omega
        | nil =>
          have hp : hdP [] none = none := rfl
          rw [hp]
          rw [List.append_nil] at hAD
          subst hAD
          go_wp2
          go_ret
          exact ⟨_, rfl, HOW.out, hx⟩
end Go.Proofs.YtmcddajniiaieaaDoor
