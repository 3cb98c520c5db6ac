/- The contracts of slices.Delete over rows that are owned. -/
import Derived.Test.YtaanbgagdanalaaTab
import Derived.Test.YtaanbgagdanalaaShelf
namespace Go.Proofs.Ytaanbgagdanalaa
open Go.RowKit Go.Sort Go.Shelf

section
variable {α : Type} [Inhabited α]
theorem take_putCellsQ (enc : α → Value) (cur : Array Value) (ts : List α) (m : Nat) (hm : m ≤ ts.length) (h : ts.length ≤ cur.size) : (putCells enc 0 ts.toArray cur).toList.take m = (ts.take m).map enc := by
  apply List.ext_getElem?
  intro j
  by_cases hj : j < m
  · rw [List.getElem?_take_of_lt hj, Array.getElem?_toList]
    have h1 : j < ts.length := by omega
    simp [putCells, h1, hj, show j < cur.size by omega]
  · rw [List.getElem?_take_eq_none (by omega), List.getElem?_eq_none (by simp; omega)]
theorem heap_putRowQ {w : World} {g n : Nat} (enc : α → Value) (d : Array α) {cur : Array Value} {e : TypeId} (hb : w.heap[g]? = some (.cells cur e (0, 0))) : (putRow enc (Sort.ahead w n) g 0 d).heap[g]? = some (.cells (putCells enc 0 d cur) e (0, 0)) := by
  simp [putRow, mapBlock, Sort.ahead, Array.getElem?_modify, hb, onCells]
theorem turn_putRow {w : World} {g n : Nat} (enc : α → Value) (d : Array α) : Turn [g] w (putRow enc (Sort.ahead w n) g 0 d) := by
  refine ⟨rfl, rfl, rfl, by simp [putRow, mapBlock, Sort.ahead], fun k hk hne => ?_⟩
  have : g ≠ k := fun e => hne (by simp [e])
  simp [putRow, mapBlock, Sort.ahead, Array.getElem?_modify, this]
theorem own_putRow {w : World} {N g cap n m q : Nat} {e : TypeId} (enc : α → Value) (ts : List α) {xs : List Value} (h : w.ownsRow N e 1 (.slice (some ⟨g, 0, none⟩) n cap) n xs) (hn : ts.length = n) (hm : m ≤ n) :
    (putRow enc (Sort.ahead w q) g 0 ts.toArray).ownsRow N e 1 (.slice (some ⟨g, 0, none⟩) m cap) m ((ts.take m).map enc) := by
  rcases h.2 with ⟨h0, _⟩ | ⟨g', cap', cur, hv, hg, hb, hc, hcap, hs, _⟩
  · cases h0
  · cases hv
    exact ⟨by simp; omega, .inr ⟨g, cap, _, rfl, hg, heap_putRowQ enc _ hb, by omega, hcap, by simp [putCells, hs], by rw [Nat.mul_one]; exact take_putCellsQ enc cur ts m (by omega) (by omega)⟩⟩
theorem holds_own {w : World} {N g cap n : Nat} {e : TypeId} (enc : α → Value) (ts : List α) (h : w.ownsRow N e 1 (.slice (some ⟨g, 0, none⟩) n cap) n (ts.map enc)) : Holds enc w g 0 ts.toArray := by
  have hn : n = ts.length := by have := h.1; simp at this; omega
  subst hn
  intro j hj
  have hj' : j < ts.length := by simpa using hj
  refine ⟨?_, by rw [Nat.zero_add]; exact h.frozenAt j⟩
  rw [Nat.zero_add, h.cellAt j (by omega)]
  simp [hj']
end

/-- A row that is owned and not empty. -/
theorem row_some {w : World} {N n : Nat} {e : TypeId} {size : Nat} {v : Value} {xs : List Value} (h : w.ownsRow N e size v n xs) (hn : 0 < n) : ∃ g cap, v = .slice (some ⟨g, 0, none⟩) n cap ∧ N ≤ g ∧ n ≤ cap ∧ cap ≤ maxLen ∧ ob v = [g] := by
  rcases h.2 with ⟨_, h0⟩ | ⟨g, cap, cur, rfl, hg, _, hc, hm, _⟩
  · omega
  · exact ⟨g, cap, rfl, hg, hc, hm, rfl⟩

def DelPost (N g cap : Nat) (e : TypeId) (n : Nat) (xs : List Value) (w : World) (ed : Ending) (w' : World) : Prop :=
  ed = .returned (.slice (some ⟨g, 0, none⟩) n cap) ∧ w'.ownsRow N e 1 (.slice (some ⟨g, 0, none⟩) n cap) n xs ∧ Turn [g] w w'

noncomputable def infoI : TypeInfo := (Try.prog.info? 3).get (by kernel_rfl)
noncomputable def infoP : TypeInfo := (Try.prog.info? 89).get (by kernel_rfl)

theorem delI_calls (N g cap i : Nat) (l : List Int) (w : World) (h : w.ownsRow N 3 1 (.slice (some ⟨g, 0, none⟩) l.length cap) l.length (l.map (Value.int .i64))) (hi : i < l.length) :
    Calls Try.prog 64 #[.slice (some ⟨g, 0, none⟩) l.length cap, .int .i64 i, .int .i64 ((i : Int) + 1)] w (DelPost N g cap 3 (l.length - 1) ((l.eraseIdx i).map (Value.int .i64)) w) := by
  obtain ⟨g', cap', hv, _, hc, hm, _⟩ := row_some h (by omega)
  cases hv
  have hd := AnyE.slices_Delete delI (Value.int .i64) (fun _ => rfl) 0 (fun w => Try.zeroValue3 w) infoI (by kernel_rfl) (by kernel_rfl) g 0 cap i (i + 1) l.toArray w (holds_own (Value.int .i64) l h) (by simpa using hc) (by simp only [maxLen] at hm; omega) (by omega) (by simp; omega)
  have hd2 : Calls Try.prog 64 #[.slice (some ⟨g, 0, none⟩) l.length cap, .int .i64 i, .int .i64 ((i : Int) + 1)] w fun e w' => e = .returned (.slice (some ⟨g, 0, none⟩) (l.length - (i + 1 - i)) cap) ∧ ∃ q, w' = putRow (Value.int .i64) (Sort.ahead w q) g 0 (l.take i ++ l.drop (i + 1) ++ List.replicate (i + 1 - i) 0).toArray := by
    change Calls Try.prog 64 _ _ _ at hd
    simpa using hd
  refine hd2.mono ?_
  rintro e w' ⟨rfl, q, rfl⟩
  have e0 : i + 1 - i = 1 := by omega
  rw [e0]
  refine ⟨rfl, ?_, turn_putRow _ _⟩
  have h2 := own_putRow (q := q) (m := l.length - 1) (Value.int .i64) (l.take i ++ l.drop (i + 1) ++ List.replicate 1 0) h (by simp; omega) (by omega)
  have e1 : (l.take i ++ l.drop (i + 1) ++ List.replicate 1 0).take (l.length - 1) = l.eraseIdx i := by
    rw [List.eraseIdx_eq_take_drop_succ, List.take_left' (by simp; omega)]
  rw [e1] at h2
  exact h2

def encP (o : Option Nat) : Value := .pointer (o.map fun b => ⟨b, 0, none⟩)
theorem delP_calls (N g cap i : Nat) (l : List Nat) (w : World) (h : w.ownsRow N 89 1 (.slice (some ⟨g, 0, none⟩) l.length cap) l.length (l.map fun b => encP (some b))) (hi : i < l.length) :
    Calls Try.prog 44 #[.slice (some ⟨g, 0, none⟩) l.length cap, .int .i64 i, .int .i64 ((i : Int) + 1)] w (DelPost N g cap 89 (l.length - 1) ((l.eraseIdx i).map fun b => encP (some b)) w) := by
  obtain ⟨g', cap', hv, _, hc, hm, _⟩ := row_some h (by omega)
  cases hv
  have h' : w.ownsRow N 89 1 (.slice (some ⟨g, 0, none⟩) l.length cap) l.length ((l.map some).map encP) := by rw [List.map_map]; exact h
  have hd := AnyE.slices_Delete delP encP (fun _ => rfl) none (fun w => Try.zeroValue89 w) infoP (by kernel_rfl) (by kernel_rfl) g 0 cap i (i + 1) (l.map some).toArray w (holds_own encP (l.map some) h') (by simpa using hc) (by simp only [maxLen] at hm; omega) (by omega) (by simp; omega)
  have hd2 : Calls Try.prog 44 #[.slice (some ⟨g, 0, none⟩) l.length cap, .int .i64 i, .int .i64 ((i : Int) + 1)] w fun e w' => e = .returned (.slice (some ⟨g, 0, none⟩) (l.length - (i + 1 - i)) cap) ∧ ∃ q, w' = putRow encP (Sort.ahead w q) g 0 ((l.map some).take i ++ (l.map some).drop (i + 1) ++ List.replicate (i + 1 - i) none).toArray := by
    change Calls Try.prog 44 _ _ _ at hd
    simpa using hd
  refine hd2.mono ?_
  rintro e w' ⟨rfl, q, rfl⟩
  have e0 : i + 1 - i = 1 := by omega
  rw [e0]
  refine ⟨rfl, ?_, turn_putRow _ _⟩
  have h2 := own_putRow (q := q) (m := l.length - 1) encP ((l.map some).take i ++ (l.map some).drop (i + 1) ++ List.replicate 1 none) h' (by simp; omega) (by omega)
  have e1 : ((l.map some).take i ++ (l.map some).drop (i + 1) ++ List.replicate 1 none).take (l.length - 1) = (l.eraseIdx i).map some := by
    rw [List.take_left' (by simp; omega), ← List.eraseIdx_eq_take_drop_succ]
    rw [List.eraseIdx_eq_take_drop_succ, List.eraseIdx_eq_take_drop_succ]
    simp
  rw [e1, List.map_map] at h2
  exact h2
end Go.Proofs.Ytaanbgagdanalaa
