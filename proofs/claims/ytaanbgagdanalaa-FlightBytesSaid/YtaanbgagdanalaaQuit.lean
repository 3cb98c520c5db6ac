/- The contract of a flight's quit. -/
import Derived.Test.YtaanbgagdanalaaSeek
import Derived.Test.YtaanbgagdanalaaCut
namespace Go.Proofs.Ytaanbgagdanalaa
open Go.RowKit

theorem erase_idx (l : List Int) (x : Int) {i : Nat} (h : idx l x = i) : i < l.length ∧ x ∈ l ∧ l.erase x = l.eraseIdx i := by
  unfold idx at h
  cases hf : l.findIdx? (· == x) with
  | none => rw [hf] at h; simp at h
  | some j =>
    rw [hf] at h
    simp at h
    have : j = i := by omega
    subst this
    obtain ⟨h1, h2, _⟩ := List.findIdx?_eq_some_iff_getElem.1 hf
    refine ⟨h1, ?_, ?_⟩
    · simp at h2
      rw [← h2]
      exact List.getElem_mem h1
    · rw [List.erase_eq_eraseP', List.eraseP_eq_eraseIdx, hf]
theorem idx_cases (l : List Int) (x : Int) : (idx l x = -1 ∧ x ∉ l) ∨ ∃ i : Nat, idx l x = i := by
  unfold idx
  cases hf : l.findIdx? (· == x) with
  | none => exact .inl ⟨rfl, fun hm => by have := List.findIdx?_eq_none_iff.1 hf x hm; simp at this⟩
  | some j => exact .inr ⟨j, rfl⟩

theorem FyAt.who {N : Nat} {w w1 : World} {y : Fy} (h : FyAt N w y) {v' : Value} {l' : List Int} (hr : w1.ownsRow N 3 1 v' l'.length (l'.map (Value.int .i64))) (ht : Turn (ob y.v) w w1) (ho : Of (ob y.v) (ob v') w) :
    FyAt N (w1.setCell ⟨y.b, 15, none⟩ v') ⟨{ y.f with who := l' }, y.b, v'⟩ ∧ Turn y.own w (w1.setCell ⟨y.b, 15, none⟩ v') ∧ Of y.own (y.b :: ob v') w := by
  have hb1 := ht.blk h.blk h.apart
  have hn : y.b ∉ ob v' := fun e => by
    rcases ho _ e with e | e
    · exact h.apart e
    · have := blk_lt h.blk; omega
  refine ⟨⟨h.low, heap_set_same hb1 v', ?_, hn⟩, ?_, ?_⟩
  · exact ((Turn.refl [y.b] w1).setCell (p := ⟨y.b, 15, none⟩) (fun _ => by simp) v').row hr fun x hx e => hn (by simp at e; rwa [e] at hx)
  · exact (ht.mono fun x hx _ => List.mem_cons_of_mem _ hx).setCell (p := ⟨y.b, 15, none⟩) (fun _ => List.mem_cons_self ..) v'
  · intro x hx
    rcases List.mem_cons.1 hx with rfl | hx
    · exact .inl (List.mem_cons_self ..)
    · exact (ho x hx).imp_left fun e => List.mem_cons_of_mem _ e

def QuitPost (N : Nat) (w : World) (y : Fy) (q : Int) (e : Ending) (w' : World) : Prop :=
  ∃ v', e = .returned (.bool (y.f.quit q).2) ∧ FyAt N w' ⟨(y.f.quit q).1, y.b, v'⟩ ∧ Turn y.own w w' ∧ Of y.own (y.b :: ob v') w

set_option maxHeartbeats 1000000 in
set_option maxRecDepth 100000 in
theorem quit_calls (N : Nat) (y : Fy) (q : Int) (w : World) (h : FyAt N w y) (hl : y.f.who.length ≤ 1000000) :
    Calls Try.prog 52 #[.pointer (some ⟨y.b, 0, none⟩), .int .i64 q] w (QuitPost N w y q) := by
  obtain ⟨_, A, c, hv, hc, hri⟩ := row_ints h.row
  have c15 := h.cell 15 (u := y.v) rfl
  have hx := index_calls A c y.f.who q w hl hri
  rcases idx_cases y.f.who q with ⟨hi, hm⟩ | ⟨i, hi⟩
  · have hq : y.f.quit q = (y.f, false) := by simp [Fl.quit, hm]
    have hp : QuitPost N w y q (.returned (.bool false)) w := ⟨y.v, by rw [hq], by rw [hq]; exact h, Turn.refl _ _, fun x hx => .inl hx⟩
    have HP := Lib.hid hp
    rw [hi] at hx
    rw [hv] at c15
    clear hp hq h hri hi hm hv
    generalize y.f.who.length = n at *
    generalize y.b = b at *
    go_enter Try.func52, Try.ntmps52
    go_wp2_with fail
    refine hx.mono ?_
    rintro e w1 ⟨rfl, rfl⟩
    go_wp2
    go_ret
    exact HP.out
  · obtain ⟨hlt, hm, he⟩ := erase_idx _ _ hi
    obtain ⟨g, cap, hv', _, _, _, hob⟩ := row_some h.row (by omega)
    have hq : y.f.quit q = ({ y.f with who := y.f.who.eraseIdx i }, (y.f.who.eraseIdx i).isEmpty) := by simp [Fl.quit, hm, he]
    have hrow := h.row
    rw [hv'] at hrow
    have hd := delI_calls N g cap i y.f.who w hrow hlt
    have e1 : (y.f.who.eraseIdx i).length = y.f.who.length - 1 := List.length_eraseIdx_of_lt hlt
    have hp : ∀ w1, w1.ownsRow N 3 1 (.slice (some ⟨g, 0, none⟩) (y.f.who.length - 1) cap) (y.f.who.length - 1) ((y.f.who.eraseIdx i).map (Value.int .i64)) → Turn [g] w w1 →
        QuitPost N w y q (.returned (.bool (decide (y.f.who.length - 1 = 0)))) (w1.setCell ⟨y.b, 15, none⟩ (.slice (some ⟨g, 0, none⟩) (y.f.who.length - 1) cap)) ∧ w1.heap[y.b]? = some (.cells (cellsOf y.f y.v) 91 (0, 0)) := fun w1 a1 a2 => by
      have a3 : Turn (ob y.v) w w1 := by rw [hob]; exact a2
      rw [← e1] at a1 ⊢
      obtain ⟨b1, b2, b3⟩ := h.who a1 a3 (by rw [hob]; exact fun x hx => .inl hx)
      refine ⟨⟨_, ?_, ?_, b2, b3⟩, a3.blk h.blk h.apart⟩
      · rw [hq]
        cases hz : y.f.who.eraseIdx i <;> simp
      · rw [hq]; exact b1
    have HP := Lib.hid hp
    rw [hv'] at hv c15
    obtain rfl : A = some ⟨g, 0, none⟩ := by injection hv with a; exact a.symm
    obtain rfl : c = cap := by injection hv with _ _ a; exact a.symm
    rw [hi] at hx
    have hlt2 : (i : Int) < y.f.who.length := by omega
    have HL := Lib.hid hlt
    clear hp hq h hri hi hm he hrow hv hob hlt e1 hc
    have w1 : IntKind.i64.wrap ((i : Int) + 1) = (i : Int) + 1 := IntWalk.i64_in _ (by omega)
    generalize (y.f.who.eraseIdx i).map (Value.int .i64) = l' at *
    generalize y.f.who.length = n at *
    generalize n - 1 = m at *
    go_enter Try.func52, Try.ntmps52
    go_wp2_with fail
    refine hx.mono ?_
    rintro e w2 ⟨rfl, rfl⟩
    go_wp2_with fail
    refine hd.mono ?_
    rintro e w3 ⟨rfl, d1, d2⟩
    obtain ⟨d3, d4⟩ := HP.out w3 d1 d2
    have D3 := Lib.hid d3
    have f15 : w3.cell? ⟨y.b, 15, none⟩ = some y.v := by rw [cell_of_row w3 y.b 15 _ _ _ d4]; rfl
    have z15 : w3.frozen? ⟨y.b, 15, none⟩ = false := by simp [World.frozen?, d4]
    clear d1 d2 d3 d4 hd
    cases e3 : decide (m = 0)
    all_goals
      have e4 : decide ((m : Int) = 0) = decide (m = 0) := by simp
      rw [e3] at e4
      have e5 : ((m : Int) == 0) = decide ((m : Int) = 0) := by rw [Bool.eq_iff_iff]; simp
      rw [e4] at e5
      have D4 := D3.out
      rw [e3] at D4
      have D5 := Lib.hid D4
      clear D4
      go_wp2
      go_ret
      exact D5.out
end Go.Proofs.Ytaanbgagdanalaa
