/- The table of flights in memory. -/
import Derived.Test.YtaanbgagdanalaaOwn
import Derived.Test.YtaanbgagdanalaaPlain
import Derived.Test.YtaanbgagdanalaaProg
namespace Go.Proofs.Ytaanbgagdanalaa
open Go.RowKit

/-- A flight, its block, and the slice of who waits. -/
structure Fy where
  f : Fl
  b : Nat
  v : Value
instance : Inhabited Fy := ⟨⟨default, 0, default⟩⟩
def headOf (f : Fl) : List Value := [.int .i64 f.id, .string f.obj, .int .i64 f.fr, .int .i64 f.to, .string f.mt, .bool f.mw, .string f.nt, .bool f.nw, .int .i64 f.en, .int .i64 f.sa, .int .i64 f.mo, .int .i64 f.ge, .int .i64 f.pl, .bool f.he]
def cellsOf (f : Fl) (v : Value) : Array Value := #[.int .i64 f.id, .string f.obj, .int .i64 f.fr, .int .i64 f.to, .string f.mt, .bool f.mw, .string f.nt, .bool f.nw, .int .i64 f.en, .int .i64 f.sa, .int .i64 f.mo, .int .i64 f.ge, .int .i64 f.pl, .bool f.he, .int .i64 f.stop, v]
def Fy.own (y : Fy) : List Nat := y.b :: ob y.v
structure FyAt (N : Nat) (w : World) (y : Fy) : Prop where
  low : N ≤ y.b
  blk : w.heap[y.b]? = some (.cells (cellsOf y.f y.v) 91 (0, 0))
  row : w.ownsRow N 3 1 y.v y.f.who.length (y.f.who.map (Value.int .i64))
  apart : y.b ∉ ob y.v
structure TabAt (N : Nat) (w : World) (tb : Nat) (lv : Value) (ys : List Fy) (last : Int) : Prop where
  low : N ≤ tb
  blk : w.heap[tb]? = some (.cells #[lv, .int .i64 last] 87 (0, 0))
  row : w.ownsRow N 89 1 lv ys.length (ys.map fun y => Value.pointer (some ⟨y.b, 0, none⟩))
  all : ∀ i (h : i < ys.length), FyAt N w ys[i]
  d1 : tb ∉ ob lv
  d2 : ∀ i (h : i < ys.length), Apart ys[i].own (tb :: ob lv)
  d3 : ∀ i j (h : i < ys.length) (k : j < ys.length), i ≠ j → Apart ys[i].own ys[j].own
def ownT (tb : Nat) (lv : Value) (ys : List Fy) : List Nat := tb :: (ob lv ++ ys.flatMap Fy.own)
/-- The table at tb is t; O: its blocks. -/
def TabR (N : Nat) (w : World) (tb : Nat) (O : List Nat) (t : Tab) : Prop := ∃ lv ys, TabAt N w tb lv ys t.last ∧ t.l = ys.map Fy.f ∧ O = ownT tb lv ys

section
variable {w w' : World} {N tb : Nat} {lv : Value} {ys : List Fy} {last : Int} {O C : List Nat} {t : Tab}
theorem row_lies {e : TypeId} {size n : Nat} {v : Value} {xs : List Value} (h : w.ownsRow N e size v n xs) : Lies N (ob v) w := fun x hx => by
  unfold ob at hx
  cases e : v.ownBlock with
  | none => rw [e] at hx; cases hx
  | some g => rw [e] at hx; simp at hx; subst hx; exact h.lt _ e
theorem blk_lt {b : Nat} {o : Obj} (h : w.heap[b]? = some o) : b < w.heap.size := (Array.getElem?_eq_some_iff.1 h).1
theorem FyAt.lies {y : Fy} (h : FyAt N w y) : Lies N y.own w := fun x hx => by
  rcases List.mem_cons.1 hx with rfl | hx
  · exact ⟨h.low, blk_lt h.blk⟩
  · exact row_lies h.row x hx
theorem mem_ownT {x : Nat} : x ∈ ownT tb lv ys ↔ x = tb ∨ x ∈ ob lv ∨ ∃ i, ∃ h : i < ys.length, x ∈ ys[i].own := by
  unfold ownT
  simp only [List.mem_cons, List.mem_append, List.mem_flatMap]
  constructor
  · rintro (h | h | ⟨y, hy, h⟩)
    · exact .inl h
    · exact .inr (.inl h)
    · obtain ⟨i, hi, rfl⟩ := List.getElem_of_mem hy
      exact .inr (.inr ⟨i, hi, h⟩)
  · rintro (h | h | ⟨i, hi, h⟩)
    · exact .inl h
    · exact .inr (.inl h)
    · exact .inr (.inr ⟨_, List.getElem_mem hi, h⟩)
theorem TabAt.lies (h : TabAt N w tb lv ys last) : Lies N (ownT tb lv ys) w := fun x hx => by
  rcases mem_ownT.1 hx with rfl | hx | ⟨i, hi, hx⟩
  · exact ⟨h.low, blk_lt h.blk⟩
  · exact row_lies h.row x hx
  · exact (h.all i hi).lies x hx
theorem TabR.lies (h : TabR N w tb O t) : Lies N O w := by
  obtain ⟨lv, ys, h1, _, rfl⟩ := h
  exact h1.lies
theorem FyAt.keep {y : Fy} (h : FyAt N w y) (k : Turn C w w') (ha : Apart y.own C) : FyAt N w' y :=
  ⟨h.low, k.blk h.blk (ha _ (List.mem_cons_self ..)), k.row h.row fun x hx => ha x (List.mem_cons_of_mem _ hx), h.apart⟩
theorem TabAt.keep (h : TabAt N w tb lv ys last) (k : Turn C w w') (ha : Apart (ownT tb lv ys) C) : TabAt N w' tb lv ys last :=
  ⟨h.low, k.blk h.blk (ha _ (mem_ownT.2 (.inl rfl))), k.row h.row fun x hx => ha x (mem_ownT.2 (.inr (.inl hx))), fun i hi => (h.all i hi).keep k fun x hx => ha x (mem_ownT.2 (.inr (.inr ⟨i, hi, hx⟩))), h.d1, h.d2, h.d3⟩
theorem TabR.keep (h : TabR N w tb O t) (k : Turn C w w') (ha : Apart O C) : TabR N w' tb O t := by
  obtain ⟨lv, ys, h1, h2, rfl⟩ := h
  exact ⟨lv, ys, h1.keep k ha, h2, rfl⟩
theorem TabR.ext (h : TabR N w tb O t) (k : Ext w w') : TabR N w' tb O t := h.keep (C := []) (Turn.of_ext k) fun _ _ e => by cases e

/-- One flight is turned in place. -/
theorem TabAt.set (h : TabAt N w tb lv ys last) {i : Nat} (hi : i < ys.length) {y : Fy} (hb : y.b = ys[i].b) (k : Turn ys[i].own w w') (hy : FyAt N w' y) (ho : Of ys[i].own y.own w) : TabAt N w' tb lv (ys.set i y) last := by
  have hn : ∀ x, x ∈ y.own → x ∈ ys[i].own ∨ w.heap.size ≤ x := ho
  have a1 : Apart y.own (tb :: ob lv) := Apart.of (h.d2 i hi) ho (N := N) fun x hx => by
    rcases List.mem_cons.1 hx with rfl | hx
    · exact ⟨h.low, blk_lt h.blk⟩
    · exact row_lies h.row x hx
  have a2 : ∀ j (hj : j < ys.length), i ≠ j → Apart y.own ys[j].own := fun j hj e => Apart.of (h.d3 i j hi hj e) ho (h.all j hj).lies
  refine ⟨h.low, k.blk h.blk fun e => h.d2 i hi _ e (List.mem_cons_self ..), ?_, ?_, h.d1, ?_, ?_⟩
  · have := k.row h.row fun x hx e => h.d2 i hi x e (List.mem_cons_of_mem _ hx)
    have e2 : (ys.set i y).map (fun y => Value.pointer (some ⟨y.b, 0, none⟩)) = ys.map fun y => Value.pointer (some ⟨y.b, 0, none⟩) := by
      rw [List.map_set, hb]
      refine List.ext_getElem (by simp) fun j h1 h2 => ?_
      rw [List.getElem_set]
      split
      · subst i; simp
      · rfl
    rw [e2, List.length_set]
    exact this
  · intro j hj
    rw [List.getElem_set]
    have hj' : j < ys.length := by simpa using hj
    split
    · exact hy
    · exact (h.all j hj').keep k (h.d3 j i hj' hi fun e => by omega)
  · intro j hj
    have hj' : j < ys.length := by simpa using hj
    rw [List.getElem_set]
    split
    · exact a1
    · exact h.d2 j hj'
  · intro j m hj hm e
    have hj' : j < ys.length := by simpa using hj
    have hm' : m < ys.length := by simpa using hm
    rw [List.getElem_set, List.getElem_set]
    split <;> split
    · omega
    · subst i; exact a2 m hm' e
    · subst i; exact (a2 j hj' (fun e2 => e e2.symm)).symm
    · exact h.d3 j m hj' hm' e
theorem own_set {i : Nat} (hi : i < ys.length) {y : Fy} (ho : Of ys[i].own y.own w) : Of (ownT tb lv ys) (ownT tb lv (ys.set i y)) w := fun x hx => by
  rcases mem_ownT.1 hx with rfl | hx | ⟨j, hj, hx⟩
  · exact .inl (mem_ownT.2 (.inl rfl))
  · exact .inl (mem_ownT.2 (.inr (.inl hx)))
  · rw [List.getElem_set] at hx
    split at hx
    · rcases ho x hx with e | e
      · exact .inl (mem_ownT.2 (.inr (.inr ⟨i, hi, e⟩)))
      · exact .inr e
    · exact .inl (mem_ownT.2 (.inr (.inr ⟨j, by simpa using hj, hx⟩)))
/-- The cells of a flight. -/
theorem FyAt.cell {y : Fy} (h : FyAt N w y) (i : Nat) {u : Value} (hu : (cellsOf y.f y.v)[i]? = some u) : w.cell? ⟨y.b, i, none⟩ = some u := by rw [cell_of_row w y.b i _ _ _ h.blk]; exact hu
theorem TabAt.c0 (h : TabAt N w tb lv ys last) : w.cell? ⟨tb, 0, none⟩ = some lv := by rw [cell_of_row w tb 0 _ _ _ h.blk]; rfl
theorem TabAt.c1 (h : TabAt N w tb lv ys last) : w.cell? ⟨tb, 1, none⟩ = some (.int .i64 last) := by rw [cell_of_row w tb 1 _ _ _ h.blk]; rfl
/-- The pointers. -/
theorem TabAt.shape (h : TabAt N w tb lv ys last) : ∃ A c, lv = .slice A ys.length c ∧ ys.length ≤ c ∧ ∀ k (hk : k < ys.length), ∃ g, A = some ⟨g, 0, none⟩ ∧ w.cell? ⟨g, k, none⟩ = some (.pointer (some ⟨ys[k].b, 0, none⟩)) := by
  obtain ⟨A, c, e, hc⟩ := own_shape h.row
  refine ⟨A, c, e, hc, fun k hk => ?_⟩
  rcases h.row.2 with ⟨h1, h2⟩ | ⟨g, cap, cur, h1, _, _, _⟩
  · omega
  · have hA : A = some ⟨g, 0, none⟩ := by rw [e] at h1; injection h1
    have hr := h.row
    rw [e, hA] at hr
    have := hr.cellAt k (by omega)
    exact ⟨g, hA, by rw [this]; simp [hk]⟩
end

/-- A slice of numbers. -/
def RowI (w : World) (A : Option Addr) (xs : List Int) : Prop := ∀ k (h : k < xs.length), ∃ g, A = some ⟨g, 0, none⟩ ∧ w.cell? ⟨g, k, none⟩ = some (.int .i64 xs[k])
theorem row_ints {w : World} {N : Nat} {e : TypeId} {v : Value} {n : Nat} {xs : List Int} (h : w.ownsRow N e 1 v n (xs.map (Value.int .i64))) : n = xs.length ∧ ∃ A c, v = .slice A xs.length c ∧ xs.length ≤ c ∧ RowI w A xs := by
  have hn : n = xs.length := by have := h.1; simp at this; omega
  subst hn
  obtain ⟨A, c, e, hc⟩ := own_shape h
  refine ⟨rfl, A, c, e, hc, fun k hk => ?_⟩
  rcases h.2 with ⟨h1, h2⟩ | ⟨g, cap, cur, h1, _, _, _⟩
  · omega
  · have hA : A = some ⟨g, 0, none⟩ := by rw [e] at h1; injection h1
    have hr := h
    rw [e, hA] at hr
    have := hr.cellAt k (by omega)
    exact ⟨g, hA, by rw [this]; simp [hk]⟩
end Go.Proofs.Ytaanbgagdanalaa
