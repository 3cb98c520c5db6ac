/- The reference's table of flights in memory: rows of sixteen cells. -/
import Derived.Test.YtaanbgagdanalaaAwake
namespace Go.Proofs.Ytaanbgagdanalaa
open Go.RowKit

structure Ry where
  f : Fl
  v : Value
instance : Inhabited Ry := ⟨⟨default, default⟩⟩
def heI (f : Fl) : Int := if f.he then 1 else 0
def rowOf (f : Fl) (v : Value) : List Value := [.int .i64 f.id, .string f.obj, .int .i64 f.fr, .int .i64 f.to, .string f.mt, .bool f.mw, .string f.nt, .bool f.nw, .int .i64 f.en, .int .i64 f.sa, .int .i64 f.mo, .int .i64 f.ge, .int .i64 f.pl, .int .i64 f.stop, .int .i64 (heI f), v]
def rows (ys : List Ry) : List Value := ys.flatMap fun y => rowOf y.f y.v
theorem rowOf_length (f : Fl) (v : Value) : (rowOf f v).length = 16 := rfl
theorem rows_cons (y : Ry) (ys : List Ry) : rows (y :: ys) = rowOf y.f y.v ++ rows ys := by simp [rows]
theorem rows_append (xs ys : List Ry) : rows (xs ++ ys) = rows xs ++ rows ys := by simp [rows]
theorem rows_one (y : Ry) : rows [y] = rowOf y.f y.v := by simp [rows]
theorem rows_length (l : List Ry) : (rows l).length = l.length * 16 := by
  induction l with
  | nil => rfl
  | cons y l ih => rw [rows_cons, List.length_append, rowOf_length, ih, List.length_cons]; omega
theorem rows_get (l : List Ry) (k j : Nat) (h : k < l.length) (hj : j < 16) : (rows l)[k * 16 + j]? = (rowOf l[k].f l[k].v)[j]? := by
  induction l generalizing k with
  | nil => simp at h
  | cons r l ih =>
    rw [rows_cons]
    rcases k with _ | k
    · rw [List.getElem?_append_left (by rw [rowOf_length]; omega)]
      simp
    · rw [List.getElem?_append_right (by rw [rowOf_length]; omega), rowOf_length, show (k + 1) * 16 + j - 16 = k * 16 + j from by omega, ih k (by simpa using h)]
      simp
theorem rows_set (l : List Ry) (k j : Nat) (h : k < l.length) (hj : j < 16) (y : Ry) (u : Value) (he : rowOf y.f y.v = (rowOf l[k].f l[k].v).set j u) : rows (l.set k y) = (rows l).set (k * 16 + j) u := by
  induction l generalizing k with
  | nil => simp at h
  | cons r l ih =>
    rcases k with _ | k
    · rw [List.set_cons_zero, rows_cons, rows_cons, he, List.set_append_left _ _ (by rw [rowOf_length]; omega)]
      simp
    · rw [List.set_cons_succ, rows_cons, rows_cons, ih k (by simpa using h) (by simpa using he), List.set_append_right _ _ (by rw [rowOf_length]; omega), rowOf_length, show (k + 1) * 16 + j - 16 = k * 16 + j from by omega]

structure RTabAt (N : Nat) (w : World) (tb : Nat) (lv : Value) (ys : List Ry) (last : Int) : Prop where
  low : N ≤ tb
  blk : w.heap[tb]? = some (.cells #[lv, .int .i64 last] 51 (0, 0))
  row : w.ownsRow N 57 16 lv ys.length (rows ys)
  all : ∀ i (h : i < ys.length), w.ownsRow N 3 1 ys[i].v ys[i].f.who.length (ys[i].f.who.map (Value.int .i64))
  d1 : tb ∉ ob lv
  d2 : ∀ i (h : i < ys.length), Apart (ob ys[i].v) (tb :: ob lv)
  d3 : ∀ i j (h : i < ys.length) (k : j < ys.length), i ≠ j → Apart (ob ys[i].v) (ob ys[j].v)
def ownR (tb : Nat) (lv : Value) (ys : List Ry) : List Nat := tb :: (ob lv ++ ys.flatMap fun y => ob y.v)
def RTabL (N : Nat) (w : World) (tb : Nat) (lv : Value) (O : List Nat) (t : Tab) : Prop := ∃ ys, RTabAt N w tb lv ys t.last ∧ t.l = ys.map Ry.f ∧ O = ownR tb lv ys
def RTabR (N : Nat) (w : World) (tb : Nat) (O : List Nat) (t : Tab) : Prop := ∃ lv ys, RTabAt N w tb lv ys t.last ∧ t.l = ys.map Ry.f ∧ O = ownR tb lv ys
section
variable {w w' : World} {N tb : Nat} {lv : Value} {ys : List Ry} {last : Int} {O C : List Nat} {t t' : Tab}
theorem mem_ownR {x : Nat} : x ∈ ownR tb lv ys ↔ x = tb ∨ x ∈ ob lv ∨ ∃ i, ∃ h : i < ys.length, x ∈ ob ys[i].v := by
  unfold ownR
  simp only [List.mem_cons, List.mem_append, List.mem_flatMap]
  constructor
  · rintro (h | h | ⟨y, hy, h⟩)
    · exact .inl h
    · exact .inr (.inl h)
    · obtain ⟨i, hi, rfl⟩ := List.getElem_of_mem hy
      exact .inr (.inr ⟨i, hi, h⟩)
  · rintro (h | h | ⟨i, hi, h⟩)
    · exact .inl h
    · exact .inr (.inl h)
    · exact .inr (.inr ⟨_, List.getElem_mem hi, h⟩)
theorem RTabAt.lies (h : RTabAt N w tb lv ys last) : Lies N (ownR tb lv ys) w := fun x hx => by
  rcases mem_ownR.1 hx with rfl | hx | ⟨i, hi, hx⟩
  · exact ⟨h.low, blk_lt h.blk⟩
  · exact row_lies h.row x hx
  · exact row_lies (h.all i hi) x hx
theorem RTabR.lies (h : RTabR N w tb O t) : Lies N O w := by
  obtain ⟨lv, ys, h1, _, rfl⟩ := h
  exact h1.lies
theorem RTabAt.keep (h : RTabAt N w tb lv ys last) (k : Turn C w w') (ha : Apart (ownR tb lv ys) C) : RTabAt N w' tb lv ys last :=
  ⟨h.low, k.blk h.blk (ha _ (mem_ownR.2 (.inl rfl))), k.row h.row fun x hx => ha x (mem_ownR.2 (.inr (.inl hx))), fun i hi => k.row (h.all i hi) fun x hx => ha x (mem_ownR.2 (.inr (.inr ⟨i, hi, hx⟩))), h.d1, h.d2, h.d3⟩
theorem RTabR.keep (h : RTabR N w tb O t) (k : Turn C w w') (ha : Apart O C) : RTabR N w' tb O t := by
  obtain ⟨lv, ys, h1, h2, rfl⟩ := h
  exact ⟨lv, ys, h1.keep k ha, h2, rfl⟩
theorem RTabR.ext (h : RTabR N w tb O t) (k : Ext w w') : RTabR N w' tb O t := h.keep (C := []) (Turn.of_ext k) fun _ _ e => by cases e
theorem RTabAt.ext (h : RTabAt N w tb lv ys last) (k : Ext w w') : RTabAt N w' tb lv ys last := h.keep (C := []) (Turn.of_ext k) fun _ _ e => by cases e
theorem RTabAt.c0 (h : RTabAt N w tb lv ys last) : w.cell? ⟨tb, 0, none⟩ = some lv := by rw [cell_of_row w tb 0 _ _ _ h.blk]; rfl
theorem RTabAt.c1 (h : RTabAt N w tb lv ys last) : w.cell? ⟨tb, 1, none⟩ = some (.int .i64 last) := by rw [cell_of_row w tb 1 _ _ _ h.blk]; rfl

/-- The cells of a row. -/
def RowAt (w : World) (g k : Nat) (f : Fl) (v : Value) : Prop := ∀ j u, (rowOf f v)[j]? = some u → w.cell? ⟨g, k * 16 + j, none⟩ = some u
theorem RowAt.ext {g k : Nat} {f : Fl} {v : Value} (h : RowAt w g k f v) (hx : Ext w w') : RowAt w' g k f v := fun j u hu => hx.cell (h j u hu)
theorem RTabAt.shape (h : RTabAt N w tb lv ys last) : ∃ A c, lv = .slice A ys.length c ∧ ys.length ≤ c ∧ ∀ k (hk : k < ys.length), ∃ g, A = some ⟨g, 0, none⟩ ∧ RowAt w g k ys[k].f ys[k].v ∧ (∀ j, w.frozen? ⟨g, j, none⟩ = false) ∧ ob lv = [g] := by
  obtain ⟨A, c, e, hc⟩ := own_shape h.row
  refine ⟨A, c, e, hc, fun k hk => ?_⟩
  rcases h.row.2 with ⟨h1, h2⟩ | ⟨g, cap, cur, h1, _, hb, _⟩
  · omega
  · have hA : A = some ⟨g, 0, none⟩ := by rw [e] at h1; injection h1
    have hr := h.row
    rw [e, hA] at hr
    refine ⟨g, hA, fun j u hu => ?_, fun j => hr.frozenAt j, by rw [h1]; rfl⟩
    have hj : j < 16 := by
      obtain ⟨hj, _⟩ := List.getElem?_eq_some_iff.1 hu
      exact hj
    rw [hr.cellAt _ (by omega), rows_get _ _ _ hk hj]
    exact hu

/-- One flight is turned in place. -/
theorem RTabAt.set (h : RTabAt N w tb lv ys last) {i : Nat} (hi : i < ys.length) {y : Ry} (k : Turn (ob lv ++ ob ys[i].v) w w') (hr : w'.ownsRow N 57 16 lv ys.length (rows (ys.set i y)))
    (hy : w'.ownsRow N 3 1 y.v y.f.who.length (y.f.who.map (Value.int .i64))) (ho : Of (ob ys[i].v) (ob y.v) w) : RTabAt N w' tb lv (ys.set i y) last ∧ Of (ownR tb lv ys) (ownR tb lv (ys.set i y)) w := by
  have hl : Lies N (tb :: ob lv) w := fun x hx => by
    rcases List.mem_cons.1 hx with rfl | hx
    · exact ⟨h.low, blk_lt h.blk⟩
    · exact row_lies h.row x hx
  have a1 : Apart (ob y.v) (tb :: ob lv) := Apart.of (h.d2 i hi) ho hl
  have a2 : ∀ j (hj : j < ys.length), i ≠ j → Apart (ob y.v) (ob ys[j].v) := fun j hj e => Apart.of (h.d3 i j hi hj e) ho (row_lies (h.all j hj))
  refine ⟨⟨h.low, k.blk h.blk ?_, by rw [List.length_set]; exact hr, ?_, h.d1, ?_, ?_⟩, ?_⟩
  · intro e
    rcases List.mem_append.1 e with e | e
    · exact h.d1 e
    · exact h.d2 i hi _ e (List.mem_cons_self ..)
  · intro j hj
    have hj' : j < ys.length := by simpa using hj
    rw [List.getElem_set]
    split
    · exact hy
    · rename_i hne
      refine k.row (h.all j hj') fun x hx e => ?_
      rcases List.mem_append.1 e with e | e
      · exact h.d2 j hj' x hx (List.mem_cons_of_mem _ e)
      · exact h.d3 j i hj' hi (fun e => hne e.symm) x hx e
  · intro j hj
    have hj' : j < ys.length := by simpa using hj
    rw [List.getElem_set]
    split
    · exact a1
    · exact h.d2 j hj'
  · intro j m hj hm e
    have hj' : j < ys.length := by simpa using hj
    have hm' : m < ys.length := by simpa using hm
    rw [List.getElem_set, List.getElem_set]
    split <;> split
    · omega
    · subst i; exact a2 m hm' e
    · subst i; exact (a2 j hj' (fun e2 => e e2.symm)).symm
    · exact h.d3 j m hj' hm' e
  · intro x hx
    rcases mem_ownR.1 hx with rfl | hx | ⟨j, hj, hx⟩
    · exact .inl (mem_ownR.2 (.inl rfl))
    · exact .inl (mem_ownR.2 (.inr (.inl hx)))
    · rw [List.getElem_set] at hx
      split at hx
      · rcases ho x hx with e | e
        · exact .inl (mem_ownR.2 (.inr (.inr ⟨i, hi, e⟩)))
        · exact .inr e
      · exact .inl (mem_ownR.2 (.inr (.inr ⟨j, by simpa using hj, hx⟩)))

def RAct (N : Nat) (w : World) (tb : Nat) (O : List Nat) (t' : Tab) (v : Value) (e : Ending) (w' : World) : Prop :=
  e = .returned v ∧ ∃ O', RTabR N w' tb O' t' ∧ Turn O w w' ∧ Of O O' w
def RActL (N : Nat) (w : World) (tb : Nat) (lv : Value) (O : List Nat) (t' : Tab) (v : Value) (e : Ending) (w' : World) : Prop :=
  e = .returned v ∧ ∃ O', RTabL N w' tb lv O' t' ∧ Turn O w w' ∧ Of O O' w
theorem RActL.act {v : Value} {e : Ending} (h : RActL N w tb lv O t' v e w') : RAct N w tb O t' v e w' := by
  obtain ⟨h1, O', h2, h3, h4⟩ := h
  exact ⟨h1, O', ⟨lv, h2⟩, h3, h4⟩
theorem RTabL.ext (h : RTabL N w tb lv O t) (k : Ext w w') : RTabL N w' tb lv O t := by
  obtain ⟨ys, h1, h2, h3⟩ := h
  exact ⟨ys, h1.ext k, h2, h3⟩
theorem RTabL.keep (h : RTabL N w tb lv O t) (k : Turn C w w') (ha : Apart O C) : RTabL N w' tb lv O t := by
  obtain ⟨ys, h1, h2, rfl⟩ := h
  exact ⟨ys, h1.keep k ha, h2, rfl⟩
theorem RTabL.lies (h : RTabL N w tb lv O t) : Lies N O w := by
  obtain ⟨ys, h1, _, rfl⟩ := h
  exact h1.lies
theorem RActL.ext {v : Value} (h : RTabL N w tb lv O t) (hx : Ext w w') : RActL N w tb lv O t v (.returned v) w' := ⟨rfl, O, h.ext hx, Turn.of_ext hx, Of.refl _ _⟩
theorem RAct.ext {v : Value} (h : RTabR N w tb O t) (hx : Ext w w') : RAct N w tb O t v (.returned v) w' := ⟨rfl, O, h.ext hx, Turn.of_ext hx, Of.refl _ _⟩
/-- One flight has been turned in place. -/
theorem RActL.upd {v : Value} (h : RTabAt N w tb lv ys last) (e1 : t.l = ys.map Ry.f) (e2 : t.last = last) {i : Nat} (hi : i < ys.length) {y : Ry} (k : Turn (ob lv ++ ob ys[i].v) w w') (hr : w'.ownsRow N 57 16 lv ys.length (rows (ys.set i y)))
    (hy : w'.ownsRow N 3 1 y.v y.f.who.length (y.f.who.map (Value.int .i64))) (ho : Of (ob ys[i].v) (ob y.v) w) :
    RActL N w tb lv (ownR tb lv ys) ⟨t.l.set i y.f, t.last⟩ v (.returned v) w' := by
  obtain ⟨a1, a2⟩ := h.set hi k hr hy ho
  refine ⟨rfl, _, ⟨ys.set i y, by rw [e2]; exact a1, by rw [e1, List.map_set], rfl⟩, k.mono fun x hx _ => ?_, a2⟩
  rcases List.mem_append.1 hx with e | e
  · exact mem_ownR.2 (.inr (.inl e))
  · exact mem_ownR.2 (.inr (.inr ⟨i, hi, e⟩))
theorem map_getR {i : Nat} (hi : i < ys.length) : (ys.map Ry.f)[i]! = ys[i].f := by rw [getElem!_pos _ i (by simpa using hi)]; simp
end
end Go.Proofs.Ytaanbgagdanalaa
