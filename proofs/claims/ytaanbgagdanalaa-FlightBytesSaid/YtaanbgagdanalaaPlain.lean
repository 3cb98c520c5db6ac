/- The plain table of flights: its acts as functions on lists; no program in sight. -/
namespace Go.Proofs.Ytaanbgagdanalaa

structure Fl where
  id : Int
  obj : ByteArray
  fr : Int
  to : Int
  mt : ByteArray
  mw : Bool
  nt : ByteArray
  nw : Bool
  en : Int
  sa : Int
  mo : Int
  ge : Int
  pl : Int
  he : Bool
  stop : Int
  who : List Int
instance : Inhabited Fl := ⟨⟨0, ⟨#[]⟩, 0, 0, ⟨#[]⟩, false, ⟨#[]⟩, false, 0, 0, 0, 0, 0, false, 0, []⟩⟩

/-- Where the flight of a number stands. -/
def place (l : List Fl) (id : Int) : Option Nat := l.findIdx? fun f => f.id == id
/-- How many numbers are less. -/
def lows (l : List Fl) (id : Int) : Nat := (l.filter fun f => decide (f.id < id)).length
/-- Rising, from a number on up to another one. -/
def Rising (l : List Fl) (last : Int) : Prop := (l.map Fl.id).Pairwise (· < ·) ∧ ∀ f ∈ l, 1 ≤ f.id ∧ f.id ≤ last

/-- May a flight begin? -/
def starts (f : Fl) : Bool :=
  f.id == 0 && (f.pl == 0 && (!f.he && (decide (0 ≤ f.en) && ((f.en == 0 || !(f.mt.toList == [] && !f.mw)) && (decide (0 ≤ f.fr) && (decide (f.fr < f.to) && decide (f.to ≤ 4611686018427387904)))))))
structure Tab where
  l : List Fl
  last : Int
def Tab.start (t : Tab) (f : Fl) : Tab × Int × Int :=
  if starts f then (⟨t.l ++ [{ f with id := t.last + 1, pl := f.fr, stop := 0, who := [] }], t.last + 1⟩, t.last + 1, 0) else (t, 0, 1)
def Tab.join (t : Tab) (id w : Int) : Tab × Int :=
  match place t.l id with
  | none => (t, 6)
  | some i => if w ∈ t.l[i]!.who then (t, 7) else (⟨t.l.set i { t.l[i]! with who := t.l[i]!.who ++ [w] }, t.last⟩, 0)
/-- One that waits no more: whether it did and nobody does now. -/
def Fl.quit (f : Fl) (w : Int) : Fl × Bool := if w ∈ f.who then ({ f with who := f.who.erase w }, (f.who.erase w).isEmpty) else (f, false)
def Tab.leave (t : Tab) (w : Int) : Tab × List Int := (⟨t.l.map fun f => (f.quit w).1, t.last⟩, (t.l.filter fun f => (f.quit w).2).map Fl.id)
def Tab.quit (t : Tab) (id w : Int) : Tab × Bool :=
  match place t.l id with
  | none => (t, false)
  | some i => (⟨t.l.set i (t.l[i]!.quit w).1, t.last⟩, (t.l[i]!.quit w).2)
def Tab.hear (t : Tab) (id en pl stop : Int) : Tab × Int :=
  match place t.l id with
  | none => (t, 6)
  | some i => if t.l[i]!.he then (t, 11) else if en < 1 ∨ pl < 0 ∨ stop < pl ∨ 4611686018427387904 < stop then (t, 1)
    else if t.l[i]!.en ≠ 0 ∧ t.l[i]!.en ≠ en then (t, 12) else (⟨t.l.set i { t.l[i]! with he := true, en := en, pl := pl, stop := stop }, t.last⟩, 0)
def Tab.move (t : Tab) (id n : Int) : Tab × Int :=
  match place t.l id with
  | none => (t, 6)
  | some i => if t.l[i]!.he = false then (t, 11) else if n < 0 ∨ t.l[i]!.stop - t.l[i]!.pl < n then (t, 1)
    else (⟨t.l.set i { t.l[i]! with pl := t.l[i]!.pl + n }, t.last⟩, 0)
def Tab.end_ (t : Tab) (id : Int) : Tab × List Int × Bool :=
  match place t.l id with
  | none => (t, [], false)
  | some i => (⟨t.l.eraseIdx i, t.last⟩, t.l[i]!.who, true)
def Tab.of (t : Tab) (w : Int) : List Int := (t.l.filter fun f => f.who.contains w).map Fl.id

theorem place_none {l : List Fl} {id : Int} (h : place l id = none) : ∀ f ∈ l, f.id ≠ id := by
  intro f hf e
  have := List.findIdx?_eq_none_iff.1 h f hf
  simp [e] at this
theorem place_some {l : List Fl} {id : Int} {i : Nat} (h : place l id = some i) : i < l.length ∧ l[i]!.id = id := by
  obtain ⟨h1, h2, _⟩ := List.findIdx?_eq_some_iff_getElem.1 h
  exact ⟨h1, by rw [getElem!_pos l i h1]; simpa using h2⟩
theorem rising_lt {l : List Fl} {last : Int} (h : Rising l last) {i j : Nat} (hij : i < j) (hj : j < l.length) : l[i]!.id < l[j]!.id := by
  have := (List.pairwise_iff_getElem.1 h.1) i j (by simp; omega) (by simpa using hj) hij
  rw [getElem!_pos l i (by omega), getElem!_pos l j hj]
  simpa using this
theorem rising_of_le {l : List Fl} {last : Int} (h : Rising l last) {i j : Nat} (hi : i < l.length) (hj : j < l.length) (e : l[i]!.id ≤ l[j]!.id) : i ≤ j := by
  rcases Nat.lt_or_ge j i with h1 | h1
  · have := rising_lt h h1 hi; omega
  · exact h1

/-- What a binary search finds: all ahead are less, all from there on are not. -/
theorem lows_of {l : List Fl} {id : Int} {k : Nat} (hk : k ≤ l.length) (h1 : ∀ i, i < k → l[i]!.id < id) (h2 : ∀ i, k ≤ i → i < l.length → id ≤ l[i]!.id) : lows l id = k := by
  have e : l = l.take k ++ l.drop k := (List.take_append_drop k l).symm
  have a : (l.take k).filter (fun f => decide (f.id < id)) = l.take k := List.filter_eq_self.2 fun f hf => by
    obtain ⟨i, hi, rfl⟩ := List.getElem_of_mem hf
    have hi' : i < k := by have := hi; simp at this; omega
    have := h1 i hi'
    rw [getElem!_pos l i (by omega)] at this
    simpa using this
  have b : (l.drop k).filter (fun f => decide (f.id < id)) = [] := List.filter_eq_nil_iff.2 fun f hf => by
    obtain ⟨i, hi, rfl⟩ := List.getElem_of_mem hf
    have hi' : k + i < l.length := by have := hi; simp at this; omega
    have := h2 (k + i) (by omega) hi'
    rw [getElem!_pos l _ hi'] at this
    simpa using this
  unfold lows
  rw [e, List.filter_append, a, b]
  simp; omega
theorem lows_le (l : List Fl) (id : Int) : lows l id ≤ l.length := List.length_filter_le _ _
theorem place_lows {l : List Fl} {last id : Int} (h : Rising l last) : place l id = if lows l id < l.length ∧ l[lows l id]!.id = id then some (lows l id) else none := by
  cases hp : place l id with
  | none =>
    rw [if_neg]
    rintro ⟨h1, h2⟩
    refine place_none hp (l[lows l id]!) ?_ h2
    rw [getElem!_pos l _ h1]
    exact List.getElem_mem h1
  | some i =>
    obtain ⟨h1, h2⟩ := place_some hp
    have e : lows l id = i := lows_of (by omega) (fun j hj => by have := rising_lt h hj h1; omega) (fun j hj hl => by
      rcases Nat.lt_or_ge i j with h3 | h3
      · have := rising_lt h h3 hl; omega
      · have : j = i := by omega
        subst this; omega)
    rw [e, if_pos ⟨h1, h2⟩]
end Go.Proofs.Ytaanbgagdanalaa
