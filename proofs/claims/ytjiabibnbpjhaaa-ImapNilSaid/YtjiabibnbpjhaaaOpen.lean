/- How the laws' arguments read: slices of acts, slices of numbers. -/
import Derived.Test.YtjiabibnbpjhaaaTold
import Derived.ProofKit
import Derived.Deep.Slices
import Derived.ChangeArms
import Derived.Lib.SmallJoins
namespace Go.Proofs.Ytjiabibnbpjhaaa
open Go.ChangeShapes Go.WideShapes Go.ChangeAt Go.RowKit Go.Deep

theorem cells45 : Try.prog.cellsOf 45 = 4 := by kernel_rfl
theorem cells34 : Try.prog.cellsOf 34 = 2 := by kernel_rfl
theorem cells2 : Try.prog.cellsOf 2 = 1 := by kernel_rfl
theorem cells3 : Try.prog.cellsOf 3 = 1 := by kernel_rfl
theorem cells4 : Try.prog.cellsOf 4 = 1 := by kernel_rfl

theorem list2 {α : Type} {l : List α} (h : l.length = 2) : ∃ a b, l = [a, b] := match l, h with | [a, b], _ => ⟨a, b, rfl⟩
theorem list4 {α : Type} {l : List α} (h : l.length = 4) : ∃ a b c d, l = [a, b, c, d] := match l, h with | [a, b, c, d], _ => ⟨a, b, c, d, rfl⟩
theorem some_at {α : Type} {l : List α} {n i : Nat} (h : l.length = n) (hi : i < n) : ∃ x, l[i]? = some x := ⟨_, List.getElem?_eq_getElem (by omega)⟩

/-- A slice of numbers that came in. -/
def Nums (w : World) (A : Option Addr) (l : List Int) : Prop :=
  ∀ (k : Nat) (h : k < l.length), ∃ b o, A = some ⟨b, o, none⟩ ∧ w.cell? ⟨b, o + k, none⟩ = some (.int .i64 l[k])
theorem Nums.ext {w w' : World} {A : Option Addr} {l : List Int} (h : Nums w A l) (hx : Ext w w') : Nums w' A l := fun k hk => by
  obtain ⟨b, o, hA, p0⟩ := h k hk
  exact ⟨b, o, hA, hx.cell p0⟩

section
variable {H : Type} {enc : TypeId × Value → H} {w : World} {base : Nat} {spare : Nat → Bool} {held : Bool}

theorem read_span {n : Nat} {cs : List Value} {x : DataW H × List MemPlace} (h : DataW.trod enc Try.prog w base spare held n 34 cs = some x) :
    ∃ f t, cs = [.int .i64 f, .int .i64 t] ∧ (Lit.int .i64 f).wf = true ∧ (Lit.int .i64 t).wf = true := by
  obtain ⟨xs, m, _, _, hl, hlen, hf⟩ := DataW.trod_struct Try.underlying34 h
  rw [cells34] at hl
  have h0 : DataW.trod enc Try.prog w base spare held m 2 ((cs.drop 0).take (Try.prog.cellsOf 2)) = xs[0]? := hf 0 _ rfl
  have h1 : DataW.trod enc Try.prog w base spare held m 2 ((cs.drop 1).take (Try.prog.cellsOf 2)) = xs[1]? := hf 1 _ rfl
  rw [cells2] at h0 h1
  obtain ⟨c0, c1, rfl⟩ := list2 hl
  obtain ⟨y0, e0⟩ := some_at (i := 0) hlen (by decide)
  obtain ⟨y1, e1⟩ := some_at (i := 1) hlen (by decide)
  rw [e0] at h0
  rw [e1] at h1
  obtain ⟨f, h2, _, wf⟩ := DataW.trod_int Try.underlying2 h0
  obtain ⟨t, h3, _, wt⟩ := DataW.trod_int Try.underlying2 h1
  simp only [List.drop_zero, List.drop_succ_cons, List.take_succ_cons, List.take_zero, List.cons.injEq, and_true] at h2 h3
  exact ⟨f, t, by rw [h2, h3], wf, wt⟩

theorem read_act {n : Nat} {cs : List Value} {x : DataW H × List MemPlace} (h : DataW.trod enc Try.prog w base spare held n 45 cs = some x) :
    ∃ a : Ac, cs = [.bool a.d, .int .i64 a.f, .int .i64 a.t, .int .i64 a.v] := by
  obtain ⟨xs, m, _, _, hl, hlen, hf⟩ := DataW.trod_struct Try.underlying45 h
  rw [cells45] at hl
  have h0 : DataW.trod enc Try.prog w base spare held m 4 ((cs.drop 0).take (Try.prog.cellsOf 4)) = xs[0]? := hf 0 _ rfl
  have h1 : DataW.trod enc Try.prog w base spare held m 34 ((cs.drop 1).take (Try.prog.cellsOf 34)) = xs[1]? := hf 1 _ rfl
  have h2 : DataW.trod enc Try.prog w base spare held m 3 ((cs.drop 3).take (Try.prog.cellsOf 3)) = xs[2]? := hf 2 _ rfl
  rw [cells4] at h0
  rw [cells34] at h1
  rw [cells3] at h2
  obtain ⟨c0, c1, c2, c3, rfl⟩ := list4 hl
  obtain ⟨y0, e0⟩ := some_at (i := 0) hlen (by decide)
  obtain ⟨y1, e1⟩ := some_at (i := 1) hlen (by decide)
  obtain ⟨y2, e2⟩ := some_at (i := 2) hlen (by decide)
  rw [e0] at h0
  rw [e1] at h1
  rw [e2] at h2
  obtain ⟨d, k0, _⟩ := DataW.trod_bool Try.underlying4 h0
  obtain ⟨f, t, k1, _, _⟩ := read_span h1
  obtain ⟨v, k2, _, _⟩ := DataW.trod_int Try.underlying3 h2
  simp only [List.drop_zero, List.drop_succ_cons, List.take_succ_cons, List.take_zero, List.cons.injEq, and_true] at k0 k1 k2
  exact ⟨⟨d, f, t, v⟩, by rw [k0, k1.1, k1.2, k2]⟩

theorem add_at (a : Addr) (i : Nat) (h : a.spot = none) : a.add i = ⟨a.block, a.off + i, none⟩ := by
  obtain ⟨b, o, s⟩ := a
  simp only at h
  subst h
  unfold Addr.add
  split <;> simp_all

set_option maxRecDepth 100000 in
/-- An argument of type api.Span, by value. -/
theorem open_span {r : Reach} {b0 : Nat} {v : Value} {d : DataW H} {p : List MemPlace} (hv : Value.okWide Try.prog w r b0 34 v) (h : DataW.Trod enc Try.prog w base spare held 34 v d p) :
    ∃ f t, v = .agg #[.int .i64 f, .int .i64 t] ∧ (Lit.int .i64 f).wf = true ∧ (Lit.int .i64 t).wf = true := by
  obtain ⟨c0, c1, y0, y1, m, h1, _, _, hy0, hy1⟩ := Joins.open_agg2 Try.underlying34 (by kernel_rfl) cells34 hv h
  obtain ⟨f, e0, _, wf⟩ := DataW.trod_int Try.underlying2 hy0
  obtain ⟨t, e1, _, wt⟩ := DataW.trod_int Try.underlying2 hy1
  simp only [List.cons.injEq, and_true] at e0 e1
  exact ⟨f, t, by rw [h1, e0, e1], wf, wt⟩

/-- An argument of type []int64. -/
theorem open_nums {a : Option Addr} {len cap : Nat} {d : DataW H} {p : List MemPlace} (h : DataW.Trod enc Try.prog w base spare held 53 (.slice a len cap) d p) :
    ∃ l : List Int, l.length = len ∧ Nums w a l := by
  obtain ⟨fuel, hf⟩ := h
  rcases open_slice Try.underlying53 hf with ⟨hcs, _⟩ | ⟨x, len', cap', m, n, D, Pl, hcs, _, hl, _, hm, _, hi⟩
  · simp [Value.cells] at hcs
    obtain ⟨rfl, rfl, rfl⟩ := hcs
    exact ⟨[], rfl, fun k hk => by simp at hk⟩
  · simp [Value.cells] at hcs
    obtain ⟨rfl, rfl, rfl⟩ := hcs
    have hlm : len ≤ m := by rw [hm]; split <;> omega
    rw [cells2] at hi
    have hex : ∀ i, i < len → ∃ r : Int, x.spot = none ∧ w.cell? ⟨x.block, x.off + i, none⟩ = some (.int .i64 r) := fun i hil => by
      obtain ⟨cs', h1, h2⟩ := hi i (by omega)
      obtain ⟨r, rfl, _, _⟩ := DataW.trod_int Try.underlying2 h2
      obtain ⟨_, _, hat⟩ := World.cells?_some h1
      have q0 := hat 0 (by omega)
      obtain ⟨cs0, g1, g2⟩ := hi 0 (by omega)
      obtain ⟨r0, rfl, _, _⟩ := DataW.trod_int Try.underlying2 g2
      obtain ⟨_, _, gat⟩ := World.cells?_some g1
      have g0 := gat 0 (by omega)
      have hsp : x.spot = none := by
        have := World.cell?_spot (v := .int .i64 r0) (by simpa [Addr.add] using g0)
        simpa [Addr.add] using this
      rw [Nat.mul_one, add_at x _ hsp, add_at _ _ rfl] at q0
      exact ⟨r, hsp, q0⟩
    refine ⟨(List.range len).map fun i => if h : i < len then Classical.choose (hex i h) else 0, by simp, fun k hk => ?_⟩
    simp only [List.length_map, List.length_range] at hk
    have hsp := Classical.choose_spec (hex k hk)
    refine ⟨x.block, x.off, ?_, ?_⟩
    · obtain ⟨b, o, s⟩ := x
      simp only at hsp
      rw [hsp.1]
    · simp only [List.getElem_map, List.getElem_range, hk, dif_pos]
      exact hsp.2

/-- An argument of type []Act. -/
theorem open_acts {a : Option Addr} {len cap : Nat} {d : DataW H} {p : List MemPlace} (h : DataW.Trod enc Try.prog w base spare held 22 (.slice a len cap) d p) :
    ∃ l : List Ac, l.length = len ∧ Acts w a l := by
  obtain ⟨fuel, hf⟩ := h
  rcases open_slice Try.underlying22 hf with ⟨hcs, _⟩ | ⟨x, len', cap', m, n, D, Pl, hcs, _, hl, _, hm, _, hi⟩
  · simp [Value.cells] at hcs
    obtain ⟨rfl, rfl, rfl⟩ := hcs
    exact ⟨[], rfl, fun k hk => by simp at hk⟩
  · simp [Value.cells] at hcs
    obtain ⟨rfl, rfl, rfl⟩ := hcs
    have hlm : len ≤ m := by rw [hm]; split <;> omega
    rw [cells45] at hi
    have hex : ∀ i, i < len → ∃ r : Ac, x.spot = none ∧ w.cell? ⟨x.block, x.off + i * 4, none⟩ = some (.bool r.d) ∧ w.cell? ⟨x.block, x.off + i * 4 + 1, none⟩ = some (.int .i64 r.f) ∧
        w.cell? ⟨x.block, x.off + i * 4 + 2, none⟩ = some (.int .i64 r.t) ∧ w.cell? ⟨x.block, x.off + i * 4 + 3, none⟩ = some (.int .i64 r.v) := fun i hil => by
      obtain ⟨cs', h1, h2⟩ := hi i (by omega)
      obtain ⟨r, rfl⟩ := read_act h2
      obtain ⟨_, _, hat⟩ := World.cells?_some h1
      have q0 := hat 0 (by omega)
      have hs1 : (x.add (i * 4)).spot = none := World.cell?_spot (v := .bool r.d) (by simpa [Addr.add] using q0)
      have hsp : x.spot = none := by
        by_cases h0 : i * 4 = 0
        · rw [h0] at hs1; simpa [Addr.add] using hs1
        · by_cases h4 : len = 0
          · omega
          · obtain ⟨cs0, g1, g2⟩ := hi 0 (by omega)
            obtain ⟨r0, rfl⟩ := read_act g2
            obtain ⟨_, _, gat⟩ := World.cells?_some g1
            have g0 := gat 0 (by omega)
            have := World.cell?_spot (v := .bool r0.d) (by simpa [Addr.add] using g0)
            simpa [Addr.add] using this
      have q1 := hat 1 (by omega)
      have q2 := hat 2 (by omega)
      have q3 := hat 3 (by omega)
      rw [add_at x _ hsp, add_at _ _ rfl] at q0 q1 q2 q3
      exact ⟨r, hsp, q0, q1, q2, q3⟩
    refine ⟨(List.range len).map fun i => if h : i < len then Classical.choose (hex i h) else ⟨false, 0, 0, 0⟩, by simp, fun k hk => ?_⟩
    simp only [List.length_map, List.length_range] at hk
    have hsp := Classical.choose_spec (hex k hk)
    refine ⟨x.block, x.off, ?_, ?_⟩
    · obtain ⟨b, o, s⟩ := x
      simp only at hsp
      rw [hsp.1]
    · simp only [List.getElem_map, List.getElem_range, hk, dif_pos]
      exact hsp.2
end
end Go.Proofs.Ytjiabibnbpjhaaa
