/- How the laws' arguments read: slices of numbers, flights, calls. -/
import Derived.Test.YtaanbgagdanalaaAwake
import Derived.ProofKit
import Derived.Deep.Slices
import Derived.ChangeArms
import Derived.Lib.SmallJoins
namespace Go.Proofs.Ytaanbgagdanalaa
open Go.ChangeShapes Go.WideShapes Go.ChangeAt Go.RowKit Go.Deep

theorem cells2 : Try.prog.cellsOf 2 = 1 := by kernel_rfl
theorem cells3 : Try.prog.cellsOf 3 = 1 := by kernel_rfl
theorem cells4 : Try.prog.cellsOf 4 = 1 := by kernel_rfl
theorem cells5 : Try.prog.cellsOf 5 = 1 := by kernel_rfl
theorem cells9 : Try.prog.cellsOf 9 = 1 := by kernel_rfl
theorem cells24 : Try.prog.cellsOf 24 = 2 := by kernel_rfl
theorem cells26 : Try.prog.cellsOf 26 = 2 := by kernel_rfl
theorem cells28 : Try.prog.cellsOf 28 = 7 := by kernel_rfl
theorem cells30 : Try.prog.cellsOf 30 = 14 := by kernel_rfl
theorem cells53 : Try.prog.cellsOf 53 = 21 := by kernel_rfl
theorem list2 {α : Type} {l : List α} (h : l.length = 2) : ∃ a0 a1, l = [a0, a1] := match l, h with | [a0, a1], _ => ⟨a0, a1, rfl⟩
theorem list7 {α : Type} {l : List α} (h : l.length = 7) : ∃ a0 a1 a2 a3 a4 a5 a6, l = [a0, a1, a2, a3, a4, a5, a6] := match l, h with | [a0, a1, a2, a3, a4, a5, a6], _ => ⟨a0, a1, a2, a3, a4, a5, a6, rfl⟩
theorem list14 {α : Type} {l : List α} (h : l.length = 14) : ∃ a0 a1 a2 a3 a4 a5 a6 a7 a8 a9 a10 a11 a12 a13, l = [a0, a1, a2, a3, a4, a5, a6, a7, a8, a9, a10, a11, a12, a13] := match l, h with | [a0, a1, a2, a3, a4, a5, a6, a7, a8, a9, a10, a11, a12, a13], _ => ⟨a0, a1, a2, a3, a4, a5, a6, a7, a8, a9, a10, a11, a12, a13, rfl⟩
theorem list21 {α : Type} {l : List α} (h : l.length = 21) : ∃ a0 a1 a2 a3 a4 a5 a6 a7 a8 a9 a10 a11 a12 a13 a14 a15 a16 a17 a18 a19 a20, l = [a0, a1, a2, a3, a4, a5, a6, a7, a8, a9, a10, a11, a12, a13, a14, a15, a16, a17, a18, a19, a20] := match l, h with | [a0, a1, a2, a3, a4, a5, a6, a7, a8, a9, a10, a11, a12, a13, a14, a15, a16, a17, a18, a19, a20], _ => ⟨a0, a1, a2, a3, a4, a5, a6, a7, a8, a9, a10, a11, a12, a13, a14, a15, a16, a17, a18, a19, a20, rfl⟩
theorem some_at {α : Type} {l : List α} {n i : Nat} (h : l.length = n) (hi : i < n) : ∃ x, l[i]? = some x := ⟨_, List.getElem?_eq_getElem (by omega)⟩

/-- A slice of numbers that came in. -/
def RowO (w : World) (A : Option Addr) (l : List Int) : Prop := ∀ (k : Nat) (h : k < l.length), ∃ b o, A = some ⟨b, o, none⟩ ∧ w.cell? ⟨b, o + k, none⟩ = some (.int .i64 l[k])
theorem RowO.ext {w w' : World} {A : Option Addr} {l : List Int} (h : RowO w A l) (hx : Ext w w') : RowO w' A l := fun k hk => by
  obtain ⟨b, o, hA, p0⟩ := h k hk
  exact ⟨b, o, hA, hx.cell p0⟩

/-- A call. -/
structure Op where
  kind : Int
  f : Fl
  id : Int
  who : Int
  en : Int
  n : Int
  to : Int
  obj : ByteArray
instance : Inhabited Op := ⟨⟨0, default, 0, 0, 0, 0, 0, ⟨#[]⟩⟩⟩
def opCells (a : Op) : List Value := .int .u8 a.kind :: (headOf a.f ++ [.int .i64 a.id, .int .i64 a.who, .int .i64 a.en, .int .i64 a.n, .int .i64 a.to, .string a.obj])
/-- A slice of calls that came in. -/
def Ops (w : World) (A : Option Addr) (l : List Op) : Prop := ∀ (k : Nat) (h : k < l.length), (0 ≤ l[k].kind ∧ l[k].kind < 256) ∧ ∃ b o, A = some ⟨b, o, none⟩ ∧ ∀ j u, (opCells l[k])[j]? = some u → w.cell? ⟨b, o + k * 21 + j, none⟩ = some u
theorem Ops.ext {w w' : World} {A : Option Addr} {l : List Op} (h : Ops w A l) (hx : Ext w w') : Ops w' A l := fun k hk => by
  obtain ⟨h1, b, o, hA, p0⟩ := h k hk
  exact ⟨h1, b, o, hA, fun j u hu => hx.cell (p0 j u hu)⟩

section
variable {H : Type} {enc : TypeId × Value → H} {w : World} {base : Nat} {spare : Nat → Bool} {held : Bool}

theorem read_span {n : Nat} {cs : List Value} {x : DataW H × List MemPlace} (h : DataW.trod enc Try.prog w base spare held n 24 cs = some x) :
    ∃ f t, cs = [.int .i64 f, .int .i64 t] := by
  obtain ⟨xs, m, _, _, hl, hlen, hf⟩ := DataW.trod_struct Try.underlying24 h
  rw [cells24] at hl
  have h0 : DataW.trod enc Try.prog w base spare held m 2 ((cs.drop 0).take (Try.prog.cellsOf 2)) = xs[0]? := hf 0 _ rfl
  rw [cells2] at h0
  have h1 : DataW.trod enc Try.prog w base spare held m 2 ((cs.drop 1).take (Try.prog.cellsOf 2)) = xs[1]? := hf 1 _ rfl
  rw [cells2] at h1
  obtain ⟨c0, c1, rfl⟩ := list2 hl
  obtain ⟨y0, e0⟩ := some_at (i := 0) hlen (by decide)
  rw [e0] at h0
  obtain ⟨y1, e1⟩ := some_at (i := 1) hlen (by decide)
  rw [e1] at h1
  obtain ⟨f, k0, _, w0⟩ := DataW.trod_int Try.underlying2 h0
  obtain ⟨t, k1, _, w1⟩ := DataW.trod_int Try.underlying2 h1
  simp only [List.drop_zero, List.drop_succ_cons, List.take_succ_cons, List.take_zero, List.cons.injEq, and_true] at k0 k1
  exact ⟨f, t, by rw [k0, k1]⟩
theorem read_tag {n : Nat} {cs : List Value} {x : DataW H × List MemPlace} (h : DataW.trod enc Try.prog w base spare held n 26 cs = some x) :
    ∃ s b, cs = [.string s, .bool b] := by
  obtain ⟨xs, m, _, _, hl, hlen, hf⟩ := DataW.trod_struct Try.underlying26 h
  rw [cells26] at hl
  have h0 : DataW.trod enc Try.prog w base spare held m 9 ((cs.drop 0).take (Try.prog.cellsOf 9)) = xs[0]? := hf 0 _ rfl
  rw [cells9] at h0
  have h1 : DataW.trod enc Try.prog w base spare held m 4 ((cs.drop 1).take (Try.prog.cellsOf 4)) = xs[1]? := hf 1 _ rfl
  rw [cells4] at h1
  obtain ⟨c0, c1, rfl⟩ := list2 hl
  obtain ⟨y0, e0⟩ := some_at (i := 0) hlen (by decide)
  rw [e0] at h0
  obtain ⟨y1, e1⟩ := some_at (i := 1) hlen (by decide)
  rw [e1] at h1
  obtain ⟨s, k0, _, z0⟩ := DataW.trod_string Try.underlying9 h0
  obtain ⟨b, k1, _⟩ := DataW.trod_bool Try.underlying4 h1
  simp only [List.drop_zero, List.drop_succ_cons, List.take_succ_cons, List.take_zero, List.cons.injEq, and_true] at k0 k1
  exact ⟨s, b, by rw [k0, k1]⟩
theorem read_fetch {n : Nat} {cs : List Value} {x : DataW H × List MemPlace} (h : DataW.trod enc Try.prog w base spare held n 28 cs = some x) :
    ∃ s f t m mw q qw, cs = [.string s, .int .i64 f, .int .i64 t, .string m, .bool mw, .string q, .bool qw] := by
  obtain ⟨xs, m, _, _, hl, hlen, hf⟩ := DataW.trod_struct Try.underlying28 h
  rw [cells28] at hl
  have h0 : DataW.trod enc Try.prog w base spare held m 9 ((cs.drop 0).take (Try.prog.cellsOf 9)) = xs[0]? := hf 0 _ rfl
  rw [cells9] at h0
  have h1 : DataW.trod enc Try.prog w base spare held m 24 ((cs.drop 1).take (Try.prog.cellsOf 24)) = xs[1]? := hf 1 _ rfl
  rw [cells24] at h1
  have h2 : DataW.trod enc Try.prog w base spare held m 26 ((cs.drop 3).take (Try.prog.cellsOf 26)) = xs[2]? := hf 2 _ rfl
  rw [cells26] at h2
  have h3 : DataW.trod enc Try.prog w base spare held m 26 ((cs.drop 5).take (Try.prog.cellsOf 26)) = xs[3]? := hf 3 _ rfl
  rw [cells26] at h3
  obtain ⟨c0, c1, c2, c3, c4, c5, c6, rfl⟩ := list7 hl
  obtain ⟨y0, e0⟩ := some_at (i := 0) hlen (by decide)
  rw [e0] at h0
  obtain ⟨y1, e1⟩ := some_at (i := 1) hlen (by decide)
  rw [e1] at h1
  obtain ⟨y2, e2⟩ := some_at (i := 2) hlen (by decide)
  rw [e2] at h2
  obtain ⟨y3, e3⟩ := some_at (i := 3) hlen (by decide)
  rw [e3] at h3
  obtain ⟨s, k0, _, z0⟩ := DataW.trod_string Try.underlying9 h0
  obtain ⟨f, t, k1⟩ := read_span h1
  obtain ⟨m, mw, k2⟩ := read_tag h2
  obtain ⟨q, qw, k3⟩ := read_tag h3
  simp only [List.drop_zero, List.drop_succ_cons, List.take_succ_cons, List.take_zero, List.cons.injEq, and_true] at k0 k1 k2 k3
  exact ⟨s, f, t, m, mw, q, qw, by rw [k0, k1.1, k1.2, k2.1, k2.2, k3.1, k3.2]⟩
theorem read_fl {n : Nat} {cs : List Value} {x : DataW H × List MemPlace} (h : DataW.trod enc Try.prog w base spare held n 30 cs = some x) :
    ∃ f : Fl, cs = headOf f := by
  obtain ⟨xs, m, _, _, hl, hlen, hf⟩ := DataW.trod_struct Try.underlying30 h
  rw [cells30] at hl
  have h0 : DataW.trod enc Try.prog w base spare held m 2 ((cs.drop 0).take (Try.prog.cellsOf 2)) = xs[0]? := hf 0 _ rfl
  rw [cells2] at h0
  have h1 : DataW.trod enc Try.prog w base spare held m 28 ((cs.drop 1).take (Try.prog.cellsOf 28)) = xs[1]? := hf 1 _ rfl
  rw [cells28] at h1
  have h2 : DataW.trod enc Try.prog w base spare held m 2 ((cs.drop 8).take (Try.prog.cellsOf 2)) = xs[2]? := hf 2 _ rfl
  rw [cells2] at h2
  have h3 : DataW.trod enc Try.prog w base spare held m 2 ((cs.drop 9).take (Try.prog.cellsOf 2)) = xs[3]? := hf 3 _ rfl
  rw [cells2] at h3
  have h4 : DataW.trod enc Try.prog w base spare held m 2 ((cs.drop 10).take (Try.prog.cellsOf 2)) = xs[4]? := hf 4 _ rfl
  rw [cells2] at h4
  have h5 : DataW.trod enc Try.prog w base spare held m 2 ((cs.drop 11).take (Try.prog.cellsOf 2)) = xs[5]? := hf 5 _ rfl
  rw [cells2] at h5
  have h6 : DataW.trod enc Try.prog w base spare held m 2 ((cs.drop 12).take (Try.prog.cellsOf 2)) = xs[6]? := hf 6 _ rfl
  rw [cells2] at h6
  have h7 : DataW.trod enc Try.prog w base spare held m 4 ((cs.drop 13).take (Try.prog.cellsOf 4)) = xs[7]? := hf 7 _ rfl
  rw [cells4] at h7
  obtain ⟨c0, c1, c2, c3, c4, c5, c6, c7, c8, c9, c10, c11, c12, c13, rfl⟩ := list14 hl
  obtain ⟨y0, e0⟩ := some_at (i := 0) hlen (by decide)
  rw [e0] at h0
  obtain ⟨y1, e1⟩ := some_at (i := 1) hlen (by decide)
  rw [e1] at h1
  obtain ⟨y2, e2⟩ := some_at (i := 2) hlen (by decide)
  rw [e2] at h2
  obtain ⟨y3, e3⟩ := some_at (i := 3) hlen (by decide)
  rw [e3] at h3
  obtain ⟨y4, e4⟩ := some_at (i := 4) hlen (by decide)
  rw [e4] at h4
  obtain ⟨y5, e5⟩ := some_at (i := 5) hlen (by decide)
  rw [e5] at h5
  obtain ⟨y6, e6⟩ := some_at (i := 6) hlen (by decide)
  rw [e6] at h6
  obtain ⟨y7, e7⟩ := some_at (i := 7) hlen (by decide)
  rw [e7] at h7
  obtain ⟨id, k0, _, w0⟩ := DataW.trod_int Try.underlying2 h0
  obtain ⟨s, f, t, m, mw, q, qw, k1⟩ := read_fetch h1
  obtain ⟨en, k2, _, w2⟩ := DataW.trod_int Try.underlying2 h2
  obtain ⟨sa, k3, _, w3⟩ := DataW.trod_int Try.underlying2 h3
  obtain ⟨mo, k4, _, w4⟩ := DataW.trod_int Try.underlying2 h4
  obtain ⟨ge, k5, _, w5⟩ := DataW.trod_int Try.underlying2 h5
  obtain ⟨pl, k6, _, w6⟩ := DataW.trod_int Try.underlying2 h6
  obtain ⟨he, k7, _⟩ := DataW.trod_bool Try.underlying4 h7
  simp only [List.drop_zero, List.drop_succ_cons, List.take_succ_cons, List.take_zero, List.cons.injEq, and_true] at k0 k1 k2 k3 k4 k5 k6 k7
  obtain ⟨p0, p1, p2, p3, p4, p5, p6⟩ := k1
  exact ⟨⟨id, s, f, t, m, mw, q, qw, en, sa, mo, ge, pl, he, 0, []⟩, by rw [k0, p0, p1, p2, p3, p4, p5, p6, k2, k3, k4, k5, k6, k7]; rfl⟩
theorem u8_of_wf {n : Int} (h : (Lit.int .u8 n).wf = true) : 0 ≤ n ∧ n < 256 := by
  have e1 : IntKind.u8.min = 0 := by decide
  have e2 : IntKind.u8.max = 255 := by decide
  simp [Lit.wf] at h
  rw [e1, e2] at h
  omega
theorem read_op {n : Nat} {cs : List Value} {x : DataW H × List MemPlace} (h : DataW.trod enc Try.prog w base spare held n 53 cs = some x) :
    ∃ a : Op, cs = opCells a ∧ 0 ≤ a.kind ∧ a.kind < 256 := by
  obtain ⟨xs, m, _, _, hl, hlen, hf⟩ := DataW.trod_struct Try.underlying53 h
  rw [cells53] at hl
  have h0 : DataW.trod enc Try.prog w base spare held m 5 ((cs.drop 0).take (Try.prog.cellsOf 5)) = xs[0]? := hf 0 _ rfl
  rw [cells5] at h0
  have h1 : DataW.trod enc Try.prog w base spare held m 30 ((cs.drop 1).take (Try.prog.cellsOf 30)) = xs[1]? := hf 1 _ rfl
  rw [cells30] at h1
  have h2 : DataW.trod enc Try.prog w base spare held m 2 ((cs.drop 15).take (Try.prog.cellsOf 2)) = xs[2]? := hf 2 _ rfl
  rw [cells2] at h2
  have h3 : DataW.trod enc Try.prog w base spare held m 3 ((cs.drop 16).take (Try.prog.cellsOf 3)) = xs[3]? := hf 3 _ rfl
  rw [cells3] at h3
  have h4 : DataW.trod enc Try.prog w base spare held m 2 ((cs.drop 17).take (Try.prog.cellsOf 2)) = xs[4]? := hf 4 _ rfl
  rw [cells2] at h4
  have h5 : DataW.trod enc Try.prog w base spare held m 2 ((cs.drop 18).take (Try.prog.cellsOf 2)) = xs[5]? := hf 5 _ rfl
  rw [cells2] at h5
  have h6 : DataW.trod enc Try.prog w base spare held m 2 ((cs.drop 19).take (Try.prog.cellsOf 2)) = xs[6]? := hf 6 _ rfl
  rw [cells2] at h6
  have h7 : DataW.trod enc Try.prog w base spare held m 9 ((cs.drop 20).take (Try.prog.cellsOf 9)) = xs[7]? := hf 7 _ rfl
  rw [cells9] at h7
  obtain ⟨c0, c1, c2, c3, c4, c5, c6, c7, c8, c9, c10, c11, c12, c13, c14, c15, c16, c17, c18, c19, c20, rfl⟩ := list21 hl
  obtain ⟨y0, e0⟩ := some_at (i := 0) hlen (by decide)
  rw [e0] at h0
  obtain ⟨y1, e1⟩ := some_at (i := 1) hlen (by decide)
  rw [e1] at h1
  obtain ⟨y2, e2⟩ := some_at (i := 2) hlen (by decide)
  rw [e2] at h2
  obtain ⟨y3, e3⟩ := some_at (i := 3) hlen (by decide)
  rw [e3] at h3
  obtain ⟨y4, e4⟩ := some_at (i := 4) hlen (by decide)
  rw [e4] at h4
  obtain ⟨y5, e5⟩ := some_at (i := 5) hlen (by decide)
  rw [e5] at h5
  obtain ⟨y6, e6⟩ := some_at (i := 6) hlen (by decide)
  rw [e6] at h6
  obtain ⟨y7, e7⟩ := some_at (i := 7) hlen (by decide)
  rw [e7] at h7
  obtain ⟨kind, k0, _, w0⟩ := DataW.trod_int Try.underlying5 h0
  obtain ⟨f, k1⟩ := read_fl h1
  obtain ⟨id, k2, _, w2⟩ := DataW.trod_int Try.underlying2 h2
  obtain ⟨who, k3, _, w3⟩ := DataW.trod_int Try.underlying3 h3
  obtain ⟨en, k4, _, w4⟩ := DataW.trod_int Try.underlying2 h4
  obtain ⟨n, k5, _, w5⟩ := DataW.trod_int Try.underlying2 h5
  obtain ⟨to, k6, _, w6⟩ := DataW.trod_int Try.underlying2 h6
  obtain ⟨obj, k7, _, z7⟩ := DataW.trod_string Try.underlying9 h7
  simp only [List.drop_zero, List.drop_succ_cons, List.take_succ_cons, List.take_zero, List.cons.injEq, and_true] at k0 k1 k2 k3 k4 k5 k6 k7
  simp only [headOf, List.cons.injEq, and_true] at k1
  obtain ⟨p0, p1, p2, p3, p4, p5, p6, p7, p8, p9, p10, p11, p12, p13⟩ := k1
  obtain ⟨z0, z1⟩ := u8_of_wf w0
  exact ⟨⟨kind, f, id, who, en, n, to, obj⟩, by rw [k0, p0, p1, p2, p3, p4, p5, p6, p7, p8, p9, p10, p11, p12, p13, k2, k3, k4, k5, k6, k7]; rfl, z0, z1⟩

theorem add_at (a : Addr) (i : Nat) (h : a.spot = none) : a.add i = ⟨a.block, a.off + i, none⟩ := by
  obtain ⟨b, o, s⟩ := a
  simp only at h
  subst h
  unfold Addr.add
  split <;> simp_all

set_option maxRecDepth 100000 in
/-- An argument of type flight.Flight, by value. -/
theorem open_fl {r : Reach} {b0 : Nat} {v : Value} {d : DataW H} {p : List MemPlace} (hv : Value.okWide Try.prog w r b0 30 v) (h : DataW.Trod enc Try.prog w base spare held 30 v d p) :
    ∃ f : Fl, v = agF f := by
  obtain ⟨cs, rfl, hsz⟩ := okWide_struct Try.underlying30 hv
  obtain ⟨fuel, hf⟩ := h
  obtain ⟨f, hf⟩ := read_fl hf
  refine ⟨f, ?_⟩
  have : cs.toList = headOf f := by simpa [Value.cells] using hf
  unfold agF
  congr 1
  exact Array.toList_inj.1 (by rw [this]; rfl)

/-- An argument of type []int. -/
theorem open_ints {a : Option Addr} {len cap : Nat} {d : DataW H} {p : List MemPlace} (h : DataW.Trod enc Try.prog w base spare held 22 (.slice a len cap) d p) :
    ∃ l : List Int, l.length = len ∧ RowO w a l := by
  obtain ⟨fuel, hf⟩ := h
  rcases open_slice Try.underlying22 hf with ⟨hcs, _⟩ | ⟨x, len', cap', m, n, D, Pl, hcs, _, hl, _, hm, _, hi⟩
  · simp [Value.cells] at hcs
    obtain ⟨rfl, rfl, rfl⟩ := hcs
    exact ⟨[], rfl, fun k hk => by simp at hk⟩
  · simp [Value.cells] at hcs
    obtain ⟨rfl, rfl, rfl⟩ := hcs
    have hlm : len ≤ m := by rw [hm]; split <;> omega
    rw [cells3] at hi
    have hex : ∀ i, i < len → ∃ r : Int, x.spot = none ∧ w.cell? ⟨x.block, x.off + i, none⟩ = some (.int .i64 r) := fun i hil => by
      obtain ⟨cs', h1, h2⟩ := hi i (by omega)
      obtain ⟨r, rfl, _, _⟩ := DataW.trod_int Try.underlying3 h2
      obtain ⟨_, _, hat⟩ := World.cells?_some h1
      have q0 := hat 0 (by omega)
      obtain ⟨cs0, g1, g2⟩ := hi 0 (by omega)
      obtain ⟨r0, rfl, _, _⟩ := DataW.trod_int Try.underlying3 g2
      obtain ⟨_, _, gat⟩ := World.cells?_some g1
      have g0 := gat 0 (by omega)
      have hsp : x.spot = none := by
        have := World.cell?_spot (v := .int .i64 r0) (by simpa [Addr.add] using g0)
        simpa [Addr.add] using this
      rw [Nat.mul_one, add_at x _ hsp, add_at _ _ rfl] at q0
      exact ⟨r, hsp, q0⟩
    refine ⟨(List.range len).map fun i => if h : i < len then Classical.choose (hex i h) else 0, by simp, fun k hk => ?_⟩
    simp only [List.length_map, List.length_range] at hk
    have hsp := Classical.choose_spec (hex k hk)
    refine ⟨x.block, x.off, ?_, ?_⟩
    · obtain ⟨b, o, s⟩ := x
      simp only at hsp
      rw [hsp.1]
    · simp only [List.getElem_map, List.getElem_range, hk, dif_pos]
      exact hsp.2

theorem opCells_length (a : Op) : (opCells a).length = 21 := rfl
/-- An argument of type []Op. -/
theorem open_ops {a : Option Addr} {len cap : Nat} {d : DataW H} {p : List MemPlace} (h : DataW.Trod enc Try.prog w base spare held 46 (.slice a len cap) d p) :
    ∃ l : List Op, l.length = len ∧ (Ops w a l ∧ l.length ≤ maxLen) := by
  obtain ⟨fuel, hf⟩ := h
  rcases open_slice Try.underlying46 hf with ⟨hcs, _⟩ | ⟨x, len', cap', m, n, D, Pl, hcs, _, hl, hml, hm, _, hi⟩
  · simp [Value.cells] at hcs
    obtain ⟨rfl, rfl, rfl⟩ := hcs
    exact ⟨[], rfl, fun k hk => by simp at hk, by simp⟩
  · simp [Value.cells] at hcs
    obtain ⟨rfl, rfl, rfl⟩ := hcs
    have hlm : len ≤ m := by rw [hm]; split <;> omega
    rw [cells53] at hi
    have hex : ∀ i, i < len → ∃ r : Op, (0 ≤ r.kind ∧ r.kind < 256) ∧ x.spot = none ∧ ∀ j u, (opCells r)[j]? = some u → w.cell? ⟨x.block, x.off + i * 21 + j, none⟩ = some u := fun i hil => by
      obtain ⟨cs', h1, h2⟩ := hi i (by omega)
      obtain ⟨r, rfl, z0, z1⟩ := read_op h2
      obtain ⟨_, _, hat⟩ := World.cells?_some h1
      obtain ⟨cs0, g1, g2⟩ := hi 0 (by omega)
      obtain ⟨r0, rfl, _, _⟩ := read_op g2
      obtain ⟨_, _, gat⟩ := World.cells?_some g1
      have g0 := gat 0 (by omega)
      have hsp : x.spot = none := by
        have := World.cell?_spot (v := .int .u8 r0.kind) (by simpa [Addr.add, opCells] using g0)
        simpa [Addr.add] using this
      refine ⟨r, ⟨z0, z1⟩, hsp, fun j u hu => ?_⟩
      have hj : j < 21 := by
        obtain ⟨hj, _⟩ := List.getElem?_eq_some_iff.1 hu
        rw [opCells_length] at hj
        exact hj
      have q := hat j hj
      rw [add_at x _ hsp, add_at _ _ rfl] at q
      exact q.trans hu
    refine ⟨(List.range len).map fun i => if h : i < len then Classical.choose (hex i h) else default, by simp, fun k hk => ?_, by simp; omega⟩
    simp only [List.length_map, List.length_range] at hk
    obtain ⟨s1, s2, s3⟩ := Classical.choose_spec (hex k hk)
    simp only [List.getElem_map, List.getElem_range, hk, dif_pos]
    refine ⟨s1, x.block, x.off, ?_, s3⟩
    obtain ⟨b, o, s⟩ := x
    simp only at s2
    rw [s2]
end
end Go.Proofs.Ytaanbgagdanalaa
