/- Opening an argument of type Moves: a flight, two numbers, and a list of numbers. -/
import Derived.Test.YtaanbgagdanalaaOpen
namespace Go.Proofs.Ytaanbgagdanalaa
open Go.ChangeShapes Go.WideShapes Go.ChangeAt Go.RowKit Go.Deep

structure Mv where
  f : Fl
  at_ : Int
  fin : Int
  A : Option Addr
  c : Nat
  l : List Int
def Mv.cells (z : Mv) : List Value := headOf z.f ++ [.int .i64 z.at_, .int .i64 z.fin, .slice z.A z.l.length z.c]
def agM (z : Mv) : Value := .agg #[.int .i64 z.f.id, .string z.f.obj, .int .i64 z.f.fr, .int .i64 z.f.to, .string z.f.mt, .bool z.f.mw, .string z.f.nt, .bool z.f.nw, .int .i64 z.f.en, .int .i64 z.f.sa, .int .i64 z.f.mo, .int .i64 z.f.ge, .int .i64 z.f.pl, .bool z.f.he, .int .i64 z.at_, .int .i64 z.fin, .slice z.A z.l.length z.c]
theorem cells69 : Try.prog.cellsOf 69 = 17 := by kernel_rfl
theorem cells43 : Try.prog.cellsOf 43 = 1 := by kernel_rfl
theorem list17 {α : Type} {l : List α} (h : l.length = 17) : ∃ a0 a1 a2 a3 a4 a5 a6 a7 a8 a9 a10 a11 a12 a13 a14 a15 a16, l = [a0, a1, a2, a3, a4, a5, a6, a7, a8, a9, a10, a11, a12, a13, a14, a15, a16] := match l, h with | [a0, a1, a2, a3, a4, a5, a6, a7, a8, a9, a10, a11, a12, a13, a14, a15, a16], _ => ⟨a0, a1, a2, a3, a4, a5, a6, a7, a8, a9, a10, a11, a12, a13, a14, a15, a16, rfl⟩
section
variable {H : Type} {enc : TypeId × Value → H} {w : World} {base : Nat} {spare : Nat → Bool} {held : Bool}
/-- A list of numbers that came in. -/
theorem read_row {fuel : Nat} {cs : List Value} {x : DataW H × List MemPlace} (h : DataW.trod enc Try.prog w base spare held fuel 43 cs = some x) :
    ∃ A c, ∃ l : List Int, cs = [.slice A l.length c] ∧ RowO w A l := by
  rcases open_slice Try.underlying43 h with ⟨hcs, _⟩ | ⟨x, len', cap', m, n, D, Pl, hcs, _, hl, _, hm, _, hi⟩
  · exact ⟨none, 0, [], hcs, fun k hk => by simp at hk⟩
  · have hlm : len' ≤ m := by rw [hm]; split <;> omega
    rw [cells2] at hi
    have hex : ∀ i, i < len' → ∃ r : Int, x.spot = none ∧ w.cell? ⟨x.block, x.off + i, none⟩ = some (.int .i64 r) := fun i hil => by
      obtain ⟨cs', h1, h2⟩ := hi i (by omega)
      obtain ⟨r, rfl, _, _⟩ := DataW.trod_int Try.underlying2 h2
      obtain ⟨_, _, hat⟩ := World.cells?_some h1
      have q0 := hat 0 (by omega)
      obtain ⟨cs0, g1, g2⟩ := hi 0 (by omega)
      obtain ⟨r0, rfl, _, _⟩ := DataW.trod_int Try.underlying2 g2
      obtain ⟨_, _, gat⟩ := World.cells?_some g1
      have g0 := gat 0 (by omega)
      have hsp : x.spot = none := by
        have := World.cell?_spot (v := .int .i64 r0) (by simpa [Addr.add] using g0)
        simpa [Addr.add] using this
      rw [Nat.mul_one, add_at x _ hsp, add_at _ _ rfl] at q0
      exact ⟨r, hsp, q0⟩
    refine ⟨some x, cap', (List.range len').map fun i => if h : i < len' then Classical.choose (hex i h) else 0, by simpa using hcs, fun k hk => ?_⟩
    simp only [List.length_map, List.length_range] at hk
    have hsp := Classical.choose_spec (hex k hk)
    refine ⟨x.block, x.off, ?_, ?_⟩
    · obtain ⟨b, o, s⟩ := x
      simp only at hsp
      rw [hsp.1]
    · simp only [List.getElem_map, List.getElem_range, hk, dif_pos]
      exact hsp.2
set_option maxRecDepth 100000 in
theorem read_mv {n : Nat} {cs : List Value} {x : DataW H × List MemPlace} (h : DataW.trod enc Try.prog w base spare held n 69 cs = some x) : ∃ z : Mv, cs = z.cells ∧ RowO w z.A z.l := by
  obtain ⟨xs, m, _, _, hl, hlen, hf⟩ := DataW.trod_struct Try.underlying69 h
  rw [cells69] at hl
  have h0 : DataW.trod enc Try.prog w base spare held m 30 ((cs.drop 0).take (Try.prog.cellsOf 30)) = xs[0]? := hf 0 _ rfl
  have h1 : DataW.trod enc Try.prog w base spare held m 2 ((cs.drop 14).take (Try.prog.cellsOf 2)) = xs[1]? := hf 1 _ rfl
  have h2 : DataW.trod enc Try.prog w base spare held m 2 ((cs.drop 15).take (Try.prog.cellsOf 2)) = xs[2]? := hf 2 _ rfl
  have h3 : DataW.trod enc Try.prog w base spare held m 43 ((cs.drop 16).take (Try.prog.cellsOf 43)) = xs[3]? := hf 3 _ rfl
  rw [cells30] at h0
  rw [cells2] at h1 h2
  rw [cells43] at h3
  obtain ⟨c0, c1, c2, c3, c4, c5, c6, c7, c8, c9, c10, c11, c12, c13, c14, c15, c16, rfl⟩ := list17 hl
  obtain ⟨y0, e0⟩ := some_at (i := 0) hlen (by decide)
  obtain ⟨y1, e1⟩ := some_at (i := 1) hlen (by decide)
  obtain ⟨y2, e2⟩ := some_at (i := 2) hlen (by decide)
  obtain ⟨y3, e3⟩ := some_at (i := 3) hlen (by decide)
  rw [e0] at h0
  rw [e1] at h1
  rw [e2] at h2
  rw [e3] at h3
  obtain ⟨f, k0⟩ := read_fl h0
  obtain ⟨a, k1, _, _⟩ := DataW.trod_int Try.underlying2 h1
  obtain ⟨b, k2, _, _⟩ := DataW.trod_int Try.underlying2 h2
  obtain ⟨A, c, l, k3, hr⟩ := read_row h3
  simp only [List.drop_zero, List.drop_succ_cons, List.take_succ_cons, List.take_zero, List.cons.injEq, and_true] at k0 k1 k2 k3
  refine ⟨⟨f, a, b, A, c, l⟩, ?_, hr⟩
  show _ = headOf f ++ [.int .i64 a, .int .i64 b, .slice A l.length c]
  rw [← k0, k1, k2, k3]
  rfl
set_option maxRecDepth 100000 in
/-- An argument of type Moves. -/
theorem open_mv {r : Reach} {b0 : Nat} {v : Value} {d : DataW H} {p : List MemPlace} (hv : Value.okWide Try.prog w r b0 69 v) (h : DataW.Trod enc Try.prog w base spare held 69 v d p) :
    ∃ z : Mv, v = agM z ∧ RowO w z.A z.l := by
  obtain ⟨cs, rfl, hsz⟩ := okWide_struct Try.underlying69 hv
  obtain ⟨fuel, hf⟩ := h
  obtain ⟨z, hz, hr⟩ := read_mv hf
  refine ⟨z, ?_, hr⟩
  have : cs.toList = z.cells := by simpa [Value.cells] using hz
  unfold agM
  congr 1
  exact Array.toList_inj.1 (by rw [this]; rfl)
end
end Go.Proofs.Ytaanbgagdanalaa
