/- How the laws' arguments read: slices of spans, spans, jobs, configs, pairs of numbers. -/
import Derived.Test.YtdcdnnbijjcfmaaAlv
import Derived.ProofKit
import Derived.Deep.Slices
import Derived.ChangeArms
import Derived.Lib.SmallJoins
namespace Go.Proofs.Ytdcdnnbijjcfmaa
open Go.ChangeShapes Go.WideShapes Go.ChangeAt Go.RowKit Go.Deep

theorem cellsSpan : Try.prog.cellsOf 48 = 2 := by kernel_rfl
theorem cellsI64 : Try.prog.cellsOf 2 = 1 := by kernel_rfl
theorem cellsInt : Try.prog.cellsOf 3 = 1 := by kernel_rfl
theorem cellsSpans : Try.prog.cellsOf 22 = 1 := by kernel_rfl
theorem cellsCfg : Try.prog.cellsOf 24 = 10 := by kernel_rfl
theorem cellsJob : Try.prog.cellsOf 26 = 13 := by kernel_rfl
theorem list2 {α : Type} {l : List α} (h : l.length = 2) : ∃ a b, l = [a, b] := match l, h with | [a, b], _ => ⟨a, b, rfl⟩
theorem list10 {α : Type} {l : List α} (h : l.length = 10) : ∃ a0 a1 a2 a3 a4 a5 a6 a7 a8 a9, l = [a0, a1, a2, a3, a4, a5, a6, a7, a8, a9] := match l, h with | [a0, a1, a2, a3, a4, a5, a6, a7, a8, a9], _ => ⟨a0, a1, a2, a3, a4, a5, a6, a7, a8, a9, rfl⟩
theorem list13 {α : Type} {l : List α} (h : l.length = 13) : ∃ a0 a1 a2 a3 a4 a5 a6 a7 a8 a9 a10 a11 a12, l = [a0, a1, a2, a3, a4, a5, a6, a7, a8, a9, a10, a11, a12] := match l, h with | [a0, a1, a2, a3, a4, a5, a6, a7, a8, a9, a10, a11, a12], _ => ⟨a0, a1, a2, a3, a4, a5, a6, a7, a8, a9, a10, a11, a12, rfl⟩
theorem some_at {α : Type} {l : List α} {n i : Nat} (h : l.length = n) (hi : i < n) : ∃ x, l[i]? = some x := ⟨_, List.getElem?_eq_getElem (by omega)⟩
theorem add_at (a : Addr) (i : Nat) (h : a.spot = none) : a.add i = ⟨a.block, a.off + i, none⟩ := by
  obtain ⟨b, o, s⟩ := a
  simp only at h
  subst h
  unfold Addr.add
  split <;> simp_all

/-- A slice of spans, as it lies in memory. -/
structure Sl where
  A : Option Addr
  c : Nat
  l : List Sp
/-- A job. -/
structure Jb where
  g : Sl
  f : Sl
  n : Int
  c : Cf
theorem cellsArr : Try.prog.cellsOf 46 = 2 := by kernel_rfl
section
variable {H : Type} {enc : TypeId × Value → H} {w : World} {base : Nat} {spare : Nat → Bool} {held : Bool}

theorem rows_of {T : Type} (cells : T → List Value) (good : T → Prop) (d : T) {S E : TypeId} {size : Nat} (hsz : 0 < size) (hu : Try.prog.underlying S = some (.slice E)) (hc : Try.prog.cellsOf E = size) (hlen : ∀ t, (cells t).length = size)
    (read : ∀ {n : Nat} {cs : List Value} {x : DataW H × List MemPlace}, DataW.trod enc Try.prog w base spare held n E cs = some x → ∃ t, cs = cells t ∧ good t)
    {fuel : Nat} {a : Option Addr} {len cap : Nat} {x : DataW H × List MemPlace} (hf : DataW.trod enc Try.prog w base spare held fuel S [.slice a len cap] = some x) :
    ∃ l : List T, l.length = len ∧ (len ≤ cap ∧ cap ≤ 9223372036854775807) ∧ ∀ k (hk : k < l.length), good l[k] ∧ ∃ b o, a = some ⟨b, o, none⟩ ∧ ∀ j, j < size → w.cell? ⟨b, o + k * size + j, none⟩ = (cells l[k])[j]? := by
  rcases open_slice hu hf with ⟨hcs, _⟩ | ⟨x, len', cap', m, n, D, Pl, hcs, _, hl, hcm, hm, _, hi⟩
  · simp at hcs
    obtain ⟨rfl, rfl, rfl⟩ := hcs
    exact ⟨[], rfl, ⟨Nat.le_refl _, by omega⟩, fun k hk => absurd hk (by simp)⟩
  · simp at hcs
    obtain ⟨rfl, rfl, rfl⟩ := hcs
    have hlm : len ≤ m := by rw [hm]; split <;> omega
    rw [hc] at hi
    have hex : ∀ i, i < len → ∃ t : T, good t ∧ x.spot = none ∧ ∀ j, j < size → w.cell? ⟨x.block, x.off + i * size + j, none⟩ = (cells t)[j]? := fun i hil => by
      have hsp : x.spot = none := by
        obtain ⟨cs0, g1, g2⟩ := hi 0 (by omega)
        obtain ⟨t0, rfl, _⟩ := read g2
        obtain ⟨_, _, gat⟩ := World.cells?_some g1
        have g0 := gat 0 hsz
        obtain ⟨u, hu0⟩ := some_at (hlen t0) hsz
        rw [hu0] at g0
        have := World.cell?_spot (v := u) (by simpa [Addr.add] using g0)
        simpa [Addr.add] using this
      obtain ⟨cs', h1, h2⟩ := hi i (by omega)
      obtain ⟨t, rfl, hg⟩ := read h2
      obtain ⟨_, _, hat⟩ := World.cells?_some h1
      refine ⟨t, hg, hsp, fun j hj => ?_⟩
      have := hat j hj
      rw [add_at x _ hsp, add_at _ _ rfl] at this
      exact this
    refine ⟨(List.range len).map fun i => if h : i < len then Classical.choose (hex i h) else d, by simp, ⟨hl, by unfold maxLen at hcm; omega⟩, fun k hk => ?_⟩
    simp only [List.length_map, List.length_range] at hk
    have hsp := Classical.choose_spec (hex k hk)
    have e : ((List.range len).map fun i => if h : i < len then Classical.choose (hex i h) else d)[k]'(by simpa using hk) = Classical.choose (hex k hk) := by
      simp only [List.getElem_map, List.getElem_range, hk, dif_pos]
    rw [e]
    refine ⟨hsp.1, x.block, x.off, ?_, hsp.2.2⟩
    obtain ⟨b, o, s⟩ := x
    simp only at hsp
    rw [hsp.2.1]

theorem read_span {n : Nat} {cs : List Value} {x : DataW H × List MemPlace} (h : DataW.trod enc Try.prog w base spare held n 48 cs = some x) : ∃ s : Sp, cs = s.cells ∧ True := by
  obtain ⟨xs, m, _, _, hl, hlen, hf⟩ := DataW.trod_struct Try.underlying48 h
  rw [cellsSpan] at hl
  have h0 : DataW.trod enc Try.prog w base spare held m 2 ((cs.drop 0).take (Try.prog.cellsOf 2)) = xs[0]? := hf 0 _ rfl
  have h1 : DataW.trod enc Try.prog w base spare held m 2 ((cs.drop 1).take (Try.prog.cellsOf 2)) = xs[1]? := hf 1 _ rfl
  rw [cellsI64] at h0 h1
  obtain ⟨c0, c1, rfl⟩ := list2 hl
  obtain ⟨y0, e0⟩ := some_at (i := 0) hlen (by decide)
  obtain ⟨y1, e1⟩ := some_at (i := 1) hlen (by decide)
  rw [e0] at h0
  rw [e1] at h1
  obtain ⟨f, h2, _, _⟩ := DataW.trod_int Try.underlying2 h0
  obtain ⟨t, h3, _, _⟩ := DataW.trod_int Try.underlying2 h1
  simp only [List.drop_zero, List.drop_succ_cons, List.take_succ_cons, List.take_zero, List.cons.injEq, and_true] at h2 h3
  exact ⟨⟨f, t⟩, by rw [h2, h3]; rfl, trivial⟩
theorem spans_of {fuel : Nat} {a : Option Addr} {len cap : Nat} {x : DataW H × List MemPlace} (hf : DataW.trod enc Try.prog w base spare held fuel 22 [.slice a len cap] = some x) :
    ∃ l : List Sp, l.length = len ∧ (SAt w a l ∧ l.length ≤ cap ∧ l.length ≤ 9223372036854775807) := by
  obtain ⟨l, h1, h2, h3⟩ := rows_of (w := w) Sp.cells (fun _ => True) ⟨0, 0⟩ (by decide) Try.underlying22 cellsSpan (fun _ => rfl) (fun h => read_span h) hf
  refine ⟨l, h1, fun k hk => ?_, by omega, by omega⟩
  obtain ⟨_, b, o, e, hat⟩ := h3 k hk
  exact ⟨b, o, e, (hat 0 (by decide)).trans rfl, (hat 1 (by decide)).trans rfl⟩
theorem open_spans {a : Option Addr} {len cap : Nat} {d : DataW H} {p : List MemPlace} (h : DataW.Trod enc Try.prog w base spare held 22 (.slice a len cap) d p) :
    ∃ l : List Sp, l.length = len ∧ (SAt w a l ∧ l.length ≤ cap ∧ l.length ≤ 9223372036854775807) := by
  obtain ⟨fuel, hf⟩ := h
  exact spans_of hf
theorem slice_shape {n : Nat} {S E : TypeId} {cs : List Value} {x : DataW H × List MemPlace} (hu : Try.prog.underlying S = some (.slice E)) (h : DataW.trod enc Try.prog w base spare held n S cs = some x) : ∃ a len cap, cs = [.slice a len cap] := by
  rcases open_slice hu h with ⟨rfl, _⟩ | ⟨x, len', cap', m, n, D, Pl, rfl, _⟩
  · exact ⟨_, _, _, rfl⟩
  · exact ⟨_, _, _, rfl⟩
def Sl.cells (s : Sl) : List Value := [.slice s.A s.l.length s.c]
theorem read_sl {n : Nat} {cs : List Value} {x : DataW H × List MemPlace} (h : DataW.trod enc Try.prog w base spare held n 22 cs = some x) : ∃ s : Sl, cs = s.cells ∧ (SAt w s.A s.l ∧ s.l.length ≤ 9223372036854775807) := by
  obtain ⟨a, len, cap, rfl⟩ := slice_shape Try.underlying22 h
  obtain ⟨l, rfl, hl, _, hm⟩ := spans_of h
  exact ⟨⟨a, cap, l⟩, rfl, hl, hm⟩
set_option maxRecDepth 100000 in
theorem read_cfg {n : Nat} {cs : List Value} {x : DataW H × List MemPlace} (h : DataW.trod enc Try.prog w base spare held n 24 cs = some x) : ∃ c : Cf, cs = c.cells := by
  obtain ⟨xs, m, _, _, hl, hlen, hf⟩ := DataW.trod_struct Try.underlying24 h
  rw [cellsCfg] at hl
  have h0 : DataW.trod enc Try.prog w base spare held m 2 ((cs.drop 0).take (Try.prog.cellsOf 2)) = xs[0]? := hf 0 _ rfl
  have h1 : DataW.trod enc Try.prog w base spare held m 2 ((cs.drop 1).take (Try.prog.cellsOf 2)) = xs[1]? := hf 1 _ rfl
  have h2 : DataW.trod enc Try.prog w base spare held m 2 ((cs.drop 2).take (Try.prog.cellsOf 2)) = xs[2]? := hf 2 _ rfl
  have h3 : DataW.trod enc Try.prog w base spare held m 3 ((cs.drop 3).take (Try.prog.cellsOf 3)) = xs[3]? := hf 3 _ rfl
  have h4 : DataW.trod enc Try.prog w base spare held m 3 ((cs.drop 4).take (Try.prog.cellsOf 3)) = xs[4]? := hf 4 _ rfl
  have h5 : DataW.trod enc Try.prog w base spare held m 3 ((cs.drop 5).take (Try.prog.cellsOf 3)) = xs[5]? := hf 5 _ rfl
  have h6 : DataW.trod enc Try.prog w base spare held m 2 ((cs.drop 6).take (Try.prog.cellsOf 2)) = xs[6]? := hf 6 _ rfl
  have h7 : DataW.trod enc Try.prog w base spare held m 2 ((cs.drop 7).take (Try.prog.cellsOf 2)) = xs[7]? := hf 7 _ rfl
  have h8 : DataW.trod enc Try.prog w base spare held m 2 ((cs.drop 8).take (Try.prog.cellsOf 2)) = xs[8]? := hf 8 _ rfl
  have h9 : DataW.trod enc Try.prog w base spare held m 2 ((cs.drop 9).take (Try.prog.cellsOf 2)) = xs[9]? := hf 9 _ rfl
  rw [cellsI64] at h0 h1 h2 h6 h7 h8 h9
  rw [cellsInt] at h3 h4 h5
  obtain ⟨c0, c1, c2, c3, c4, c5, c6, c7, c8, c9, rfl⟩ := list10 hl
  obtain ⟨y0, e0⟩ := some_at (i := 0) hlen (by decide)
  rw [e0] at h0
  obtain ⟨v0, k0, _, _⟩ := DataW.trod_int Try.underlying2 h0
  obtain ⟨y1, e1⟩ := some_at (i := 1) hlen (by decide)
  rw [e1] at h1
  obtain ⟨v1, k1, _, _⟩ := DataW.trod_int Try.underlying2 h1
  obtain ⟨y2, e2⟩ := some_at (i := 2) hlen (by decide)
  rw [e2] at h2
  obtain ⟨v2, k2, _, _⟩ := DataW.trod_int Try.underlying2 h2
  obtain ⟨y3, e3⟩ := some_at (i := 3) hlen (by decide)
  rw [e3] at h3
  obtain ⟨v3, k3, _, _⟩ := DataW.trod_int Try.underlying3 h3
  obtain ⟨y4, e4⟩ := some_at (i := 4) hlen (by decide)
  rw [e4] at h4
  obtain ⟨v4, k4, _, _⟩ := DataW.trod_int Try.underlying3 h4
  obtain ⟨y5, e5⟩ := some_at (i := 5) hlen (by decide)
  rw [e5] at h5
  obtain ⟨v5, k5, _, _⟩ := DataW.trod_int Try.underlying3 h5
  obtain ⟨y6, e6⟩ := some_at (i := 6) hlen (by decide)
  rw [e6] at h6
  obtain ⟨v6, k6, _, _⟩ := DataW.trod_int Try.underlying2 h6
  obtain ⟨y7, e7⟩ := some_at (i := 7) hlen (by decide)
  rw [e7] at h7
  obtain ⟨v7, k7, _, _⟩ := DataW.trod_int Try.underlying2 h7
  obtain ⟨y8, e8⟩ := some_at (i := 8) hlen (by decide)
  rw [e8] at h8
  obtain ⟨v8, k8, _, _⟩ := DataW.trod_int Try.underlying2 h8
  obtain ⟨y9, e9⟩ := some_at (i := 9) hlen (by decide)
  rw [e9] at h9
  obtain ⟨v9, k9, _, _⟩ := DataW.trod_int Try.underlying2 h9
  simp only [List.drop_zero, List.drop_succ_cons, List.take_succ_cons, List.take_zero, List.cons.injEq, and_true] at k0 k1 k2 k3 k4 k5 k6 k7 k8 k9
  exact ⟨⟨v0, v1, v2, v3, v4, v5, v6, v7, v8, v9⟩, by rw [k0, k1, k2, k3, k4, k5, k6, k7, k8, k9]; rfl⟩
def Jb.cells (j : Jb) : List Value := .slice j.g.A j.g.l.length j.g.c :: .slice j.f.A j.f.l.length j.f.c :: .int .i64 j.n :: j.c.cells
set_option maxRecDepth 100000 in
theorem read_job {n : Nat} {cs : List Value} {x : DataW H × List MemPlace} (h : DataW.trod enc Try.prog w base spare held n 26 cs = some x) : ∃ j : Jb, cs = j.cells ∧ SAt w j.g.A j.g.l ∧ SAt w j.f.A j.f.l ∧ j.g.l.length ≤ 9223372036854775807 ∧ j.f.l.length ≤ 9223372036854775807 := by
  obtain ⟨xs, m, _, _, hl, hlen, hf⟩ := DataW.trod_struct Try.underlying26 h
  rw [cellsJob] at hl
  have h0 : DataW.trod enc Try.prog w base spare held m 22 ((cs.drop 0).take (Try.prog.cellsOf 22)) = xs[0]? := hf 0 _ rfl
  have h1 : DataW.trod enc Try.prog w base spare held m 22 ((cs.drop 1).take (Try.prog.cellsOf 22)) = xs[1]? := hf 1 _ rfl
  have h2 : DataW.trod enc Try.prog w base spare held m 2 ((cs.drop 2).take (Try.prog.cellsOf 2)) = xs[2]? := hf 2 _ rfl
  have h3 : DataW.trod enc Try.prog w base spare held m 24 ((cs.drop 3).take (Try.prog.cellsOf 24)) = xs[3]? := hf 3 _ rfl
  rw [cellsSpans] at h0 h1
  rw [cellsI64] at h2
  rw [cellsCfg] at h3
  obtain ⟨c0, c1, c2, c3, c4, c5, c6, c7, c8, c9, c10, c11, c12, rfl⟩ := list13 hl
  obtain ⟨y0, e0⟩ := some_at (i := 0) hlen (by decide)
  obtain ⟨y1, e1⟩ := some_at (i := 1) hlen (by decide)
  obtain ⟨y2, e2⟩ := some_at (i := 2) hlen (by decide)
  obtain ⟨y3, e3⟩ := some_at (i := 3) hlen (by decide)
  rw [e0] at h0
  rw [e1] at h1
  rw [e2] at h2
  rw [e3] at h3
  obtain ⟨g, k0, s0, t0⟩ := read_sl h0
  obtain ⟨f, k1, s1, t1⟩ := read_sl h1
  obtain ⟨v2, k2, _, _⟩ := DataW.trod_int Try.underlying2 h2
  obtain ⟨c, k3⟩ := read_cfg h3
  refine ⟨⟨g, f, v2, c⟩, ?_, s0, s1, t0, t1⟩
  simp only [List.drop_zero, List.drop_succ_cons, List.take_succ_cons, List.take_zero, List.cons.injEq, and_true, Sl.cells] at k0 k1 k2 k3
  show _ = .slice g.A g.l.length g.c :: .slice f.A f.l.length f.c :: .int .i64 v2 :: c.cells
  rw [k0, k1, k2, k3]
set_option maxRecDepth 100000 in
theorem open_job {r : Reach} {b0 : Nat} {v : Value} {d : DataW H} {p : List MemPlace} (hv : Value.okWide Try.prog w r b0 26 v) (h : DataW.Trod enc Try.prog w base spare held 26 v d p) : ∃ j : Jb, v = .agg j.cells.toArray ∧ SAt w j.g.A j.g.l ∧ SAt w j.f.A j.f.l ∧ j.g.l.length ≤ 9223372036854775807 ∧ j.f.l.length ≤ 9223372036854775807 := by
  obtain ⟨cs, rfl, hsz⟩ := okWide_struct Try.underlying26 hv
  obtain ⟨fuel, hf⟩ := h
  obtain ⟨j, hj, s0, s1, t0, t1⟩ := read_job hf
  refine ⟨j, ?_, s0, s1, t0, t1⟩
  have : cs.toList = j.cells := by simpa [Value.cells] using hj
  congr 1
  exact Array.toList_inj.1 (by rw [this])
set_option maxRecDepth 100000 in
theorem open_cfg {r : Reach} {b0 : Nat} {v : Value} {d : DataW H} {p : List MemPlace} (hv : Value.okWide Try.prog w r b0 24 v) (h : DataW.Trod enc Try.prog w base spare held 24 v d p) : ∃ c : Cf, v = .agg c.cells.toArray := by
  obtain ⟨cs, rfl, hsz⟩ := okWide_struct Try.underlying24 hv
  obtain ⟨fuel, hf⟩ := h
  obtain ⟨c, hc⟩ := read_cfg hf
  refine ⟨c, ?_⟩
  have : cs.toList = c.cells := by simpa [Value.cells] using hc
  congr 1
  exact Array.toList_inj.1 (by rw [this])
set_option maxRecDepth 100000 in
theorem open_span {r : Reach} {b0 : Nat} {v : Value} {d : DataW H} {p : List MemPlace} (hv : Value.okWide Try.prog w r b0 48 v) (h : DataW.Trod enc Try.prog w base spare held 48 v d p) :
    ∃ f t, v = .agg #[.int .i64 f, .int .i64 t] ∧ (Lit.int .i64 f).wf = true ∧ (Lit.int .i64 t).wf = true := by
  obtain ⟨c0, c1, y0, y1, m, h1, _, _, hy0, hy1⟩ := Joins.open_agg2 Try.underlying48 (by kernel_rfl) cellsSpan hv h
  obtain ⟨f, e0, _, wf⟩ := DataW.trod_int Try.underlying2 hy0
  obtain ⟨t, e1, _, wt⟩ := DataW.trod_int Try.underlying2 hy1
  simp only [List.cons.injEq, and_true] at e0 e1
  exact ⟨f, t, by rw [h1, e0, e1], wf, wt⟩
theorem trod_array2 {t e : TypeId} {fuel : Nat} {c0 c1 : Value} {x : DataW H × List MemPlace} (ht : Try.prog.underlying t = some (.array 2 e)) (hce : Try.prog.cellsOf e = 1)
    (h : DataW.trod enc Try.prog w base spare held fuel t [c0, c1] = some x) :
    ∃ y0 y1 n, DataW.trod enc Try.prog w base spare held n e [c0] = some y0 ∧ DataW.trod enc Try.prog w base spare held n e [c1] = some y1 := by
  cases fuel with
  | zero => simp [DataW.trod] at h
  | succ n =>
    unfold DataW.trod at h
    rw [ht] at h
    have r2 : List.range 2 = [0, 1] := rfl
    simp [r2, hce] at h
    obtain ⟨_, h⟩ := h
    cases h0 : DataW.trod enc Try.prog w base spare held n e [c0] with
    | none => simp [h0] at h
    | some y0 =>
      cases h1 : DataW.trod enc Try.prog w base spare held n e [c1] with
      | none => simp [h0, h1] at h
      | some y1 => exact ⟨y0, y1, n, h0, h1⟩
set_option maxRecDepth 100000 in
theorem open_arr2 {r : Reach} {b0 : Nat} {v : Value} {d : DataW H} {p : List MemPlace} (hv : Value.okWide Try.prog w r b0 46 v) (h : DataW.Trod enc Try.prog w base spare held 46 v d p) :
    ∃ a0 a1 : Int, v = .agg #[.int .i64 a0, .int .i64 a1] := by
  simp only [Value.okWide, Try.underlying46] at hv
  obtain ⟨cs, rfl, hsz, _⟩ := hv
  rw [cellsArr] at hsz
  obtain ⟨fuel, hf⟩ := h
  obtain ⟨c0, c1, hc⟩ := list2 (l := cs.toList) (by simpa using hsz)
  have hcs : cs = #[c0, c1] := by rw [← Array.toArray_toList (xs := cs), hc]
  subst hcs
  obtain ⟨y0, y1, n, h0, h1⟩ := trod_array2 Try.underlying46 cellsI64 hf
  obtain ⟨a0, e0, _, _⟩ := DataW.trod_int Try.underlying2 h0
  obtain ⟨a1, e1, _, _⟩ := DataW.trod_int Try.underlying2 h1
  simp only [List.cons.injEq, and_true] at e0 e1
  exact ⟨a0, a1, by rw [e0, e1]⟩
end
end Go.Proofs.Ytdcdnnbijjcfmaa
