/- How the laws' arguments read: a slice of acts, a name. -/
import Derived.Test.YtgcplndmhlideaaGreatPlay
import Derived.ProofKit
import Derived.Deep.Slices
import Derived.ChangeArms
import Derived.Lib.SmallJoins
namespace Go.Proofs.YtgcplndmhlideaaGreat
open Go.ChangeShapes Go.WideShapes Go.ChangeAt Go.RowKit Go.Deep

theorem cellsI64 : Tryz.prog.cellsOf 2 = 1 := by kernel_rfl
theorem cellsInt : Tryz.prog.cellsOf 3 = 1 := by kernel_rfl
theorem cellsName : Tryz.prog.cellsOf 58 = 2 := by kernel_rfl
theorem cellsAct : Tryz.prog.cellsOf 60 = 4 := by kernel_rfl
theorem list2 {α : Type} {l : List α} (h : l.length = 2) : ∃ a b, l = [a, b] := match l, h with | [a, b], _ => ⟨a, b, rfl⟩
theorem list4 {α : Type} {l : List α} (h : l.length = 4) : ∃ a b c d, l = [a, b, c, d] := match l, h with | [a, b, c, d], _ => ⟨a, b, c, d, rfl⟩
theorem some_at {α : Type} {l : List α} {n i : Nat} (h : l.length = n) (hi : i < n) : ∃ x, l[i]? = some x := ⟨_, List.getElem?_eq_getElem (by omega)⟩
theorem add_at (a : Addr) (i : Nat) (h : a.spot = none) : a.add i = ⟨a.block, a.off + i, none⟩ := by
  obtain ⟨b, o, s⟩ := a
  simp only at h
  subst h
  unfold Addr.add
  split <;> simp_all

section
variable {H : Type} {enc : TypeId × Value → H} {w : World} {base : Nat} {spare : Nat → Bool} {held : Bool}

theorem rows_of {T : Type} (cells : T → List Value) (good : T → Prop) (d : T) {S E : TypeId} {size : Nat} (hsz : 0 < size) (hu : Tryz.prog.underlying S = some (.slice E)) (hc : Tryz.prog.cellsOf E = size) (hlen : ∀ t, (cells t).length = size)
    (read : ∀ {n : Nat} {cs : List Value} {x : DataW H × List MemPlace}, DataW.trod enc Tryz.prog w base spare held n E cs = some x → ∃ t, cs = cells t ∧ good t)
    {fuel : Nat} {a : Option Addr} {len cap : Nat} {x : DataW H × List MemPlace} (hf : DataW.trod enc Tryz.prog w base spare held fuel S [.slice a len cap] = some x) :
    ∃ l : List T, l.length = len ∧ (len ≤ cap ∧ cap ≤ 9223372036854775807) ∧ ∀ k (hk : k < l.length), good l[k] ∧ ∃ b o, a = some ⟨b, o, none⟩ ∧ ∀ j, j < size → w.cell? ⟨b, o + k * size + j, none⟩ = (cells l[k])[j]? := by
  rcases open_slice hu hf with ⟨hcs, _⟩ | ⟨x, len', cap', m, n, D, Pl, hcs, _, hl, hcm, hm, _, hi⟩
  · simp at hcs
    obtain ⟨rfl, rfl, rfl⟩ := hcs
    exact ⟨[], rfl, ⟨Nat.le_refl _, by omega⟩, fun k hk => absurd hk (by simp)⟩
  · simp at hcs
    obtain ⟨rfl, rfl, rfl⟩ := hcs
    have hlm : len ≤ m := by rw [hm]; split <;> omega
    rw [hc] at hi
    have hex : ∀ i, i < len → ∃ t : T, good t ∧ x.spot = none ∧ ∀ j, j < size → w.cell? ⟨x.block, x.off + i * size + j, none⟩ = (cells t)[j]? := fun i hil => by
      have hsp : x.spot = none := by
        obtain ⟨cs0, g1, g2⟩ := hi 0 (by omega)
        obtain ⟨t0, rfl, _⟩ := read g2
        obtain ⟨_, _, gat⟩ := World.cells?_some g1
        have g0 := gat 0 hsz
        obtain ⟨u, hu0⟩ := some_at (hlen t0) hsz
        rw [hu0] at g0
        have := World.cell?_spot (v := u) (by simpa [Addr.add] using g0)
        simpa [Addr.add] using this
      obtain ⟨cs', h1, h2⟩ := hi i (by omega)
      obtain ⟨t, rfl, hg⟩ := read h2
      obtain ⟨_, _, hat⟩ := World.cells?_some h1
      refine ⟨t, hg, hsp, fun j hj => ?_⟩
      have := hat j hj
      rw [add_at x _ hsp, add_at _ _ rfl] at this
      exact this
    refine ⟨(List.range len).map fun i => if h : i < len then Classical.choose (hex i h) else d, by simp, ⟨hl, by unfold maxLen at hcm; omega⟩, fun k hk => ?_⟩
    simp only [List.length_map, List.length_range] at hk
    have hsp := Classical.choose_spec (hex k hk)
    have e : ((List.range len).map fun i => if h : i < len then Classical.choose (hex i h) else d)[k]'(by simpa using hk) = Classical.choose (hex k hk) := by
      simp only [List.getElem_map, List.getElem_range, hk, dif_pos]
    rw [e]
    refine ⟨hsp.1, x.block, x.off, ?_, hsp.2.2⟩
    obtain ⟨b, o, s⟩ := x
    simp only at hsp
    rw [hsp.2.1]

theorem i64_wf {n : Int} (h : (Lit.int .i64 n).wf = true) : I64 n := by
  have e1 : IntKind.i64.min = -9223372036854775808 := by decide
  have e2 : IntKind.i64.max = 9223372036854775807 := by decide
  simp [Lit.wf] at h
  unfold I64
  omega
theorem read_name {n : Nat} {cs : List Value} {x : DataW H × List MemPlace} (h : DataW.trod enc Tryz.prog w base spare held n 58 cs = some x) : ∃ s : Nm, cs = [.int .i64 s.v, .int .i64 s.n] ∧ I64 s.v ∧ I64 s.n := by
  obtain ⟨xs, m, _, _, hl, hlen, hf⟩ := DataW.trod_struct Tryz.underlying58 h
  rw [cellsName] at hl
  have h0 : DataW.trod enc Tryz.prog w base spare held m 2 ((cs.drop 0).take (Tryz.prog.cellsOf 2)) = xs[0]? := hf 0 _ rfl
  have h1 : DataW.trod enc Tryz.prog w base spare held m 2 ((cs.drop 1).take (Tryz.prog.cellsOf 2)) = xs[1]? := hf 1 _ rfl
  rw [cellsI64] at h0 h1
  obtain ⟨c0, c1, rfl⟩ := list2 hl
  obtain ⟨y0, e0⟩ := some_at (i := 0) hlen (by decide)
  obtain ⟨y1, e1⟩ := some_at (i := 1) hlen (by decide)
  rw [e0] at h0
  rw [e1] at h1
  obtain ⟨f, h2, _, g2⟩ := DataW.trod_int Tryz.underlying2 h0
  obtain ⟨t, h3, _, g3⟩ := DataW.trod_int Tryz.underlying2 h1
  simp only [List.drop_zero, List.drop_succ_cons, List.take_succ_cons, List.take_zero, List.cons.injEq, and_true] at h2 h3
  exact ⟨⟨f, t⟩, by rw [h2, h3], i64_wf g2, i64_wf g3⟩
theorem read_ac {n : Nat} {cs : List Value} {x : DataW H × List MemPlace} (h : DataW.trod enc Tryz.prog w base spare held n 60 cs = some x) : ∃ a : Ac, cs = a.cells ∧ I64 a.n := by
  obtain ⟨xs, m, _, _, hl, hlen, hf⟩ := DataW.trod_struct Tryz.underlying60 h
  rw [cellsAct] at hl
  have h0 : DataW.trod enc Tryz.prog w base spare held m 3 ((cs.drop 0).take (Tryz.prog.cellsOf 3)) = xs[0]? := hf 0 _ rfl
  have h1 : DataW.trod enc Tryz.prog w base spare held m 58 ((cs.drop 1).take (Tryz.prog.cellsOf 58)) = xs[1]? := hf 1 _ rfl
  have h2 : DataW.trod enc Tryz.prog w base spare held m 2 ((cs.drop 3).take (Tryz.prog.cellsOf 2)) = xs[2]? := hf 2 _ rfl
  rw [cellsInt] at h0
  rw [cellsName] at h1
  rw [cellsI64] at h2
  obtain ⟨c0, c1, c2, c3, rfl⟩ := list4 hl
  obtain ⟨y0, e0⟩ := some_at (i := 0) hlen (by decide)
  obtain ⟨y1, e1⟩ := some_at (i := 1) hlen (by decide)
  obtain ⟨y2, e2⟩ := some_at (i := 2) hlen (by decide)
  rw [e0] at h0
  rw [e1] at h1
  rw [e2] at h2
  obtain ⟨k, k0, _, _⟩ := DataW.trod_int Tryz.underlying3 h0
  obtain ⟨s, k1, _, hs⟩ := read_name h1
  obtain ⟨b, k2, _, _⟩ := DataW.trod_int Tryz.underlying2 h2
  simp only [List.drop_zero, List.drop_succ_cons, List.take_succ_cons, List.take_zero, List.cons.injEq, and_true] at k0 k1 k2
  exact ⟨⟨k, s.v, s.n, b⟩, by rw [k0, k1.1, k1.2, k2]; rfl, hs⟩
def ActsIn (w : World) (A : Option Addr) (l : List Ac) : Prop := ActsAt w A l ∧ (∀ a ∈ l, I64 a.n) ∧ l.length ≤ 9223372036854775807
theorem open_acts {a : Option Addr} {len cap : Nat} {d : DataW H} {p : List MemPlace} (h : DataW.Trod enc Tryz.prog w base spare held 22 (.slice a len cap) d p) :
    ∃ l : List Ac, l.length = len ∧ ActsIn w a l := by
  obtain ⟨fuel, hf⟩ := h
  obtain ⟨l, h1, h2, h3⟩ := rows_of (w := w) Ac.cells (fun a => I64 a.n) ⟨0, 0, 0, 0⟩ (by decide) Tryz.underlying22 cellsAct (fun _ => rfl) (fun h => read_ac h) hf
  refine ⟨l, h1, fun k hk => ?_, fun a ha => ?_, by omega⟩
  · obtain ⟨hg, b, o, e, hat⟩ := h3 k hk
    exact ⟨b, o, e, (hat 0 (by decide)).trans rfl, (hat 1 (by decide)).trans rfl, (hat 2 (by decide)).trans rfl, (hat 3 (by decide)).trans rfl⟩
  · obtain ⟨k, hk, rfl⟩ := List.mem_iff_getElem.1 ha
    exact (h3 k hk).1
set_option maxRecDepth 100000 in
theorem open_name {r : Reach} {b0 : Nat} {v : Value} {d : DataW H} {p : List MemPlace} (hv : Value.okWide Tryz.prog w r b0 58 v) (h : DataW.Trod enc Tryz.prog w base spare held 58 v d p) :
    ∃ f t, v = .agg #[.int .i64 f, .int .i64 t] ∧ I64 f ∧ I64 t := by
  obtain ⟨c0, c1, y0, y1, m, h1, _, _, hy0, hy1⟩ := Joins.open_agg2 Tryz.underlying58 (by kernel_rfl) cellsName hv h
  obtain ⟨f, e0, _, wf⟩ := DataW.trod_int Tryz.underlying2 hy0
  obtain ⟨t, e1, _, wt⟩ := DataW.trod_int Tryz.underlying2 hy1
  simp only [List.cons.injEq, and_true] at e0 e1
  exact ⟨f, t, by rw [h1, e0, e1], i64_wf wf, i64_wf wt⟩
end
end Go.Proofs.YtgcplndmhlideaaGreat
