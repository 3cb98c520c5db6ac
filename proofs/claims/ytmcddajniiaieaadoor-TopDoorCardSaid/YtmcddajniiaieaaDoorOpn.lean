/- How the law's argument reads: a slice of offers. -/
import Derived.Test.YtmcddajniiaieaaDoorOff
import Derived.ProofKit
import Derived.Deep.Slices
import Derived.ChangeArms
import Derived.Lib.SmallJoins
namespace Go.Proofs.YtmcddajniiaieaaDoor
open Go.ChangeShapes Go.WideShapes Go.ChangeAt Go.RowKit Go.Deep

theorem cellsI64 : Tryd.prog.cellsOf 2 = 1 := by kernel_rfl
theorem cellsU8 : Tryd.prog.cellsOf 5 = 1 := by kernel_rfl
theorem cellsBool : Tryd.prog.cellsOf 4 = 1 := by kernel_rfl
theorem cellsInts : Tryd.prog.cellsOf 28 = 1 := by kernel_rfl
theorem cellsOffer : Tryd.prog.cellsOf 30 = 5 := by kernel_rfl
theorem list5 {α : Type} {l : List α} (h : l.length = 5) : ∃ a b c d e, l = [a, b, c, d, e] := match l, h with | [a, b, c, d, e], _ => ⟨a, b, c, d, e, rfl⟩
theorem some_at {α : Type} {l : List α} {n i : Nat} (h : l.length = n) (hi : i < n) : ∃ x, l[i]? = some x := ⟨_, List.getElem?_eq_getElem (by omega)⟩
theorem add_at (a : Addr) (i : Nat) (h : a.spot = none) : a.add i = ⟨a.block, a.off + i, none⟩ := by
  obtain ⟨b, o, s⟩ := a
  simp only at h
  subst h
  unfold Addr.add
  split <;> simp_all

section
variable {H : Type} {enc : TypeId × Value → H} {w : World} {base : Nat} {spare : Nat → Bool} {held : Bool}

theorem rows_of {T : Type} (cells : T → List Value) (good : T → Prop) (d : T) {S E : TypeId} {size : Nat} (hsz : 0 < size) (hu : Tryd.prog.underlying S = some (.slice E)) (hc : Tryd.prog.cellsOf E = size) (hlen : ∀ t, (cells t).length = size)
    (read : ∀ {n : Nat} {cs : List Value} {x : DataW H × List MemPlace}, DataW.trod enc Tryd.prog w base spare held n E cs = some x → ∃ t, cs = cells t ∧ good t)
    {fuel : Nat} {a : Option Addr} {len cap : Nat} {x : DataW H × List MemPlace} (hf : DataW.trod enc Tryd.prog w base spare held fuel S [.slice a len cap] = some x) :
    ∃ l : List T, l.length = len ∧ (len ≤ cap ∧ cap ≤ 9223372036854775807) ∧ ∀ k (hk : k < l.length), good l[k] ∧ ∃ b o, a = some ⟨b, o, none⟩ ∧ ∀ j, j < size → w.cell? ⟨b, o + k * size + j, none⟩ = (cells l[k])[j]? := by
  rcases open_slice hu hf with ⟨hcs, _⟩ | ⟨x, len', cap', m, n, D, Pl, hcs, _, hl, hcm, hm, _, hi⟩
  · simp at hcs
    obtain ⟨rfl, rfl, rfl⟩ := hcs
    exact ⟨[], rfl, ⟨Nat.le_refl _, by omega⟩, fun k hk => absurd hk (by simp)⟩
  · simp at hcs
    obtain ⟨rfl, rfl, rfl⟩ := hcs
    have hlm : len ≤ m := by rw [hm]; split <;> omega
    rw [hc] at hi
    have hex : ∀ i, i < len → ∃ t : T, good t ∧ x.spot = none ∧ ∀ j, j < size → w.cell? ⟨x.block, x.off + i * size + j, none⟩ = (cells t)[j]? := fun i hil => by
      have hsp : x.spot = none := by
        obtain ⟨cs0, g1, g2⟩ := hi 0 (by omega)
        obtain ⟨t0, rfl, _⟩ := read g2
        obtain ⟨_, _, gat⟩ := World.cells?_some g1
        have g0 := gat 0 hsz
        obtain ⟨u, hu0⟩ := some_at (hlen t0) hsz
        rw [hu0] at g0
        have := World.cell?_spot (v := u) (by simpa [Addr.add] using g0)
        simpa [Addr.add] using this
      obtain ⟨cs', h1, h2⟩ := hi i (by omega)
      obtain ⟨t, rfl, hg⟩ := read h2
      obtain ⟨_, _, hat⟩ := World.cells?_some h1
      refine ⟨t, hg, hsp, fun j hj => ?_⟩
      have := hat j hj
      rw [add_at x _ hsp, add_at _ _ rfl] at this
      exact this
    refine ⟨(List.range len).map fun i => if h : i < len then Classical.choose (hex i h) else d, by simp, ⟨hl, by unfold maxLen at hcm; omega⟩, fun k hk => ?_⟩
    simp only [List.length_map, List.length_range] at hk
    have hsp := Classical.choose_spec (hex k hk)
    have e : ((List.range len).map fun i => if h : i < len then Classical.choose (hex i h) else d)[k]'(by simpa using hk) = Classical.choose (hex k hk) := by
      simp only [List.getElem_map, List.getElem_range, hk, dif_pos]
    rw [e]
    refine ⟨hsp.1, x.block, x.off, ?_, hsp.2.2⟩
    obtain ⟨b, o, s⟩ := x
    simp only at hsp
    rw [hsp.2.1]

theorem i64_wf {n : Int} (h : (Lit.int .i64 n).wf = true) : I64 n := by
  have e1 : IntKind.i64.min = -9223372036854775808 := by decide
  have e2 : IntKind.i64.max = 9223372036854775807 := by decide
  simp [Lit.wf] at h
  unfold I64
  omega
theorem u8_wf {n : Int} (h : (Lit.int .u8 n).wf = true) : 0 ≤ n ∧ n ≤ 255 := by
  have e1 : IntKind.u8.min = 0 := by decide
  have e2 : IntKind.u8.max = 255 := by decide
  simp [Lit.wf] at h
  omega
theorem read_i64 {n : Nat} {cs : List Value} {x : DataW H × List MemPlace} (h : DataW.trod enc Tryd.prog w base spare held n 2 cs = some x) : ∃ t : Int, cs = [.int .i64 t] ∧ I64 t := by
  obtain ⟨f, h2, _, g2⟩ := DataW.trod_int Tryd.underlying2 h
  exact ⟨f, h2, i64_wf g2⟩
theorem ints_of {fuel : Nat} {a : Option Addr} {len cap : Nat} {x : DataW H × List MemPlace} (hf : DataW.trod enc Tryd.prog w base spare held fuel 28 [.slice a len cap] = some x) :
    ∃ l : List Int, l.length = len ∧ (IAt w a l ∧ (∀ y ∈ l, I64 y) ∧ l.length ≤ maxLen) := by
  obtain ⟨l, h1, h2, h3⟩ := rows_of (w := w) (fun t : Int => [.int .i64 t]) I64 0 (by decide) Tryd.underlying28 cellsI64 (fun _ => rfl) (fun h => read_i64 h) hf
  refine ⟨l, h1, fun k hk => ?_, fun y hy => ?_, by unfold maxLen; omega⟩
  · obtain ⟨_, b, o, e, hat⟩ := h3 k hk
    exact ⟨b, o, e, by have := hat 0 (by decide); simpa using this⟩
  · obtain ⟨k, hk, rfl⟩ := List.mem_iff_getElem.1 hy
    exact (h3 k hk).1
theorem slice_shape {n : Nat} {S E : TypeId} {cs : List Value} {x : DataW H × List MemPlace} (hu : Tryd.prog.underlying S = some (.slice E)) (h : DataW.trod enc Tryd.prog w base spare held n S cs = some x) : ∃ a len cap, cs = [.slice a len cap] := by
  rcases open_slice hu h with ⟨rfl, _⟩ | ⟨x, len', cap', m, n, D, Pl, rfl, _⟩
  · exact ⟨_, _, _, rfl⟩
  · exact ⟨_, _, _, rfl⟩
set_option maxRecDepth 100000 in
theorem read_off {n : Nat} {cs : List Value} {x : DataW H × List MemPlace} (h : DataW.trod enc Tryd.prog w base spare held n 30 cs = some x) : ∃ y : Off, cs = y.cells ∧ y.ok w := by
  obtain ⟨xs, m, _, _, hl, hlen, hf⟩ := DataW.trod_struct Tryd.underlying30 h
  rw [cellsOffer] at hl
  have h0 : DataW.trod enc Tryd.prog w base spare held m 5 ((cs.drop 0).take (Tryd.prog.cellsOf 5)) = xs[0]? := hf 0 _ rfl
  have h1 : DataW.trod enc Tryd.prog w base spare held m 5 ((cs.drop 1).take (Tryd.prog.cellsOf 5)) = xs[1]? := hf 1 _ rfl
  have h2 : DataW.trod enc Tryd.prog w base spare held m 4 ((cs.drop 2).take (Tryd.prog.cellsOf 4)) = xs[2]? := hf 2 _ rfl
  have h3 : DataW.trod enc Tryd.prog w base spare held m 5 ((cs.drop 3).take (Tryd.prog.cellsOf 5)) = xs[3]? := hf 3 _ rfl
  have h4 : DataW.trod enc Tryd.prog w base spare held m 28 ((cs.drop 4).take (Tryd.prog.cellsOf 28)) = xs[4]? := hf 4 _ rfl
  rw [cellsU8] at h0 h1 h3
  rw [cellsBool] at h2
  rw [cellsInts] at h4
  obtain ⟨c0, c1, c2, c3, c4, rfl⟩ := list5 hl
  obtain ⟨y0, e0⟩ := some_at (i := 0) hlen (by decide)
  obtain ⟨y1, e1⟩ := some_at (i := 1) hlen (by decide)
  obtain ⟨y2, e2⟩ := some_at (i := 2) hlen (by decide)
  obtain ⟨y3, e3⟩ := some_at (i := 3) hlen (by decide)
  obtain ⟨y4, e4⟩ := some_at (i := 4) hlen (by decide)
  rw [e0] at h0
  rw [e1] at h1
  rw [e2] at h2
  rw [e3] at h3
  rw [e4] at h4
  obtain ⟨v0, k0, _, g0⟩ := DataW.trod_int Tryd.underlying5 h0
  obtain ⟨v1, k1, _, g1⟩ := DataW.trod_int Tryd.underlying5 h1
  obtain ⟨v2, k2, _⟩ := DataW.trod_bool Tryd.underlying4 h2
  obtain ⟨v3, k3, _, g3⟩ := DataW.trod_int Tryd.underlying5 h3
  obtain ⟨a, len, cap, k4⟩ := slice_shape Tryd.underlying28 h4
  rw [k4] at h4
  obtain ⟨l, rfl, t1, t2, t3⟩ := ints_of h4
  simp only [List.drop_zero, List.drop_succ_cons, List.take_succ_cons, List.take_zero, List.cons.injEq, and_true] at k0 k1 k2 k3 k4
  exact ⟨⟨v0, v1, v2, v3, a, cap, l⟩, by rw [k0, k1, k2, k3, k4]; rfl, u8_wf g0, u8_wf g1, u8_wf g3, t1, t2, t3⟩
set_option maxRecDepth 100000 in
theorem open_offers {a : Option Addr} {len cap : Nat} {d : DataW H} {p : List MemPlace} (h : DataW.Trod enc Tryd.prog w base spare held 22 (.slice a len cap) d p) :
    ∃ l : List Off, l.length = len ∧ OAt w a l := by
  obtain ⟨fuel, hf⟩ := h
  obtain ⟨l, h1, _, h3⟩ := rows_of (w := w) Off.cells (fun y => y.ok w) ⟨0, 0, false, 0, none, 0, []⟩ (by decide) Tryd.underlying22 cellsOffer (fun _ => rfl) (fun h => read_off h) hf
  refine ⟨l, h1, fun k hk => ?_⟩
  obtain ⟨hg, b, o, e, hat⟩ := h3 k hk
  exact ⟨b, o, e, (hat 0 (by decide)).trans rfl, (hat 1 (by decide)).trans rfl, (hat 2 (by decide)).trans rfl, (hat 3 (by decide)).trans rfl, (hat 4 (by decide)).trans rfl, hg⟩
end
end Go.Proofs.YtmcddajniiaieaaDoor
