/- How the laws' arguments read: a slice of calls, a number. -/
import Derived.Test.YtcdjhoejnjbgkaaRound
import Derived.ProofKit
import Derived.Deep.Slices
import Derived.ChangeArms
import Derived.Lib.SmallJoins
namespace Go.Proofs.Ytcdjhoejnjbgkaa
open Go.ChangeShapes Go.WideShapes Go.ChangeAt Go.RowKit Go.Deep

theorem cells30 : Try.prog.cellsOf 30 = 3 := by kernel_rfl
theorem cells23 : Try.prog.cellsOf 23 = 1 := by kernel_rfl
theorem cells3 : Try.prog.cellsOf 3 = 1 := by kernel_rfl

theorem list3 {α : Type} {l : List α} (h : l.length = 3) : ∃ a b c, l = [a, b, c] := match l, h with | [a, b, c], _ => ⟨a, b, c, rfl⟩
theorem some_at {α : Type} {l : List α} {n i : Nat} (h : l.length = n) (hi : i < n) : ∃ x, l[i]? = some x := ⟨_, List.getElem?_eq_getElem (by omega)⟩

theorem nat_of_wf {n : Int} (h : (Lit.int .u64 n).wf = true) : ∃ k : Nat, n = k ∧ k < 2 ^ 64 := by
  have e1 : IntKind.u64.min = 0 := by decide
  have e2 : IntKind.u64.max = 18446744073709551615 := by decide
  simp [Lit.wf] at h
  rw [e1, e2] at h
  exact ⟨n.toNat, by omega, by omega⟩

section
variable {H : Type} {enc : TypeId × Value → H} {w : World} {base : Nat} {spare : Nat → Bool} {held : Bool}

theorem read_act {n : Nat} {cs : List Value} {x : DataW H × List MemPlace} (h : DataW.trod enc Try.prog w base spare held n 30 cs = some x) :
    ∃ a : Ac, cs = [.int .i64 a.kind, .int .u64 (a.k : Int), .int .i64 a.v] ∧ a.k < 2 ^ 64 := by
  obtain ⟨xs, m, _, _, hl, hlen, hf⟩ := DataW.trod_struct Try.underlying30 h
  rw [cells30] at hl
  have h0 : DataW.trod enc Try.prog w base spare held m 3 ((cs.drop 0).take (Try.prog.cellsOf 3)) = xs[0]? := hf 0 _ rfl
  have h1 : DataW.trod enc Try.prog w base spare held m 23 ((cs.drop 1).take (Try.prog.cellsOf 23)) = xs[1]? := hf 1 _ rfl
  have h2 : DataW.trod enc Try.prog w base spare held m 3 ((cs.drop 2).take (Try.prog.cellsOf 3)) = xs[2]? := hf 2 _ rfl
  rw [cells3] at h0 h2
  rw [cells23] at h1
  obtain ⟨c0, c1, c2, rfl⟩ := list3 hl
  obtain ⟨y0, e0⟩ := some_at (i := 0) hlen (by decide)
  obtain ⟨y1, e1⟩ := some_at (i := 1) hlen (by decide)
  obtain ⟨y2, e2⟩ := some_at (i := 2) hlen (by decide)
  rw [e0] at h0
  rw [e1] at h1
  rw [e2] at h2
  obtain ⟨q, k0, _, _⟩ := DataW.trod_int Try.underlying3 h0
  obtain ⟨k, k1, _, wk⟩ := DataW.trod_int Try.underlying23 h1
  obtain ⟨v, k2, _, _⟩ := DataW.trod_int Try.underlying3 h2
  obtain ⟨k, rfl, hk⟩ := nat_of_wf wk
  simp only [List.drop_zero, List.drop_succ_cons, List.take_succ_cons, List.take_zero, List.cons.injEq, and_true] at k0 k1 k2
  exact ⟨⟨q, k, v⟩, by rw [k0, k1, k2], hk⟩

theorem add_at (a : Addr) (i : Nat) (h : a.spot = none) : a.add i = ⟨a.block, a.off + i, none⟩ := by
  obtain ⟨b, o, s⟩ := a
  simp only at h
  subst h
  unfold Addr.add
  split <;> simp_all

/-- An argument of type []Act. -/
theorem open_acts {a : Option Addr} {len cap : Nat} {d : DataW H} {p : List MemPlace} (h : DataW.Trod enc Try.prog w base spare held 22 (.slice a len cap) d p) :
    ∃ l : List Ac, l.length = len ∧ Acts w a l := by
  obtain ⟨fuel, hf⟩ := h
  rcases open_slice Try.underlying22 hf with ⟨hcs, _⟩ | ⟨x, len', cap', m, n, D, Pl, hcs, _, hl, _, hm, _, hi⟩
  · simp [Value.cells] at hcs
    obtain ⟨rfl, rfl, rfl⟩ := hcs
    exact ⟨[], rfl, fun k hk => by simp at hk⟩
  · simp [Value.cells] at hcs
    obtain ⟨rfl, rfl, rfl⟩ := hcs
    have hlm : len ≤ m := by rw [hm]; split <;> omega
    rw [cells30] at hi
    have hex : ∀ i, i < len → ∃ r : Ac, x.spot = none ∧ w.cell? ⟨x.block, x.off + i * 3, none⟩ = some (.int .i64 r.kind) ∧ w.cell? ⟨x.block, x.off + i * 3 + 1, none⟩ = some (.int .u64 (r.k : Int)) ∧
        w.cell? ⟨x.block, x.off + i * 3 + 2, none⟩ = some (.int .i64 r.v) ∧ r.k < 2 ^ 64 := fun i hil => by
      obtain ⟨cs', h1, h2⟩ := hi i (by omega)
      obtain ⟨r, rfl, hr⟩ := read_act h2
      obtain ⟨_, _, hat⟩ := World.cells?_some h1
      have q0 := hat 0 (by omega)
      have hs1 : (x.add (i * 3)).spot = none := World.cell?_spot (v := .int .i64 r.kind) (by simpa [Addr.add] using q0)
      have hsp : x.spot = none := by
        by_cases h0 : i * 3 = 0
        · rw [h0] at hs1; simpa [Addr.add] using hs1
        · by_cases h4 : len = 0
          · omega
          · obtain ⟨cs0, g1, g2⟩ := hi 0 (by omega)
            obtain ⟨r0, rfl, _⟩ := read_act g2
            obtain ⟨_, _, gat⟩ := World.cells?_some g1
            have g0 := gat 0 (by omega)
            have := World.cell?_spot (v := .int .i64 r0.kind) (by simpa [Addr.add] using g0)
            simpa [Addr.add] using this
      have q1 := hat 1 (by omega)
      have q2 := hat 2 (by omega)
      rw [add_at x _ hsp, add_at _ _ rfl] at q0 q1 q2
      exact ⟨r, hsp, q0, q1, q2, hr⟩
    refine ⟨(List.range len).map fun i => if h : i < len then Classical.choose (hex i h) else ⟨0, 0, 0⟩, by simp, fun k hk => ?_⟩
    simp only [List.length_map, List.length_range] at hk
    have hsp := Classical.choose_spec (hex k hk)
    refine ⟨x.block, x.off, ?_, ?_⟩
    · obtain ⟨b, o, s⟩ := x
      simp only at hsp
      rw [hsp.1]
    · simp only [List.getElem_map, List.getElem_range, hk, dif_pos]
      exact hsp.2
end
end Go.Proofs.Ytcdjhoejnjbgkaa
