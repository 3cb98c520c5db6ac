/- How the laws' arguments read: spans, slices of bytes. -/
import Derived.Test.YtoahjhkfnchdhaaPutp
import Derived.ProofKit
import Derived.Deep.Slices
import Derived.ChangeArms
import Derived.Lib.SmallJoins
namespace Go.Proofs.Ytoahjhkfnchdhaa
open Go.ChangeShapes Go.WideShapes Go.ChangeAt Go.RowKit Go.Deep

theorem cellsSpan : Try.prog.cellsOf 24 = 2 := by kernel_rfl
theorem cellsByte : Try.prog.cellsOf 5 = 1 := by kernel_rfl
theorem some_at {α : Type} {l : List α} {n i : Nat} (h : l.length = n) (hi : i < n) : ∃ x, l[i]? = some x := ⟨_, List.getElem?_eq_getElem (by omega)⟩
theorem add_at (a : Addr) (i : Nat) (h : a.spot = none) : a.add i = ⟨a.block, a.off + i, none⟩ := by
  obtain ⟨b, o, s⟩ := a
  simp only at h
  subst h
  unfold Addr.add
  split <;> simp_all

section
variable {H : Type} {enc : TypeId × Value → H} {w : World} {base : Nat} {spare : Nat → Bool} {held : Bool}

set_option maxRecDepth 100000 in
/-- An argument of type api.Span, by value. -/
theorem open_span {r : Reach} {b0 : Nat} {v : Value} {d : DataW H} {p : List MemPlace} (hv : Value.okWide Try.prog w r b0 24 v) (h : DataW.Trod enc Try.prog w base spare held 24 v d p) :
    ∃ f t, v = .agg #[.int .i64 f, .int .i64 t] ∧ (Lit.int .i64 f).wf = true ∧ (Lit.int .i64 t).wf = true := by
  obtain ⟨c0, c1, y0, y1, m, h1, _, _, hy0, hy1⟩ := Joins.open_agg2 Try.underlying24 (by kernel_rfl) cellsSpan hv h
  obtain ⟨f, e0, _, wf⟩ := DataW.trod_int Try.underlying2 hy0
  obtain ⟨t, e1, _, wt⟩ := DataW.trod_int Try.underlying2 hy1
  simp only [List.cons.injEq, and_true] at e0 e1
  exact ⟨f, t, by rw [h1, e0, e1], wf, wt⟩

theorem byte_of_wf {n : Int} (h : (Lit.int .u8 n).wf = true) : ∃ b : UInt8, n = (b.toNat : Int) := by
  have e1 : IntKind.u8.min = 0 := by decide
  have e2 : IntKind.u8.max = 255 := by decide
  simp [Lit.wf] at h
  rw [e1, e2] at h
  refine ⟨UInt8.ofNat n.toNat, ?_⟩
  rw [UInt8.toNat_ofNat']
  have : n.toNat % 2 ^ 8 = n.toNat := Nat.mod_eq_of_lt (by omega)
  omega
theorem bytes_of_slice {fuel : Nat} {a : Option Addr} {len cap : Nat} {x : DataW H × List MemPlace} (hf : DataW.trod enc Try.prog w base spare held fuel 43 [.slice a len cap] = some x) :
    ∃ l : List UInt8, l.length = len ∧ (BytesAt w a l ∧ l.length ≤ cap) := by
  rcases open_slice Try.underlying43 hf with ⟨hcs, _⟩ | ⟨x, len', cap', m, n, D, Pl, hcs, _, hl, _, hm, _, hi⟩
  · simp at hcs
    obtain ⟨rfl, rfl, rfl⟩ := hcs
    exact ⟨[], rfl, fun k hk => by simp at hk, by simp⟩
  · simp at hcs
    obtain ⟨rfl, rfl, rfl⟩ := hcs
    have hlm : len ≤ m := by rw [hm]; split <;> omega
    rw [cellsByte] at hi
    have hex : ∀ i, i < len → ∃ r : UInt8, x.spot = none ∧ w.cell? ⟨x.block, x.off + i, none⟩ = some (.int .u8 (r.toNat : Int)) := fun i hil => by
      obtain ⟨cs', h1, h2⟩ := hi i (by omega)
      obtain ⟨r, rfl, _, hr⟩ := DataW.trod_int Try.underlying5 h2
      obtain ⟨b, rfl⟩ := byte_of_wf hr
      obtain ⟨_, _, hat⟩ := World.cells?_some h1
      have q0 := hat 0 (by omega)
      obtain ⟨cs0, g1, g2⟩ := hi 0 (by omega)
      obtain ⟨r0, rfl, _, _⟩ := DataW.trod_int Try.underlying5 g2
      obtain ⟨_, _, gat⟩ := World.cells?_some g1
      have g0 := gat 0 (by omega)
      have hsp : x.spot = none := by
        have := World.cell?_spot (v := .int .u8 r0) (by simpa [Addr.add] using g0)
        simpa [Addr.add] using this
      rw [Nat.mul_one, add_at x _ hsp, add_at _ _ rfl] at q0
      exact ⟨b, hsp, q0⟩
    refine ⟨(List.range len).map fun i => if h : i < len then Classical.choose (hex i h) else 0, by simp, fun k hk => ?_, by simp; omega⟩
    simp only [List.length_map, List.length_range] at hk
    have hsp := Classical.choose_spec (hex k hk)
    refine ⟨x.block, x.off, ?_, ?_⟩
    · obtain ⟨b, o, s⟩ := x
      simp only at hsp
      rw [hsp.1]
    · simp only [List.getElem_map, List.getElem_range, hk, dif_pos]
      exact hsp.2
/-- An argument of type []byte. -/
theorem open_bytes {a : Option Addr} {len cap : Nat} {d : DataW H} {p : List MemPlace} (h : DataW.Trod enc Try.prog w base spare held 43 (.slice a len cap) d p) :
    ∃ l : List UInt8, l.length = len ∧ (BytesAt w a l ∧ l.length ≤ cap) := by
  obtain ⟨fuel, hf⟩ := h
  exact bytes_of_slice hf
end
end Go.Proofs.Ytoahjhkfnchdhaa
