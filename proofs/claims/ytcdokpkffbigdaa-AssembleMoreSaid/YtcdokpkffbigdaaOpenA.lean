/- How the laws' arguments read: slices of parts, of spans, of acts, of slices of spans, of bytes. -/
import Derived.Test.YtcdokpkffbigdaaAlive
import Derived.ProofKit
import Derived.Deep.Slices
import Derived.ChangeArms
import Derived.Lib.SmallJoins
namespace Go.Proofs.Ytcdokpkffbigdaa
open Go.ChangeShapes Go.WideShapes Go.ChangeAt Go.RowKit Go.Deep

theorem cellsSpan : Try.prog.cellsOf 37 = 2 := by kernel_rfl
theorem cellsPart : Try.prog.cellsOf 40 = 3 := by kernel_rfl
theorem cellsI64 : Try.prog.cellsOf 2 = 1 := by kernel_rfl
theorem cellsByte : Try.prog.cellsOf 5 = 1 := by kernel_rfl
theorem cellsStr : Try.prog.cellsOf 9 = 1 := by kernel_rfl
theorem cellsBool : Try.prog.cellsOf 4 = 1 := by kernel_rfl
theorem cellsSpans : Try.prog.cellsOf 32 = 1 := by kernel_rfl
theorem cellsAct : Try.prog.cellsOf 64 = 3 := by kernel_rfl
theorem list2 {α : Type} {l : List α} (h : l.length = 2) : ∃ a b, l = [a, b] := match l, h with | [a, b], _ => ⟨a, b, rfl⟩
theorem list3 {α : Type} {l : List α} (h : l.length = 3) : ∃ a b c, l = [a, b, c] := match l, h with | [a, b, c], _ => ⟨a, b, c, rfl⟩
theorem some_at {α : Type} {l : List α} {n i : Nat} (h : l.length = n) (hi : i < n) : ∃ x, l[i]? = some x := ⟨_, List.getElem?_eq_getElem (by omega)⟩
theorem add_at (a : Addr) (i : Nat) (h : a.spot = none) : a.add i = ⟨a.block, a.off + i, none⟩ := by
  obtain ⟨b, o, s⟩ := a
  simp only at h
  subst h
  unfold Addr.add
  split <;> simp_all

/-- A slice of spans, as it lies in memory. -/
structure Sl where
  A : Option Addr
  c : Nat
  l : List Sp
/-- An act. -/
structure Ac where
  b : Bool
  A : Option Addr
  c : Nat
  l : List Sp
  n : Int
section
variable {H : Type} {enc : TypeId × Value → H} {w : World} {base : Nat} {spare : Nat → Bool} {held : Bool}

theorem rows_of {T : Type} (cells : T → List Value) (good : T → Prop) (d : T) {S E : TypeId} {size : Nat} (hsz : 0 < size) (hu : Try.prog.underlying S = some (.slice E)) (hc : Try.prog.cellsOf E = size) (hlen : ∀ t, (cells t).length = size)
    (read : ∀ {n : Nat} {cs : List Value} {x : DataW H × List MemPlace}, DataW.trod enc Try.prog w base spare held n E cs = some x → ∃ t, cs = cells t ∧ good t)
    {fuel : Nat} {a : Option Addr} {len cap : Nat} {x : DataW H × List MemPlace} (hf : DataW.trod enc Try.prog w base spare held fuel S [.slice a len cap] = some x) :
    ∃ l : List T, l.length = len ∧ (len ≤ cap ∧ cap ≤ 9223372036854775807) ∧ ∀ k (hk : k < l.length), good l[k] ∧ ∃ b o, a = some ⟨b, o, none⟩ ∧ ∀ j, j < size → w.cell? ⟨b, o + k * size + j, none⟩ = (cells l[k])[j]? := by
  rcases open_slice hu hf with ⟨hcs, _⟩ | ⟨x, len', cap', m, n, D, Pl, hcs, _, hl, hcm, hm, _, hi⟩
  · simp at hcs
    obtain ⟨rfl, rfl, rfl⟩ := hcs
    exact ⟨[], rfl, ⟨Nat.le_refl _, by omega⟩, fun k hk => absurd hk (by simp)⟩
  · simp at hcs
    obtain ⟨rfl, rfl, rfl⟩ := hcs
    have hlm : len ≤ m := by rw [hm]; split <;> omega
    rw [hc] at hi
    have hex : ∀ i, i < len → ∃ t : T, good t ∧ x.spot = none ∧ ∀ j, j < size → w.cell? ⟨x.block, x.off + i * size + j, none⟩ = (cells t)[j]? := fun i hil => by
      have hsp : x.spot = none := by
        obtain ⟨cs0, g1, g2⟩ := hi 0 (by omega)
        obtain ⟨t0, rfl, _⟩ := read g2
        obtain ⟨_, _, gat⟩ := World.cells?_some g1
        have g0 := gat 0 hsz
        obtain ⟨u, hu0⟩ := some_at (hlen t0) hsz
        rw [hu0] at g0
        have := World.cell?_spot (v := u) (by simpa [Addr.add] using g0)
        simpa [Addr.add] using this
      obtain ⟨cs', h1, h2⟩ := hi i (by omega)
      obtain ⟨t, rfl, hg⟩ := read h2
      obtain ⟨_, _, hat⟩ := World.cells?_some h1
      refine ⟨t, hg, hsp, fun j hj => ?_⟩
      have := hat j hj
      rw [add_at x _ hsp, add_at _ _ rfl] at this
      exact this
    refine ⟨(List.range len).map fun i => if h : i < len then Classical.choose (hex i h) else d, by simp, ⟨hl, by unfold maxLen at hcm; omega⟩, fun k hk => ?_⟩
    simp only [List.length_map, List.length_range] at hk
    have hsp := Classical.choose_spec (hex k hk)
    have e : ((List.range len).map fun i => if h : i < len then Classical.choose (hex i h) else d)[k]'(by simpa using hk) = Classical.choose (hex k hk) := by
      simp only [List.getElem_map, List.getElem_range, hk, dif_pos]
    rw [e]
    refine ⟨hsp.1, x.block, x.off, ?_, hsp.2.2⟩
    obtain ⟨b, o, s⟩ := x
    simp only at hsp
    rw [hsp.2.1]

theorem read_span {n : Nat} {cs : List Value} {x : DataW H × List MemPlace} (h : DataW.trod enc Try.prog w base spare held n 37 cs = some x) : ∃ s : Sp, cs = s.cells ∧ True := by
  obtain ⟨xs, m, _, _, hl, hlen, hf⟩ := DataW.trod_struct Try.underlying37 h
  rw [cellsSpan] at hl
  have h0 : DataW.trod enc Try.prog w base spare held m 2 ((cs.drop 0).take (Try.prog.cellsOf 2)) = xs[0]? := hf 0 _ rfl
  have h1 : DataW.trod enc Try.prog w base spare held m 2 ((cs.drop 1).take (Try.prog.cellsOf 2)) = xs[1]? := hf 1 _ rfl
  rw [cellsI64] at h0 h1
  obtain ⟨c0, c1, rfl⟩ := list2 hl
  obtain ⟨y0, e0⟩ := some_at (i := 0) hlen (by decide)
  obtain ⟨y1, e1⟩ := some_at (i := 1) hlen (by decide)
  rw [e0] at h0
  rw [e1] at h1
  obtain ⟨f, h2, _, _⟩ := DataW.trod_int Try.underlying2 h0
  obtain ⟨t, h3, _, _⟩ := DataW.trod_int Try.underlying2 h1
  simp only [List.drop_zero, List.drop_succ_cons, List.take_succ_cons, List.take_zero, List.cons.injEq, and_true] at h2 h3
  exact ⟨⟨f, t⟩, by rw [h2, h3]; rfl, trivial⟩
theorem read_part {n : Nat} {cs : List Value} {x : DataW H × List MemPlace} (h : DataW.trod enc Try.prog w base spare held n 40 cs = some x) : ∃ p : Pt, cs = p.cells ∧ p.s.length ≤ 9223372036854775807 := by
  obtain ⟨xs, m, _, _, hl, hlen, hf⟩ := DataW.trod_struct Try.underlying40 h
  rw [cellsPart] at hl
  have h0 : DataW.trod enc Try.prog w base spare held m 9 ((cs.drop 0).take (Try.prog.cellsOf 9)) = xs[0]? := hf 0 _ rfl
  have h1 : DataW.trod enc Try.prog w base spare held m 37 ((cs.drop 1).take (Try.prog.cellsOf 37)) = xs[1]? := hf 1 _ rfl
  rw [cellsStr] at h0
  rw [cellsSpan] at h1
  obtain ⟨c0, c1, c2, rfl⟩ := list3 hl
  obtain ⟨y0, e0⟩ := some_at (i := 0) hlen (by decide)
  obtain ⟨y1, e1⟩ := some_at (i := 1) hlen (by decide)
  rw [e0] at h0
  rw [e1] at h1
  obtain ⟨s, h2, _, hs⟩ := DataW.trod_string Try.underlying9 h0
  obtain ⟨sp, h3, _⟩ := read_span h1
  simp only [Sp.cells, List.drop_zero, List.drop_succ_cons, List.take_succ_cons, List.take_zero, List.cons.injEq, and_true] at h2 h3
  unfold maxLen at hs
  refine ⟨⟨s.data.toList, sp.f, sp.t⟩, by rw [h2, h3.1, h3.2]; rfl, ?_⟩
  have : s.data.toList.length = s.size := by simp
  simp only [this]
  omega
theorem spans_of {fuel : Nat} {a : Option Addr} {len cap : Nat} {x : DataW H × List MemPlace} (hf : DataW.trod enc Try.prog w base spare held fuel 32 [.slice a len cap] = some x) :
    ∃ l : List Sp, l.length = len ∧ (SAt w a l ∧ l.length ≤ cap ∧ l.length ≤ 9223372036854775807) := by
  obtain ⟨l, h1, h2, h3⟩ := rows_of (w := w) Sp.cells (fun _ => True) ⟨0, 0⟩ (by decide) Try.underlying32 cellsSpan (fun _ => rfl) (fun h => read_span h) hf
  refine ⟨l, h1, fun k hk => ?_, by omega, by omega⟩
  obtain ⟨_, b, o, e, hat⟩ := h3 k hk
  exact ⟨b, o, e, (hat 0 (by decide)).trans rfl, (hat 1 (by decide)).trans rfl⟩
theorem open_spans {a : Option Addr} {len cap : Nat} {d : DataW H} {p : List MemPlace} (h : DataW.Trod enc Try.prog w base spare held 32 (.slice a len cap) d p) :
    ∃ l : List Sp, l.length = len ∧ (SAt w a l ∧ l.length ≤ cap ∧ l.length ≤ 9223372036854775807) := by
  obtain ⟨fuel, hf⟩ := h
  exact spans_of hf
def PartsIn (w : World) (A : Option Addr) (c : Nat) (l : List Pt) : Prop := PAt w A l ∧ l.length ≤ c ∧ l.length ≤ 9223372036854775807 ∧ ∀ p ∈ l, p.s.length ≤ 9223372036854775807
theorem open_parts {a : Option Addr} {len cap : Nat} {d : DataW H} {p : List MemPlace} (h : DataW.Trod enc Try.prog w base spare held 22 (.slice a len cap) d p) :
    ∃ l : List Pt, l.length = len ∧ PartsIn w a cap l := by
  obtain ⟨fuel, hf⟩ := h
  obtain ⟨l, h1, h2, h3⟩ := rows_of (w := w) Pt.cells (fun p => p.s.length ≤ 9223372036854775807) ⟨[], 0, 0⟩ (by decide) Try.underlying22 cellsPart (fun _ => rfl) (fun h => read_part h) hf
  refine ⟨l, h1, fun k hk => ?_, by omega, by omega, fun p hp => ?_⟩
  · obtain ⟨_, b, o, e, hat⟩ := h3 k hk
    exact ⟨b, o, e, (hat 0 (by decide)).trans rfl, (hat 1 (by decide)).trans rfl, (hat 2 (by decide)).trans rfl⟩
  · obtain ⟨k, hk, rfl⟩ := List.mem_iff_getElem.1 hp
    exact (h3 k hk).1
theorem slice_shape {n : Nat} {S E : TypeId} {cs : List Value} {x : DataW H × List MemPlace} (hu : Try.prog.underlying S = some (.slice E)) (h : DataW.trod enc Try.prog w base spare held n S cs = some x) : ∃ a len cap, cs = [.slice a len cap] := by
  rcases open_slice hu h with ⟨rfl, _⟩ | ⟨x, len', cap', m, n, D, Pl, rfl, _⟩
  · exact ⟨_, _, _, rfl⟩
  · exact ⟨_, _, _, rfl⟩
def Sl.cells (s : Sl) : List Value := [.slice s.A s.l.length s.c]
theorem read_sl {n : Nat} {cs : List Value} {x : DataW H × List MemPlace} (h : DataW.trod enc Try.prog w base spare held n 32 cs = some x) : ∃ s : Sl, cs = s.cells ∧ (SAt w s.A s.l ∧ s.l.length ≤ 9223372036854775807) := by
  obtain ⟨a, len, cap, rfl⟩ := slice_shape Try.underlying32 h
  obtain ⟨l, rfl, hl, _, hm⟩ := spans_of h
  exact ⟨⟨a, cap, l⟩, rfl, hl, hm⟩
def ComesAt (w : World) (A : Option Addr) (l : List Sl) : Prop := ∀ k (hk : k < l.length), ∃ b o, A = some ⟨b, o, none⟩ ∧ w.cell? ⟨b, o + k, none⟩ = some (.slice l[k].A l[k].l.length l[k].c) ∧ SAt w l[k].A l[k].l ∧ l[k].l.length ≤ 9223372036854775807
theorem open_comes {a : Option Addr} {len cap : Nat} {d : DataW H} {p : List MemPlace} (h : DataW.Trod enc Try.prog w base spare held 23 (.slice a len cap) d p) :
    ∃ l : List Sl, l.length = len ∧ (ComesAt w a l ∧ l.length ≤ cap ∧ l.length ≤ 9223372036854775807) := by
  obtain ⟨fuel, hf⟩ := h
  obtain ⟨l, h1, h2, h3⟩ := rows_of (w := w) Sl.cells (fun s => SAt w s.A s.l ∧ s.l.length ≤ 9223372036854775807) ⟨none, 0, []⟩ (by decide) Try.underlying23 cellsSpans (fun _ => rfl) (fun h => read_sl h) hf
  refine ⟨l, h1, fun k hk => ?_, by omega, by omega⟩
  obtain ⟨hg, b, o, e, hat⟩ := h3 k hk
  have h0 := hat 0 (by decide)
  rw [Nat.mul_one, Nat.add_zero] at h0
  exact ⟨b, o, e, h0.trans rfl, hg.1, hg.2⟩
theorem byte_of_wf {n : Int} (h : (Lit.int .u8 n).wf = true) : ∃ b : UInt8, n = (b.toNat : Int) := by
  have e1 : IntKind.u8.min = 0 := by decide
  have e2 : IntKind.u8.max = 255 := by decide
  simp [Lit.wf] at h
  rw [e1, e2] at h
  refine ⟨UInt8.ofNat n.toNat, ?_⟩
  rw [UInt8.toNat_ofNat']
  have : n.toNat % 2 ^ 8 = n.toNat := Nat.mod_eq_of_lt (by omega)
  omega
def U8At (w : World) (A : Option Addr) (l : List UInt8) : Prop := ∀ k (hk : k < l.length), ∃ b o, A = some ⟨b, o, none⟩ ∧ w.cell? ⟨b, o + k, none⟩ = some (.int .u8 (l[k].toNat : Int))
theorem read_byte {n : Nat} {cs : List Value} {x : DataW H × List MemPlace} (h : DataW.trod enc Try.prog w base spare held n 5 cs = some x) : ∃ b : UInt8, cs = [.int .u8 (b.toNat : Int)] ∧ True := by
  obtain ⟨r, rfl, _, hr⟩ := DataW.trod_int Try.underlying5 h
  obtain ⟨b, rfl⟩ := byte_of_wf hr
  exact ⟨b, rfl, trivial⟩
theorem open_u8s {a : Option Addr} {len cap : Nat} {d : DataW H} {p : List MemPlace} (h : DataW.Trod enc Try.prog w base spare held 24 (.slice a len cap) d p) :
    ∃ l : List UInt8, l.length = len ∧ (U8At w a l ∧ l.length ≤ cap ∧ l.length ≤ 9223372036854775807) := by
  obtain ⟨fuel, hf⟩ := h
  obtain ⟨l, h1, h2, h3⟩ := rows_of (w := w) (fun b : UInt8 => [Value.int .u8 (b.toNat : Int)]) (fun _ => True) 0 (by decide) Try.underlying24 cellsByte (fun _ => rfl) (fun h => read_byte h) hf
  refine ⟨l, h1, fun k hk => ?_, by omega, by omega⟩
  obtain ⟨_, b, o, e, hat⟩ := h3 k hk
  have h0 := hat 0 (by decide)
  rw [Nat.mul_one, Nat.add_zero] at h0
  exact ⟨b, o, e, h0.trans rfl⟩
def ActsAt (w : World) (A : Option Addr) (l : List Ac) : Prop := ∀ k (hk : k < l.length), ∃ b o, A = some ⟨b, o, none⟩ ∧ w.cell? ⟨b, o + k * 3, none⟩ = some (.bool l[k].b) ∧ w.cell? ⟨b, o + k * 3 + 1, none⟩ = some (.slice l[k].A l[k].l.length l[k].c) ∧ w.cell? ⟨b, o + k * 3 + 2, none⟩ = some (.int .i64 l[k].n) ∧ SAt w l[k].A l[k].l ∧ l[k].l.length ≤ 9223372036854775807
def Ac.cells (a : Ac) : List Value := [.bool a.b, .slice a.A a.l.length a.c, .int .i64 a.n]
theorem read_ac {n : Nat} {cs : List Value} {x : DataW H × List MemPlace} (h : DataW.trod enc Try.prog w base spare held n 64 cs = some x) : ∃ a : Ac, cs = a.cells ∧ (SAt w a.A a.l ∧ a.l.length ≤ 9223372036854775807) := by
  obtain ⟨xs, m, _, _, hl, hlen, hf⟩ := DataW.trod_struct Try.underlying64 h
  rw [cellsAct] at hl
  have h0 : DataW.trod enc Try.prog w base spare held m 4 ((cs.drop 0).take (Try.prog.cellsOf 4)) = xs[0]? := hf 0 _ rfl
  have h1 : DataW.trod enc Try.prog w base spare held m 32 ((cs.drop 1).take (Try.prog.cellsOf 32)) = xs[1]? := hf 1 _ rfl
  have h2 : DataW.trod enc Try.prog w base spare held m 2 ((cs.drop 2).take (Try.prog.cellsOf 2)) = xs[2]? := hf 2 _ rfl
  rw [cellsBool] at h0
  rw [cellsSpans] at h1
  rw [cellsI64] at h2
  obtain ⟨c0, c1, c2, rfl⟩ := list3 hl
  obtain ⟨y0, e0⟩ := some_at (i := 0) hlen (by decide)
  obtain ⟨y1, e1⟩ := some_at (i := 1) hlen (by decide)
  obtain ⟨y2, e2⟩ := some_at (i := 2) hlen (by decide)
  rw [e0] at h0
  rw [e1] at h1
  rw [e2] at h2
  obtain ⟨b, k0, _⟩ := DataW.trod_bool Try.underlying4 h0
  obtain ⟨s, k1, hs⟩ := read_sl h1
  obtain ⟨v, k2, _, _⟩ := DataW.trod_int Try.underlying2 h2
  simp only [Sl.cells, List.drop_zero, List.drop_succ_cons, List.take_succ_cons, List.take_zero, List.cons.injEq, and_true] at k0 k1 k2
  exact ⟨⟨b, s.A, s.c, s.l, v⟩, by rw [k0, k1, k2]; rfl, hs⟩
theorem open_acts {a : Option Addr} {len cap : Nat} {d : DataW H} {p : List MemPlace} (h : DataW.Trod enc Try.prog w base spare held 62 (.slice a len cap) d p) :
    ∃ l : List Ac, l.length = len ∧ (ActsAt w a l ∧ l.length ≤ cap ∧ l.length ≤ 9223372036854775807) := by
  obtain ⟨fuel, hf⟩ := h
  obtain ⟨l, h1, h2, h3⟩ := rows_of (w := w) Ac.cells (fun a => SAt w a.A a.l ∧ a.l.length ≤ 9223372036854775807) ⟨false, none, 0, [], 0⟩ (by decide) Try.underlying62 cellsAct (fun _ => rfl) (fun h => read_ac h) hf
  refine ⟨l, h1, fun k hk => ?_, by omega, by omega⟩
  obtain ⟨hg, b, o, e, hat⟩ := h3 k hk
  exact ⟨b, o, e, (hat 0 (by decide)).trans rfl, (hat 1 (by decide)).trans rfl, (hat 2 (by decide)).trans rfl, hg.1, hg.2⟩
end
end Go.Proofs.Ytcdokpkffbigdaa
