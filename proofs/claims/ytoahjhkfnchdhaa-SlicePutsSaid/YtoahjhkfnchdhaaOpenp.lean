/- How SlicePuts' arguments read; the contracts of great, SameBytes, SameSpans. -/
import Derived.Test.YtoahjhkfnchdhaaOpen
import Derived.Test.YtoahjhkfnchdhaaAwk
import Derived.Laws.IdiomArrays
namespace Go.Proofs.Ytoahjhkfnchdhaa
open Go.ChangeShapes Go.WideShapes Go.ChangeAt Go.RowKit Go.Deep

/-- An act. -/
structure Ap where
  k : Int
  n : Int
  A : Option Addr
  c : Nat
  b : List UInt8
def ActsAt (w : World) (A : Option Addr) (l : List Ap) : Prop :=
  ∀ i (hi : i < l.length), ∃ b o, A = some ⟨b, o, none⟩ ∧ w.cell? ⟨b, o + i * 3, none⟩ = some (.int .i64 l[i].k) ∧ w.cell? ⟨b, o + i * 3 + 1, none⟩ = some (.int .i64 l[i].n) ∧
    w.cell? ⟨b, o + i * 3 + 2, none⟩ = some (.slice l[i].A l[i].b.length l[i].c) ∧ BytesAt w l[i].A l[i].b ∧ (-9223372036854775808 ≤ l[i].n ∧ l[i].n ≤ 9223372036854775807)
theorem ActsAt.ext {w w' : World} {A : Option Addr} {l : List Ap} (h : ActsAt w A l) (hx : Ext w w') : ActsAt w' A l := fun i hi => by
  obtain ⟨b, o, e, p0, p1, p2, p3, p4⟩ := h i hi
  exact ⟨b, o, e, hx.cell p0, hx.cell p1, hx.cell p2, p3.ext hx, p4⟩
theorem i64_wf' {n : Int} (h : (Lit.int .i64 n).wf = true) : -9223372036854775808 ≤ n ∧ n ≤ 9223372036854775807 := by
  have e1 : IntKind.i64.min = -9223372036854775808 := by decide
  simp [Lit.wf, e1] at h
  omega
theorem cellsAct : Try.prog.cellsOf 45 = 3 := by kernel_rfl
theorem cellsInt : Try.prog.cellsOf 3 = 1 := by kernel_rfl
theorem cellsI64 : Try.prog.cellsOf 2 = 1 := by kernel_rfl
theorem cellsBytes : Try.prog.cellsOf 43 = 1 := by kernel_rfl
theorem cellsArr : Try.prog.cellsOf 33 = 3 := by kernel_rfl
theorem list3 {α : Type} {l : List α} (h : l.length = 3) : ∃ a b c, l = [a, b, c] := match l, h with | [a, b, c], _ => ⟨a, b, c, rfl⟩

section
variable {H : Type} {enc : TypeId × Value → H} {w : World} {base : Nat} {spare : Nat → Bool} {held : Bool}
set_option maxRecDepth 100000 in
theorem open_arr3 {r : Reach} {b0 : Nat} {v : Value} {d : DataW H} {p : List MemPlace} (hv : Value.okWide Try.prog w r b0 33 v) (h : DataW.Trod enc Try.prog w base spare held 33 v d p) :
    ∃ a0 a1 a2 : Int, v = .agg #[.int .i64 a0, .int .i64 a1, .int .i64 a2] := by
  simp only [Value.okWide, Try.underlying33] at hv
  obtain ⟨cs, rfl, hsz, _⟩ := hv
  rw [cellsArr] at hsz
  obtain ⟨fuel, hf⟩ := h
  obtain ⟨c0, c1, c2, hc⟩ := list3 (l := cs.toList) (by simpa using hsz)
  have hcs : cs = #[c0, c1, c2] := by rw [← Array.toArray_toList (xs := cs), hc]
  subst hcs
  obtain ⟨y0, y1, y2, n, _, h0, h1, h2⟩ := trod_array3 Try.underlying33 cellsI64 hf
  obtain ⟨a0, e0, _, _⟩ := DataW.trod_int Try.underlying2 h0
  obtain ⟨a1, e1, _, _⟩ := DataW.trod_int Try.underlying2 h1
  obtain ⟨a2, e2, _, _⟩ := DataW.trod_int Try.underlying2 h2
  simp only [List.cons.injEq, and_true] at e0 e1 e2
  exact ⟨a0, a1, a2, by rw [e0, e1, e2]⟩
theorem read_act {n : Nat} {cs : List Value} {x : DataW H × List MemPlace} (h : DataW.trod enc Try.prog w base spare held n 45 cs = some x) :
    ∃ a : Ap, cs = [.int .i64 a.k, .int .i64 a.n, .slice a.A a.b.length a.c] ∧ BytesAt w a.A a.b ∧ (-9223372036854775808 ≤ a.n ∧ a.n ≤ 9223372036854775807) := by
  obtain ⟨xs, m, _, _, hl, hlen, hf⟩ := DataW.trod_struct Try.underlying45 h
  rw [cellsAct] at hl
  have h0 : DataW.trod enc Try.prog w base spare held m 3 ((cs.drop 0).take (Try.prog.cellsOf 3)) = xs[0]? := hf 0 _ rfl
  have h1 : DataW.trod enc Try.prog w base spare held m 2 ((cs.drop 1).take (Try.prog.cellsOf 2)) = xs[1]? := hf 1 _ rfl
  have h2 : DataW.trod enc Try.prog w base spare held m 43 ((cs.drop 2).take (Try.prog.cellsOf 43)) = xs[2]? := hf 2 _ rfl
  rw [cellsInt] at h0
  rw [cellsI64] at h1
  rw [cellsBytes] at h2
  obtain ⟨c0, c1, c2, rfl⟩ := list3 hl
  obtain ⟨y0, e0⟩ := some_at (i := 0) hlen (by decide)
  obtain ⟨y1, e1⟩ := some_at (i := 1) hlen (by decide)
  obtain ⟨y2, e2⟩ := some_at (i := 2) hlen (by decide)
  rw [e0] at h0
  rw [e1] at h1
  rw [e2] at h2
  obtain ⟨k, k0, _, _⟩ := DataW.trod_int Try.underlying3 h0
  obtain ⟨n', k1, _, wf⟩ := DataW.trod_int Try.underlying2 h1
  simp only [List.drop_zero, List.drop_succ_cons, List.take_succ_cons, List.take_zero, List.cons.injEq, and_true] at k0 k1 h2
  have h2' := h2
  rcases open_slice Try.underlying43 h2 with ⟨hcs, _⟩ | ⟨x', len', cap', m', n'', D, Pl, hcs, _, _, _, _, _, _⟩
  · simp only [List.cons.injEq, and_true] at hcs
    subst hcs
    exact ⟨⟨k, n', none, 0, []⟩, by rw [k0, k1]; rfl, fun k hk => by simp at hk, i64_wf' wf⟩
  · simp only [List.cons.injEq, and_true] at hcs
    subst hcs
    obtain ⟨l, hl, hb, _⟩ := bytes_of_slice h2'
    exact ⟨⟨k, n', some x', cap', l⟩, by rw [k0, k1]; simp [hl], hb, i64_wf' wf⟩
theorem open_acts {a : Option Addr} {len cap : Nat} {d : DataW H} {p : List MemPlace} (h : DataW.Trod enc Try.prog w base spare held 34 (.slice a len cap) d p) :
    ∃ l : List Ap, l.length = len ∧ ActsAt w a l := by
  obtain ⟨fuel, hf⟩ := h
  rcases open_slice Try.underlying34 hf with ⟨hcs, _⟩ | ⟨x, len', cap', m, n, D, Pl, hcs, _, hl, _, hm, _, hi⟩
  · simp [Value.cells] at hcs
    obtain ⟨rfl, rfl, rfl⟩ := hcs
    exact ⟨[], rfl, fun k hk => by simp at hk⟩
  · simp [Value.cells] at hcs
    obtain ⟨rfl, rfl, rfl⟩ := hcs
    have hlm : len ≤ m := by rw [hm]; split <;> omega
    rw [cellsAct] at hi
    have hex : ∀ i, i < len → ∃ r : Ap, x.spot = none ∧ w.cell? ⟨x.block, x.off + i * 3, none⟩ = some (.int .i64 r.k) ∧ w.cell? ⟨x.block, x.off + i * 3 + 1, none⟩ = some (.int .i64 r.n) ∧
        w.cell? ⟨x.block, x.off + i * 3 + 2, none⟩ = some (.slice r.A r.b.length r.c) ∧ BytesAt w r.A r.b ∧ (-9223372036854775808 ≤ r.n ∧ r.n ≤ 9223372036854775807) := fun i hil => by
      obtain ⟨cs', h1, h2⟩ := hi i (by omega)
      obtain ⟨r, rfl, hrb, hrn⟩ := read_act h2
      obtain ⟨_, _, hat⟩ := World.cells?_some h1
      have q0 := hat 0 (by omega)
      have hs1 : (x.add (i * 3)).spot = none := World.cell?_spot (v := .int .i64 r.k) (by simpa [Addr.add] using q0)
      have hsp : x.spot = none := by
        by_cases h0 : i * 3 = 0
        · rw [h0] at hs1; simpa [Addr.add] using hs1
        · by_cases h4 : len = 0
          · omega
          · obtain ⟨cs0, g1, g2⟩ := hi 0 (by omega)
            obtain ⟨r0, rfl, _, _⟩ := read_act g2
            obtain ⟨_, _, gat⟩ := World.cells?_some g1
            have g0 := gat 0 (by omega)
            have := World.cell?_spot (v := .int .i64 r0.k) (by simpa [Addr.add] using g0)
            simpa [Addr.add] using this
      have q1 := hat 1 (by omega)
      have q2 := hat 2 (by omega)
      rw [add_at x _ hsp, add_at _ _ rfl] at q0 q1 q2
      exact ⟨r, hsp, q0, q1, q2, hrb, hrn⟩
    refine ⟨(List.range len).map fun i => if h : i < len then Classical.choose (hex i h) else ⟨0, 0, none, 0, []⟩, by simp, fun k hk => ?_⟩
    simp only [List.length_map, List.length_range] at hk
    have hsp := Classical.choose_spec (hex k hk)
    refine ⟨x.block, x.off, ?_, ?_⟩
    · obtain ⟨b, o, s⟩ := x
      simp only at hsp
      rw [hsp.1]
    · simp only [List.getElem_map, List.getElem_range, hk, dif_pos]
      exact hsp.2
end

set_option maxRecDepth 100000 in
theorem samebytes_calls (A B : Option Addr) (c d n : Nat) (l : List UInt8) (hn : l.length = n) (w : World) (ha : BytesAt w A l) (hb : BytesAt w B l) :
    Calls Try.prog 29 #[.slice A n c, .slice B n d] w fun e w' => e = .returned (.bool true) ∧ w = w' := by
  subst hn
  have h1 := conv_bytes w A l c ha
  have h2 := conv_bytes w B l d hb
  generalize (⟨l.toArray⟩ : ByteArray) = s at *
  clear ha hb
  go_enter Try.func29, Try.ntmps29
  go_wp2
  go_ret
  exact ⟨rfl, rfl⟩
set_option maxHeartbeats 1000000 in
set_option maxRecDepth 100000 in
theorem samespans_calls (A B : Option Addr) (c d : Nat) (l : List Sp) (w : World) (ha : SAt w A l) (hb : SAt w B l) (hl : l.length ≤ 1000000) :
    Calls Try.prog 30 #[.slice A l.length c, .slice B l.length d] w fun e w' => e = .returned (.bool true) ∧ Ext w w' := by
  go_enter Try.func30, Try.ntmps30
  go_wp2_with fail
  go_loopw [5] (fun i wr => ∃ k : Nat, k ≤ l.length ∧ i = .int .i64 k ∧ Ext w wr) (fun i _ => l.length - (intOf i).toNat)
  case atStart => exact ⟨0, Nat.zero_le _, rfl, Ext.refl _⟩
  case round =>
    obtain ⟨k, hk, rfl, hx⟩ := hrel
    by_cases hlt : k < l.length
    · obtain ⟨b1, o1, rfl, p0, p1⟩ := ha.ext hx k hlt
      obtain ⟨b2, o2, rfl, q0, q1⟩ := hb.ext hx k hlt
      generalize l[k] = s at *
      have i0 : (0 : Int) ≤ (k : Int) := by omega
      have i1 : (k : Int) < (l.length : Int) := by omega
      clear ha hb
      go_wp2
      refine wp_region_ext_lit (by kernel_rfl) (by kernel_rfl) ?_
      intro X _ g hg hg'
      have k0 : ∀ n, (g n).cell? ⟨b1, o1 + k * 2, none⟩ = some (.int .i64 s.f) := fun n => (hg n).cell p0
      have k1 : ∀ n, (g n).cell? ⟨b1, o1 + k * 2 + 1, none⟩ = some (.int .i64 s.t) := fun n => (hg n).cell p1
      have k2 : ∀ n, (g n).cell? ⟨b2, o2 + k * 2, none⟩ = some (.int .i64 s.f) := fun n => (hg n).cell q0
      have k3 : ∀ n, (g n).cell? ⟨b2, o2 + k * 2 + 1, none⟩ = some (.int .i64 s.t) := fun n => (hg n).cell q1
      repeat (go_big_quiet_step (fail))
      refine wpQuiet_nil ?_
      rintro w' ⟨n, rfl⟩
      have hxg := hg n
      clear hg hg' k0 k1 k2 k3
      go_wp2
      go_roundw
      case rel => exact ⟨k + 1, by omega, by go_num, hx.trans hxg⟩
      case measure => simp [intOf]; omega
    · obtain rfl : k = l.length := by omega
      go_wp2
      go_ret
      exact ⟨rfl, hx⟩
def GreatPost (u : Int) (l : List Ap) (w : World) (e : Ending) (w' : World) : Prop := ∃ g : Bool, e = .returned (.bool g) ∧ Ext w w' ∧ (g = false → u ≤ 64 ∧ l.length ≤ 30 ∧ ∀ i (hi : i < l.length), l[i].b.length ≤ 100)
set_option maxHeartbeats 1000000 in
set_option maxRecDepth 100000 in
theorem great_calls (u : Int) (A : Option Addr) (c : Nat) (l : List Ap) (w : World) (h : ActsAt w A l) :
    Calls Try.prog 20 #[.int .i64 u, .slice A l.length c] w (GreatPost u l w) := by
  by_cases h1 : 64 < u
  · go_enter Try.func20, Try.ntmps20
    go_wp2
    go_ret
    exact ⟨true, rfl, Ext.refl _, fun e => by cases e⟩
  · by_cases h2 : 30 < l.length
    · go_enter Try.func20, Try.ntmps20
      go_wp2
      go_ret
      exact ⟨true, rfl, Ext.refl _, fun e => by cases e⟩
    · go_enter Try.func20, Try.ntmps20
      go_wp2_with fail
      go_loopw [16] (fun i wr => ∃ k : Nat, k ≤ l.length ∧ i = .int .i64 k ∧ Hid (∀ j (hj : j < l.length), j < k → l[j].b.length ≤ 100) ∧ Ext w wr) (fun i _ => l.length - (intOf i).toNat)
      case atStart => exact ⟨0, Nat.zero_le _, rfl, Lib.hid (fun j _ hj => absurd hj (by omega)), Ext.refl _⟩
      case round =>
        obtain ⟨k, hk, rfl, hj, hx⟩ := hrel
        by_cases hlt : k < l.length
        · obtain ⟨b1, o1, rfl, p0, p1, p2, _, _⟩ := h.ext hx k hlt
          have i0 : (0 : Int) ≤ (k : Int) := by omega
          have i1 : (k : Int) < (l.length : Int) := by omega
          by_cases hg : 100 < l[k].b.length
          · generalize l[k] = a at *
            clear h
            go_wp2
            go_ret
            exact ⟨true, rfl, hx.alloc _, fun e => by cases e⟩
          · have HL := Lib.hid (show ∀ j (hj : j < l.length), j < k + 1 → l[j].b.length ≤ 100 from fun j h1 h2 => by
              by_cases hjk : j < k
              · exact hj.out j h1 hjk
              · obtain rfl : j = k := by omega
                omega)
            generalize l[k] = a at *
            clear h hj
            go_wp2
            go_roundw
            case rel => exact ⟨k + 1, by omega, by go_num, HL, hx.alloc _⟩
            case measure => simp [intOf]; omega
        · obtain rfl : k = l.length := by omega
          go_wp2
          go_ret
          exact ⟨false, rfl, hx, fun _ => ⟨by omega, by omega, fun i hi => hj.out i hi hi⟩⟩
end Go.Proofs.Ytoahjhkfnchdhaa
