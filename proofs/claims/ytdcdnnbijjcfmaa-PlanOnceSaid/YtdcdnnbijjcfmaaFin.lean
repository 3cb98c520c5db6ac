/- The contracts of what tells small jobs, and of a job's sets. -/
import Derived.Test.YtdcdnnbijjcfmaaAlv
import Derived.Test.YtdcdnnbijjcfmaaOpn
namespace Go.Proofs.Ytdcdnnbijjcfmaa
open Go.RowKit

def smallOne (m : Int) (s : Sp) : Prop := 0 ≤ s.f ∧ s.f ≤ m ∧ (s.t ≤ m ∨ s.t = 4611686018427387904)
/-- What a list that is told small keeps. -/
def SmallL (l : List Sp) (u k : Int) : Prop := unitB u = true ∧ l.length ≤ 12 ∧ ∀ s ∈ l, smallOne (u * k) s

def SmallPost (Q : Prop) (w : World) (e : Ending) (w' : World) : Prop := ∃ b : Bool, e = .returned (.bool b) ∧ (b = true → Q) ∧ Ext w w'
set_option maxHeartbeats 2000000 in
set_option maxRecDepth 100000 in
theorem small_calls (A : Option Addr) (c : Nat) (l : List Sp) (u k : Int) (w : World) (h : SAt w A l) (hl : l.length ≤ 9223372036854775807) (hk : 0 ≤ k) (hk2 : k ≤ 1000) :
    Calls Try.prog 30 #[.slice A l.length c, .int .i64 u, .int .i64 k] w (SmallPost (SmallL l u k) w) := by
  obtain ⟨m, hm⟩ : ∃ m, IntKind.i64.wrap (u * k) = m := ⟨_, rfl⟩
  have HM : Hid (unitB u = true → u * k = m) := Lib.hid fun hu => by
    obtain ⟨u1, u2⟩ := unit_bound hu
    have h1 : u * k ≤ 1048576 * 1000 := Int.mul_le_mul u2 hk2 hk (by omega)
    have h2 : 0 ≤ u * k := Int.mul_nonneg (by omega) hk
    rw [← hm]
    exact (IntWalk.i64_in _ (by omega)).symm
  go_enter Try.func30, Try.ntmps30
  go_wp2
  go_loopw [11] (fun i wr => ∃ j : Nat, j ≤ l.length ∧ i = .int .i64 j ∧ Hid (∀ q (hq : q < l.length), q < j → smallOne m l[q]) ∧ Ext w wr) (fun i _ => l.length - (intOf i).toNat)
  case atStart => exact ⟨0, Nat.zero_le _, rfl, Lib.hid (fun q hq h => absurd h (by omega)), Ext.refl w⟩
  case round =>
    obtain ⟨j, hj, rfl, HQ, hx⟩ := hrel
    by_cases hlt : j < l.length
    · obtain ⟨b, o, rfl, p0, p1⟩ := h.ext hx j hlt
      have hnx : smallOne m l[j] → ∀ q (hq : q < l.length), q < j + 1 → smallOne m l[q] := fun h1 q hq hqj => by
        rcases Nat.lt_or_ge q j with h2 | h2
        · exact HQ.out q hq h2
        · obtain rfl : q = j := by omega
          exact h1
      generalize l[j] = s at *
      have HNX := Lib.hid hnx
      clear hnx HQ h
      have i0 : (0 : Int) ≤ (j : Int) := by omega
      have i1 : (j : Int) < (l.length : Int) := by omega
      cases e1 : decide (s.f < 0)
      · cases e2 : decide (m < s.f)
        · cases e3 : decide (m < s.t)
          · have HN2 := Lib.hid (HNX.out ⟨by simpa using e1, by simpa using e2, .inl (by simpa using e3)⟩)
            clear HNX
            go_wp2
            go_roundw
            case rel => exact ⟨j + 1, by omega, by go_num, HN2, hx.alloc _⟩
            case measure => simp [intOf]; omega
          · cases e4 : (s.t == 4611686018427387904)
            · have e5 : (s.t != 4611686018427387904) = true := by simp [bne, e4]
              clear HNX
              go_wp2
              go_ret
              exact ⟨false, rfl, fun h => (by cases h), hx.alloc _⟩
            · have e5 : (s.t != 4611686018427387904) = false := by simp [bne, e4]
              have HN2 := Lib.hid (HNX.out ⟨by simpa using e1, by simpa using e2, .inr (by simpa using e4)⟩)
              clear HNX
              go_wp2
              go_roundw
              case rel => exact ⟨j + 1, by omega, by go_num, HN2, hx.alloc _⟩
              case measure => simp [intOf]; omega
        · clear HNX
          go_wp2
          go_ret
          exact ⟨false, rfl, fun h => (by cases h), hx.alloc _⟩
      · clear HNX
        go_wp2
        go_ret
        exact ⟨false, rfl, fun h => (by cases h), hx.alloc _⟩
    · obtain rfl : j = l.length := by omega
      by_cases h12 : l.length ≤ 12
      · go_wp2_with (go_at_call 40; refine (unitOk_calls u _).mono ?_; rintro e w' ⟨rfl, rfl⟩)
        go_ret
        refine ⟨unitB u, rfl, fun hu => ⟨hu, h12, fun s hs => ?_⟩, hx⟩
        rw [HM.out hu]
        obtain ⟨q, hq, rfl⟩ := List.mem_iff_getElem.1 hs
        exact HQ.out q hq hq
      · have h13 : 12 < l.length := by omega
        go_wp2
        go_ret
        exact ⟨false, rfl, fun h => (by cases h), hx⟩
/-- What a job that is told small keeps. -/
def FineJ (j : Jb) (k : Int) : Prop := SmallL j.g.l j.c.u k ∧ SmallL j.f.l j.c.u (4 * k) ∧ (j.n ≤ j.c.u * k ∨ 1099511627776 < j.n) ∧ j.c.mo ≤ j.c.u * 300 ∧ j.c.wa ≤ 1099511627776
set_option maxHeartbeats 4000000 in
set_option maxRecDepth 100000 in
theorem fine_calls (j : Jb) (k : Int) (w : World) (hg : SAt w j.g.A j.g.l) (hf : SAt w j.f.A j.f.l) (hlg : j.g.l.length ≤ 9223372036854775807) (hlf : j.f.l.length ≤ 9223372036854775807) (hk : 0 ≤ k) (hk2 : k ≤ 100) :
    Calls Try.prog 11 #[.agg j.cells.toArray, .int .i64 k] w (SmallPost (FineJ j k) w) := by
  have HFd : Hid (FineJ j k = (SmallL j.g.l j.c.u k ∧ SmallL j.f.l j.c.u (4 * k) ∧ (j.n ≤ j.c.u * k ∨ 1099511627776 < j.n) ∧ j.c.mo ≤ j.c.u * 300 ∧ j.c.wa ≤ 1099511627776)) := Lib.hid rfl
  generalize FineJ j k = Q at *
  obtain ⟨⟨Ag, cg, lg⟩, ⟨Af, cf, lf⟩, n, ⟨u, wa, mo, r3, r4, r5, r6, r7, r8, r9⟩⟩ := j
  simp only at hg hf hlg hlf HFd
  show Calls Try.prog 11 #[.agg #[.slice Ag lg.length cg, .slice Af lf.length cf, .int .i64 n, .int .i64 u, .int .i64 wa, .int .i64 mo, .int .i64 r3, .int .i64 r4, .int .i64 r5, .int .i64 r6, .int .i64 r7, .int .i64 r8, .int .i64 r9], .int .i64 k] w (SmallPost Q w)
  have hx0 : Ext w (w.alloc (.cells #[.slice Ag lg.length cg, .slice Af lf.length cf, .int .i64 n, .int .i64 u, .int .i64 wa, .int .i64 mo, .int .i64 r3, .int .i64 r4, .int .i64 r5, .int .i64 r6, .int .i64 r7, .int .i64 r8, .int .i64 r9] 26)) := (Ext.refl w).alloc _
  have bJ := heap_alloc_new w (.cells #[.slice Ag lg.length cg, .slice Af lf.length cf, .int .i64 n, .int .i64 u, .int .i64 wa, .int .i64 mo, .int .i64 r3, .int .i64 r4, .int .i64 r5, .int .i64 r6, .int .i64 r7, .int .i64 r8, .int .i64 r9] 26)
  have HG := Lib.hid (small_calls Ag cg lg u k _ (hg.ext hx0) hlg hk (by omega))
  have hF := fun W (hW : Ext (w.alloc (.cells #[.slice Ag lg.length cg, .slice Af lf.length cf, .int .i64 n, .int .i64 u, .int .i64 wa, .int .i64 mo, .int .i64 r3, .int .i64 r4, .int .i64 r5, .int .i64 r6, .int .i64 r7, .int .i64 r8, .int .i64 r9] 26)) W) => small_calls Af cf lf u (4 * k) W ((hf.ext hx0).ext hW) hlf (by omega) (by omega)
  have HF := Lib.hid hF
  clear hF hg hf
  go_enter Try.func11, Try.ntmps11
  go_wp2_with fail
  generalize (w.alloc (.cells #[.slice Ag lg.length cg, .slice Af lf.length cf, .int .i64 n, .int .i64 u, .int .i64 wa, .int .i64 mo, .int .i64 r3, .int .i64 r4, .int .i64 r5, .int .i64 r6, .int .i64 r7, .int .i64 r8, .int .i64 r9] 26)) = w1 at *
  refine HG.out.mono ?_
  rintro e w2 ⟨b1, rfl, hb1, hx2⟩
  have HB1 := Lib.hid hb1
  have bJ2 := hx2.block bJ
  have hw2 := hx0.trans hx2
  have c3 : w2.cell? ⟨w.heap.size, 3, none⟩ = some (.int .i64 u) := by rw [cell_of_block bJ2]; rfl
  have c1 : w2.cell? ⟨w.heap.size, 1, none⟩ = some (.slice Af lf.length cf) := by rw [cell_of_block bJ2]; rfl
  clear hb1 HG bJ
  cases b1
  · go_wp2
    go_ret
    exact ⟨false, rfl, fun h => (by cases h), hw2⟩
  · go_wp2_with fail
    refine (HF.out _ hx2).mono ?_
    rintro e w3 ⟨b2, rfl, hb2, hx3⟩
    have HB2 := Lib.hid hb2
    have bJ3 := hx3.block bJ2
    have hw3 := hw2.trans hx3
    have d2 : w3.cell? ⟨w.heap.size, 2, none⟩ = some (.int .i64 n) := by rw [cell_of_block bJ3]; rfl
    have d3 : w3.cell? ⟨w.heap.size, 3, none⟩ = some (.int .i64 u) := by rw [cell_of_block bJ3]; rfl
    have d4 : w3.cell? ⟨w.heap.size, 4, none⟩ = some (.int .i64 wa) := by rw [cell_of_block bJ3]; rfl
    have d5 : w3.cell? ⟨w.heap.size, 5, none⟩ = some (.int .i64 mo) := by rw [cell_of_block bJ3]; rfl
    clear hb2 HF c1 c3 bJ2 bJ3 hx2 hx3
    cases b2
    · go_wp2
      go_ret
      exact ⟨false, rfl, fun h => (by cases h), hw3⟩
    · have hS1 := HB1.out (by simp)
      have hS2 := HB2.out (by simp)
      obtain ⟨u1, u2⟩ := unit_bound hS1.1
      have m1 : u * k ≤ 1048576 * 100 := Int.mul_le_mul u2 hk2 hk (by omega)
      have m2 : 0 ≤ u * k := Int.mul_nonneg (by omega) hk
      have HS := Lib.hid (And.intro hS1 hS2)
      clear hS1 hS2 HB1 HB2
      have hQ : (n ≤ u * k ∨ 1099511627776 < n) → mo ≤ u * 300 → wa ≤ 1099511627776 → Q := fun h1 h2 h => by rw [HFd.out]; exact ⟨HS.out.1, HS.out.2, h1, h2, h⟩
      by_cases e0 : n ≤ u * k
      · by_cases e2 : mo ≤ u * 300
        · have HQ := Lib.hid (hQ (.inl e0) e2)
          clear hQ
          go_wp2
          go_ret
          exact ⟨decide (wa ≤ 1099511627776), rfl, fun h => HQ.out (by simpa using h), hw3⟩
        · clear hQ
          go_wp2
          go_ret
          exact ⟨false, rfl, fun h => (by cases h), hw3⟩
      · by_cases e9 : 1099511627776 < n
        · by_cases e2 : mo ≤ u * 300
          · have HQ := Lib.hid (hQ (.inr e9) e2)
            clear hQ
            go_wp2
            go_ret
            exact ⟨decide (wa ≤ 1099511627776), rfl, fun h => HQ.out (by simpa using h), hw3⟩
          · clear hQ
            go_wp2
            go_ret
            exact ⟨false, rfl, fun h => (by cases h), hw3⟩
        · clear hQ
          go_wp2
          go_ret
          exact ⟨false, rfl, fun h => (by cases h), hw3⟩

def SetsPost (w : World) (g f : List Sp) (e : Ending) (w' : World) : Prop := ∃ A a B b, e = .returned (.tuple #[.agg #[.slice A g.length a], .agg #[.slice B f.length b]]) ∧ Hid (SAt w' A g ∧ SAt w' B f) ∧ Ext w w'
end Go.Proofs.Ytdcdnnbijjcfmaa
