/- A body in memory; the contracts that only read it. -/
import Derived.Test.YtcdokpkffbigdaaPt
import Derived.Test.YtcdokpkffbigdaaOf
import Derived.Test.YtcdokpkffbigdaaRefD
import Derived.Deep.RegionHeld3
namespace Go.Proofs.Ytcdokpkffbigdaa
open Go.RowKit

/-- Blocks from lo on and before hi alone may have turned; blocks may have come. -/
structure Chg (lo hi : Nat) (w w' : World) : Prop where
  os : w'.os = w.os
  tape : w'.tape = w.tape
  output : w'.output = w.output
  size : w.heap.size ≤ w'.heap.size
  block : ∀ k, k < w.heap.size → (k < lo ∨ hi ≤ k) → w'.heap[k]? = w.heap[k]?
theorem Chg.refl (lo hi : Nat) (w : World) : Chg lo hi w w := ⟨rfl, rfl, rfl, Nat.le_refl _, fun _ _ _ => rfl⟩
theorem Chg.of_ext {lo hi : Nat} {w w' : World} (h : Ext w w') : Chg lo hi w w' := ⟨h.os, h.tape, h.output, h.size, fun k hk _ => Below.block h k hk⟩
theorem Chg.trans {lo hi : Nat} {a b c : World} (h : Chg lo hi a b) (k : Chg lo hi b c) : Chg lo hi a c :=
  ⟨k.os.trans h.os, k.tape.trans h.tape, k.output.trans h.output, Nat.le_trans h.size k.size, fun i hi hne => (k.block i (Nat.lt_of_lt_of_le hi h.size) hne).trans (h.block i hi hne)⟩
theorem Chg.ext {lo hi : Nat} {w0 w w' : World} (h : Chg lo hi w w') (h0 : Ext w0 w) (hl : w0.heap.size ≤ lo) : Ext w0 w' :=
  ⟨h.os.trans h0.os, h.tape.trans h0.tape, h.output.trans h0.output, Nat.le_trans h0.size h.size, fun k hk => (h.block k (Nat.lt_of_lt_of_le hk h0.size) (.inl (Nat.lt_of_lt_of_le hk hl))).trans (Below.block h0 k hk)⟩
theorem Chg.cell {lo hi : Nat} {w w' : World} (h : Chg lo hi w w') {p : Addr} {u : Value} (hc : w.cell? p = some u) (hp : p.block < lo ∨ hi ≤ p.block) : w'.cell? p = some u :=
  (World.cell?_of_block (h.block p.block (block_of_cell hc) hp)).trans hc
theorem Chg.setCell {lo hi : Nat} {w : World} {p : Addr} (u : Value) (h1 : lo ≤ p.block) (h2 : p.block < hi) : Chg lo hi w (w.setCell p u) :=
  ⟨rfl, rfl, rfl, by simp [World.setCell], fun k _ hne => Below.heap_setCell w p u k (fun e => by omega)⟩
/-- It lies in none of these blocks. -/
def OutA (lo hi : Nat) (A : Option Addr) : Prop := ∀ b o, A = some ⟨b, o, none⟩ → b < lo ∨ hi ≤ b
theorem SAt.chg {lo hi : Nat} {w w' : World} {A : Option Addr} {l : List Sp} (h : SAt w A l) (hx : Chg lo hi w w') (ho : OutA lo hi A) : SAt w' A l := fun k hk => by
  obtain ⟨b, o, e, p0, p1⟩ := h k hk
  exact ⟨b, o, e, hx.cell p0 (ho b o e), hx.cell p1 (ho b o e)⟩
theorem PAt.chg {lo hi : Nat} {w w' : World} {A : Option Addr} {l : List Pt} (h : PAt w A l) (hx : Chg lo hi w w') (ho : OutA lo hi A) : PAt w' A l := fun k hk => by
  obtain ⟨b, o, e, p0, p1, p2⟩ := h k hk
  exact ⟨b, o, e, hx.cell p0 (ho b o e), hx.cell p1 (ho b o e), hx.cell p2 (ho b o e)⟩

/-- A list of parts of a body's own. -/
def LAt (lo hi pb : Nat) (w : World) (A : Option Addr) (L : List Pt) : Prop :=
  ∀ k (hk : k < L.length), ∃ b o, A = some ⟨b, o, none⟩ ∧ (lo ≤ b ∧ b < hi ∧ b ≠ pb) ∧ (∀ j, w.frozen? ⟨b, j, none⟩ = false) ∧ w.cell? ⟨b, o + k * 3, none⟩ = some (.string ⟨L[k].s.toArray⟩) ∧ w.cell? ⟨b, o + k * 3 + 1, none⟩ = some (.int .i64 L[k].f) ∧ w.cell? ⟨b, o + k * 3 + 2, none⟩ = some (.int .i64 L[k].t)
theorem LAt.pat {lo hi pb : Nat} {w : World} {A : Option Addr} {L : List Pt} (h : LAt lo hi pb w A L) : PAt w A L := fun k hk => by
  obtain ⟨b, o, e, _, _, p⟩ := h k hk
  exact ⟨b, o, e, p⟩
theorem LAt.ext {lo hi pb : Nat} {w w' : World} {A : Option Addr} {L : List Pt} (h : LAt lo hi pb w A L) (hx : Ext w w') : LAt lo hi pb w' A L := fun k hk => by
  obtain ⟨b, o, e, hb, hf, p0, p1, p2⟩ := h k hk
  have hbw : b < w.heap.size := block_of_cell p0
  exact ⟨b, o, e, hb, fun j => (hx.frozen (p := ⟨b, j, none⟩) hbw).trans (hf j), hx.cell p0, hx.cell p1, hx.cell p2⟩
def BodyAt (lo hi : Nat) (w : World) (pb : Nat) (L : List Pt) (n : Int) : Prop :=
  ∃ A c, w.heap[pb]? = some (.cells #[.slice A L.length c, .int .i64 n] 76 (0, 0)) ∧ lo ≤ pb ∧ pb < hi ∧ L.length ≤ c ∧ LAt lo hi pb w A L
theorem BodyAt.ext {lo hi : Nat} {w w' : World} {pb : Nat} {L : List Pt} {n : Int} (h : BodyAt lo hi w pb L n) (hx : Ext w w') : BodyAt lo hi w' pb L n := by
  obtain ⟨A, c, h1, h2, h3, h4, h5⟩ := h
  exact ⟨A, c, hx.block h1, h2, h3, h4, h5.ext hx⟩

/-- How many bytes a part is. -/
def Pt.size (p : Pt) : Int := if p.s = [] then p.t - p.f else p.s.length
def sumS (L : List Pt) : Int := (L.map Pt.size).sum
def leftS (L : List Pt) : Int := if L.any Pt.open_ then -1 else sumS L
def atS : List Pt → Int × Bool
  | [] => (0, false)
  | p :: L => if p.s = [] then (p.f, true) else atS L
def needS (L : List Pt) : List Sp := (L.filter fun p => p.s == []).map fun p => ⟨p.f, p.t⟩
/-- A list of parts that may be a body's. -/
structure LOk (L : List Pt) : Prop where
  len : L.length ≤ 30
  each : ∀ p ∈ L, p.s.length ≤ 500 ∧ (p.s = [] → 0 ≤ p.f ∧ p.f < p.t ∧ (p.t ≤ 1099511627776 ∨ p.t = 4611686018427387904))
  shut : ∀ k (h : k + 1 < L.length), L[k].open_ = false
theorem open_iff (p : Pt) : p.open_ = true ↔ p.s = [] ∧ p.t = 4611686018427387904 := by simp [Pt.open_]
theorem LOk.size {L : List Pt} (h : LOk L) {p : Pt} (hp : p ∈ L) (ho : p.open_ = false) : 0 < p.size ∧ p.size ≤ 1099511627776 := by
  obtain ⟨h1, h2⟩ := h.each p hp
  unfold Pt.size
  by_cases hs : p.s = []
  · rw [if_pos hs]
    obtain ⟨a, b, c⟩ := h2 hs
    have : ¬ p.t = 4611686018427387904 := fun e => by rw [(open_iff p).2 ⟨hs, e⟩] at ho; cases ho
    omega
  · rw [if_neg hs]
    have : p.s.length ≠ 0 := by simpa using hs
    omega
theorem sumS_snoc (L : List Pt) (p : Pt) : sumS (L ++ [p]) = sumS L + p.size := by simp [sumS]
theorem sumS_take {L : List Pt} (h : LOk L) (k : Nat) (hk : k ≤ L.length) (ho : ∀ p ∈ L.take k, p.open_ = false) : 0 ≤ sumS (L.take k) ∧ sumS (L.take k) ≤ 1099511627776 * k := by
  induction k with
  | zero => simp [sumS]
  | succ k ih =>
    have e : L.take (k + 1) = L.take k ++ [L[k]] := List.take_succ_eq_append_getElem (by omega)
    rw [e] at ho ⊢
    rw [sumS_snoc]
    have h1 := ih (by omega) (fun p hp => ho p (List.mem_append_left _ hp))
    have h2 := h.size (List.getElem_mem (show k < L.length by omega)) (ho _ (List.mem_append_right _ (List.mem_singleton.2 rfl)))
    omega

section
variable (lo hi pb : Nat) (L : List Pt) (n : Int) (w : World) (h : BodyAt lo hi w pb L n)
include h
set_option maxRecDepth 100000 in
theorem sent_calls : Calls Try.prog 15 #[.pointer (some ⟨pb, 0, none⟩)] w fun e w' => e = .returned (.int .i64 n) ∧ w' = w := by
  obtain ⟨A, c, h1, _⟩ := h
  have c1 : w.cell? ⟨pb, 1, none⟩ = some (.int .i64 n) := by rw [cell_of_row _ _ _ _ _ _ h1]; rfl
  go_enter Try.func15, Try.ntmps15
  go_wp2
  go_ret
  exact ⟨rfl, rfl⟩
set_option maxRecDepth 100000 in
theorem done_calls : Calls Try.prog 17 #[.pointer (some ⟨pb, 0, none⟩)] w fun e w' => e = .returned (.bool (decide (L = []))) ∧ w' = w := by
  obtain ⟨A, c, h1, _⟩ := h
  have c0 : w.cell? ⟨pb, 0, none⟩ = some (.slice A L.length c) := by rw [cell_of_row _ _ _ _ _ _ h1]; rfl
  go_enter Try.func17, Try.ntmps17
  go_wp2
  go_ret
  refine ⟨?_, rfl⟩
  cases L <;> simp <;> omega
set_option maxHeartbeats 1000000 in
set_option maxRecDepth 100000 in
theorem at_calls (hl : L.length ≤ 1000000) : Calls Try.prog 30 #[.pointer (some ⟨pb, 0, none⟩)] w fun e w' => e = .returned (.tuple #[.int .i64 (atS L).1, .bool (atS L).2]) ∧ Ext w w' := by
  obtain ⟨A, c, h1, _, _, _, hL⟩ := h
  have c0 : w.cell? ⟨pb, 0, none⟩ = some (.slice A L.length c) := by rw [cell_of_row _ _ _ _ _ _ h1]; rfl
  have HL := Lib.hid hL
  clear hL h1
  go_enter Try.func30, Try.ntmps30
  go_wp2
  clear c0
  go_loopw [13] (fun i wr => ∃ k : Nat, k ≤ L.length ∧ i = .int .i64 k ∧ atS L = atS (L.drop k) ∧ Ext w wr) (fun i _ => L.length - (intOf i).toNat)
  case atStart => exact ⟨0, Nat.zero_le _, rfl, rfl, Ext.refl _⟩
  case round =>
    obtain ⟨k, hk, rfl, hat, hx⟩ := hrel
    by_cases hlt : k < L.length
    · obtain ⟨b, o, rfl, _, _, p0, p1, p2⟩ := HL.out.ext hx k hlt
      have hd : L.drop k = L[k] :: L.drop (k + 1) := List.drop_eq_getElem_cons hlt
      rw [hd] at hat
      generalize L[k] = p at *
      rcases p with ⟨s, f, t⟩
      simp only at p0 p1 p2
      cases e1 : (s == [])
      · have hs : ¬ s = [] := by simpa using e1
        have HT : Hid (atS L = atS (L.drop (k + 1))) := Lib.hid (hat.trans (by simp [atS, hs]))
        clear hat hd hs
        go_wp2
        go_roundw
        case rel => exact ⟨k + 1, hlt, by go_num, HT.out, hx.alloc _⟩
        case measure => simp [intOf]; omega
      · have hs : s = [] := by simpa using e1
        have HT : Hid (atS L = (f, true)) := Lib.hid (hat.trans (by simp [atS, hs]))
        clear hat hd hs
        go_wp2
        go_ret2
        exact ⟨by rw [HT.out]; rfl, hx.alloc _⟩
    · obtain rfl : k = L.length := by omega
      have HT : Hid (atS L = (0, false)) := Lib.hid (hat.trans (by simp [atS]))
      clear hat
      go_wp2
      go_ret2
      exact ⟨by rw [HT.out]; rfl, hx⟩
set_option maxHeartbeats 2000000 in
set_option maxRecDepth 100000 in
theorem left_calls (hok : LOk L) : Calls Try.prog 12 #[.pointer (some ⟨pb, 0, none⟩)] w fun e w' => e = .returned (.int .i64 (leftS L)) ∧ Ext w w' := by
  obtain ⟨A, c, h1, _, _, _, hL⟩ := h
  have c0 : w.cell? ⟨pb, 0, none⟩ = some (.slice A L.length c) := by rw [cell_of_row _ _ _ _ _ _ h1]; rfl
  have HL := Lib.hid hL
  have hlen := hok.len
  have HOK := Lib.hid hok
  clear hL h1 hok
  go_enter Try.func12, Try.ntmps12
  go_wp2
  clear c0
  go_loopw [13, 3] (fun i s wr => ∃ k : Nat, k ≤ L.length ∧ i = .int .i64 k ∧ s = .int .i64 (sumS (L.take k)) ∧ Hid (∀ p ∈ L.take k, p.open_ = false) ∧ Ext w wr) (fun i _ _ => L.length - (intOf i).toNat)
  case atStart => exact ⟨0, Nat.zero_le _, rfl, rfl, Lib.hid (by simp), Ext.refl _⟩
  case round =>
    obtain ⟨k, hk, rfl, rfl, ho, hx⟩ := hrel
    by_cases hlt : k < L.length
    · obtain ⟨b, o, rfl, _, _, p0, p1, p2⟩ := HL.out.ext hx k hlt
      have ht : L.take (k + 1) = L.take k ++ [L[k]] := List.take_succ_eq_append_getElem hlt
      have hmem := List.getElem_mem hlt
      have hS := sumS_take HOK.out k hk ho.out
      generalize L[k] = p at *
      have hz := fun h => HOK.out.size hmem (p := p) h
      have hsn := sumS_snoc (L.take k) p
      rw [← ht] at hsn
      have hopen : p.open_ = true → L.any Pt.open_ = true := fun h => List.any_eq_true.2 ⟨p, hmem, h⟩
      have hoo : p.open_ = false → ∀ q ∈ L.take (k + 1), q.open_ = false := fun h q hq => by
        rw [ht] at hq
        rcases List.mem_append.1 hq with hq | hq
        · exact ho.out q hq
        · rw [List.mem_singleton.1 hq]; exact h
      have HEA := Lib.hid (HOK.out.each p hmem)
      rcases p with ⟨s, f, t⟩
      simp only at p0 p1 p2
      have HOPEN := Lib.hid hopen
      have HOO := Lib.hid hoo
      have HSN := Lib.hid hsn
      have HZ := Lib.hid hz
      clear hopen hoo hsn hz ht hmem
      generalize sumS (L.take k) = sm at *
      go_wp2_with fail
      refine (open_calls s f t _).mono ?_
      rintro e w1 ⟨rfl, hx1⟩
      replace p0 : w1.cell? ⟨wr.heap.size, 0, none⟩ = some (.string ⟨s.toArray⟩) := hx1.cell (by simp [go_sem])
      replace p1 : w1.cell? ⟨wr.heap.size, 1, none⟩ = some (.int .i64 f) := hx1.cell (by simp [go_sem])
      replace p2 : w1.cell? ⟨wr.heap.size, 2, none⟩ = some (.int .i64 t) := hx1.cell (by simp [go_sem])
      replace hx := (hx.alloc _).trans hx1
      cases e2 : Pt.open_ ⟨s, f, t⟩
      · have hz := HZ.out e2
        cases e1 : (s == [])
        · have hs : ¬ s = [] := by simpa using e1
          simp only [Pt.size, if_neg hs] at hz
          have HS := Lib.hid hs
          clear hs
          go_wp2
          go_roundw
          case rel => exact ⟨k + 1, hlt, by go_num, by rw [HSN.out]; simp only [Pt.size, if_neg HS.out], Lib.hid (HOO.out e2), hx⟩
          case measure => simp [intOf]; omega
        · have hs : s = [] := by simpa using e1
          simp only [Pt.size, if_pos hs] at hz
          have hE := HEA.out.2 hs
          have HS := Lib.hid hs
          clear hs
          go_wp2
          go_roundw
          case rel => exact ⟨k + 1, hlt, by go_num, by rw [HSN.out]; simp only [Pt.size, if_pos HS.out], Lib.hid (HOO.out e2), hx⟩
          case measure => simp [intOf]; omega
      · go_wp2
        go_ret
        exact ⟨by unfold leftS; rw [if_pos (HOPEN.out e2)]; rfl, hx⟩
    · obtain rfl : k = L.length := by omega
      rw [List.take_length] at ho ⊢
      have hl : leftS L = sumS L := by
        unfold leftS
        rw [if_neg]
        intro h
        obtain ⟨p, hp, h⟩ := List.any_eq_true.1 h
        rw [ho.out p hp] at h
        cases h
      have HLS := Lib.hid hl
      clear hl
      generalize sumS L = sm at *
      go_wp2
      go_ret
      exact ⟨by rw [HLS.out]; rfl, hx⟩
end
end Go.Proofs.Ytcdokpkffbigdaa
