/- A slice's buffer in memory; the contract of slice.New. -/
import Derived.Test.YtoahjhkfnchdhaaSlsp
import Derived.Test.YtoahjhkfnchdhaaOr
import Derived.Test.YtoahjhkfnchdhaaAnd
import Derived.Test.YtoahjhkfnchdhaaOf
import Derived.Test.YtoahjhkfnchdhaaLen
import Derived.Laws.CopyOwn
import Derived.Laws.MakeOwn
import Derived.Deep.RegionHeld3
namespace Go.Proofs.Ytoahjhkfnchdhaa
open Go.RowKit

/-- Blocks from lo on and before hi alone may have turned; blocks may have come. -/
structure Chg (lo hi : Nat) (w w' : World) : Prop where
  os : w'.os = w.os
  tape : w'.tape = w.tape
  output : w'.output = w.output
  size : w.heap.size ≤ w'.heap.size
  block : ∀ k, k < w.heap.size → (k < lo ∨ hi ≤ k) → w'.heap[k]? = w.heap[k]?
theorem Chg.refl (lo hi : Nat) (w : World) : Chg lo hi w w := ⟨rfl, rfl, rfl, Nat.le_refl _, fun _ _ _ => rfl⟩
theorem Chg.of_ext {lo hi : Nat} {w w' : World} (h : Ext w w') : Chg lo hi w w' := ⟨h.os, h.tape, h.output, h.size, fun k hk _ => Below.block h k hk⟩
theorem Chg.trans {lo hi : Nat} {a b c : World} (h : Chg lo hi a b) (k : Chg lo hi b c) : Chg lo hi a c :=
  ⟨k.os.trans h.os, k.tape.trans h.tape, k.output.trans h.output, Nat.le_trans h.size k.size, fun i hi hne => (k.block i (Nat.lt_of_lt_of_le hi h.size) hne).trans (h.block i hi hne)⟩
theorem Chg.ext {lo hi : Nat} {w0 w w' : World} (h : Chg lo hi w w') (h0 : Ext w0 w) (hl : w0.heap.size ≤ lo) : Ext w0 w' :=
  ⟨h.os.trans h0.os, h.tape.trans h0.tape, h.output.trans h0.output, Nat.le_trans h0.size h.size, fun k hk => (h.block k (Nat.lt_of_lt_of_le hk h0.size) (.inl (Nat.lt_of_lt_of_le hk hl))).trans (Below.block h0 k hk)⟩
theorem Chg.more {lo hi lo' hi' : Nat} {w w' : World} (h : Chg lo hi w w') (h1 : lo' ≤ lo) (h2 : hi ≤ hi') : Chg lo' hi' w w' :=
  ⟨h.os, h.tape, h.output, h.size, fun k hk hne => h.block k hk (hne.elim (fun h => .inl (by omega)) (fun h => .inr (by omega)))⟩
theorem Chg.cell {lo hi : Nat} {w w' : World} (h : Chg lo hi w w') {p : Addr} {u : Value} (hc : w.cell? p = some u) (hp : p.block < lo ∨ hi ≤ p.block) : w'.cell? p = some u :=
  (World.cell?_of_block (h.block p.block (block_of_cell hc) hp)).trans hc
theorem Chg.setCell {lo hi : Nat} {w : World} {p : Addr} (u : Value) (h1 : lo ≤ p.block) (h2 : p.block < hi) : Chg lo hi w (w.setCell p u) :=
  ⟨rfl, rfl, rfl, by simp [World.setCell], fun k _ hne => Below.heap_setCell w p u k (fun e => by omega)⟩
theorem Chg.setRow {lo hi : Nat} {w : World} {g : Nat} (cs : Array Value) (h1 : lo ≤ g) (h2 : g < hi) : Chg lo hi w (w.setRow g cs) :=
  ⟨rfl, rfl, rfl, by simp [World.setRow], fun k _ hne => setRow_other w g k cs (by omega)⟩
/-- It lies in none of these blocks. -/
def OutA (lo hi : Nat) (A : Option Addr) : Prop := ∀ b o, A = some ⟨b, o, none⟩ → b < lo ∨ hi ≤ b
theorem SAt.chg {lo hi : Nat} {w w' : World} {A : Option Addr} {l : List Sp} (h : SAt w A l) (hx : Chg lo hi w w') (ho : OutA lo hi A) : SAt w' A l := fun k hk => by
  obtain ⟨b, o, e, p0, p1⟩ := h k hk
  exact ⟨b, o, e, hx.cell p0 (ho b o e), hx.cell p1 (ho b o e)⟩

structure Bf where
  u : Int
  n : Int
  f : Int
  t : Int
  bs : List UInt8
  hs : List Sp
def bytesL (l : List UInt8) : List Value := l.map fun b => .int .u8 (b.toNat : Int)
theorem bytesL_length (l : List UInt8) : (bytesL l).length = l.length := by simp [bytesL]
/-- A buffer that is sound: what it has lies within it. -/
structure Bf.ok (B : Bf) : Prop where
  u0 : B.u ≠ 0
  f0 : 0 ≤ B.f
  ft : B.f < B.t
  t1 : B.t ≤ 1099511627776
  len : B.t - B.f ≤ B.bs.length
  small : B.bs.length ≤ 1000
  norm : Norm B.hs
  lies : ∀ s ∈ B.hs, B.f ≤ s.f ∧ s.t ≤ B.t
  hlen : B.hs.length ≤ 1000
/-- Where a set's list may lie. -/
def OutW (lo hi b : Nat) : Prop := b < lo ∨ hi ≤ b
def InZ (Z : Nat → Prop) (A : Option Addr) (l : List Sp) : Prop := ∀ b o, A = some ⟨b, o, none⟩ → 0 < l.length → Z b
theorem SAt.chgZ {Z : Nat → Prop} {lo hi : Nat} {w w' : World} {A : Option Addr} {l : List Sp} (h : SAt w A l) (hx : Chg lo hi w w') (hz : ∀ b, Z b → OutW lo hi b) (ho : InZ Z A l) : SAt w' A l := fun k hk => by
  obtain ⟨b, o, e, p0, p1⟩ := h k hk
  have h0 := hz b (ho b o e (by omega))
  exact ⟨b, o, e, hx.cell p0 h0, hx.cell p1 h0⟩
def BufZ (Z : Nat → Prop) (lo hi : Nat) (w : World) (pb : Nat) (B : Bf) : Prop :=
  ∃ g A c, w.heap[pb]? = some (.cells #[.int .i64 B.u, .int .i64 B.n, .int .i64 B.f, .int .i64 B.t, .slice (some ⟨g, 0, none⟩) B.bs.length B.bs.length, .slice A B.hs.length c] 72 (0, 0)) ∧
    w.heap[g]? = some (.cells (bytesL B.bs).toArray 5 (0, 0)) ∧ lo ≤ pb ∧ pb < hi ∧ lo ≤ g ∧ g < hi ∧ g ≠ pb ∧ SAt w A B.hs ∧ InZ Z A B.hs
theorem BufZ.ext {Z : Nat → Prop} {lo hi : Nat} {w w' : World} {pb : Nat} {B : Bf} (h : BufZ Z lo hi w pb B) (hx : Ext w w') : BufZ Z lo hi w' pb B := by
  obtain ⟨g, A, c, h1, h2, h3, h4, h5, h6, h7, h8, h9⟩ := h
  exact ⟨g, A, c, hx.block h1, hx.block h2, h3, h4, h5, h6, h7, h8.ext hx, h9⟩
theorem BufZ.chg {Z : Nat → Prop} {lo hi lo' hi' : Nat} {w w' : World} {pb : Nat} {B : Bf} (h : BufZ Z lo hi w pb B) (hx : Chg lo' hi' w w') (ho : hi ≤ lo' ∨ hi' ≤ lo) (hz : ∀ b, Z b → OutW lo' hi' b) : BufZ Z lo hi w' pb B := by
  obtain ⟨g, A, c, h1, h2, h3, h4, h5, h6, h7, h8, h9⟩ := h
  have blk : ∀ (k : Nat) (o : Obj), w.heap[k]? = some o → lo ≤ k → k < hi → w'.heap[k]? = some o := fun k o hk a b => (hx.block k (Array.getElem?_eq_some_iff.1 hk).1 (by omega)).trans hk
  exact ⟨g, A, c, blk _ _ h1 h3 h4, blk _ _ h2 h5 h6, h3, h4, h5, h6, h7, h8.chgZ hx hz h9, h9⟩
/-- The list lies where it lies: a block that was not there yet it doesn't lie in. -/
theorem BufZ.more {Z Z' : Nat → Prop} {lo hi : Nat} {w : World} {pb : Nat} {B : Bf} (h : BufZ Z lo hi w pb B) (hz : ∀ b, Z b → b < w.heap.size → Z' b) : BufZ Z' lo hi w pb B := by
  obtain ⟨g, A, c, h1, h2, h3, h4, h5, h6, h7, h8, h9⟩ := h
  refine ⟨g, A, c, h1, h2, h3, h4, h5, h6, h7, h8, fun b o e h0 => hz b (h9 b o e h0) ?_⟩
  obtain ⟨b', o', e', p0, _⟩ := h8 0 h0
  rw [e] at e'
  cases e'
  exact block_of_cell p0
abbrev BufAt (lo hi : Nat) (w : World) (pb : Nat) (B : Bf) : Prop := BufZ (OutW lo hi) lo hi w pb B
theorem BufAt.ext {lo hi : Nat} {w w' : World} {pb : Nat} {B : Bf} (h : BufAt lo hi w pb B) (hx : Ext w w') : BufAt lo hi w' pb B := BufZ.ext h hx

def NewPost (w : World) (no u n : Int) (e : Ending) (w' : World) : Prop :=
  Ext w w' ∧ if spanOk no u n = true then ∃ pb, e = .returned (.tuple #[.pointer (some ⟨pb, 0, none⟩), .int .i64 0]) ∧ Hid (BufAt w.heap.size w'.heap.size w' pb ⟨u, n, no * u, cutE no u n, List.replicate (cutE no u n - no * u).toNat 0, []⟩)
    else e = .returned (.tuple #[.pointer none, .int .i64 1])
def NewPost2 (w : World) (no u n : Int) (e : Ending) (w' : World) : Prop :=
  Ext w w' ∧ if spanOk no u n = true then ∃ pb, e = .returned (.tuple #[.pointer (some ⟨pb, 0, none⟩), .int .i64 0]) ∧ Hid (∀ (Z : Nat → Prop) (lo hi : Nat), lo ≤ w.heap.size → w'.heap.size ≤ hi → BufZ Z lo hi w' pb ⟨u, n, no * u, cutE no u n, List.replicate (cutE no u n - no * u).toNat 0, []⟩)
    else e = .returned (.tuple #[.pointer none, .int .i64 1])
theorem made_bytes (n : Nat) : (madeCells #[.int .u8 0] n) = (bytesL (List.replicate n 0)).toArray := by
  unfold madeCells bytesL
  apply Array.ext
  · simp
  · intro i h1 h2
    simp [Nat.mod_one]

set_option maxHeartbeats 4000000 in
set_option maxRecDepth 100000 in
theorem new2_calls (no u n : Int) (hu : u ≤ 64) (w : World) :
    Calls Try.prog 21 #[.int .i64 no, .int .i64 u, .int .i64 n] w (NewPost2 w no u n) := by
  have hs := span_calls no u n w
  cases eO : spanOk no u n
  · have h0 : spanS no u n = ⟨0, 0⟩ := by unfold spanS; rw [eO]; rfl
    rw [h0] at hs
    have HS := Lib.hid hs
    have HO := Lib.hid eO
    clear hs h0 eO
    go_enter Try.func21, Try.ntmps21
    go_wp2_with fail
    refine HS.out.mono ?_
    rintro e w1 ⟨rfl, hx⟩
    go_wp2
    go_ret2
    exact ⟨hx.alloc _, by rw [HO.out]; rfl⟩
  · have h0 : spanS no u n = ⟨no * u, cutE no u n⟩ := by unfold spanS; rw [eO]; rfl
    have hb : unitB u = true ∧ lengthB n = true ∧ 0 ≤ no ∧ no < 1099511627776 / u ∧ no * u < cutE no u n := by
      unfold spanOk at eO
      simpa using eO
    obtain ⟨b1, b2, b3, b4, b5⟩ := hb
    obtain ⟨m1, m2, m3, m4⟩ := no_bound b1 b3 b4
    have m5 : (no + 1) * u = no * u + u := by rw [Int.add_mul, Int.one_mul]
    have hce : cutE no u n ≤ no * u + u := by unfold cutE; split <;> omega
    rw [h0] at hs
    have hP : ∀ e w', Ext w w' → (∃ pb, e = .returned (.tuple #[.pointer (some ⟨pb, 0, none⟩), .int .i64 0]) ∧ Hid (∀ (Z : Nat → Prop) (lo hi : Nat), lo ≤ w.heap.size → w'.heap.size ≤ hi → BufZ Z lo hi w' pb ⟨u, n, no * u, cutE no u n, List.replicate (cutE no u n - no * u).toNat 0, []⟩)) → NewPost2 w no u n e w' := fun e w' hx h => ⟨hx, by rw [if_pos eO]; exact h⟩
    obtain ⟨F, hF⟩ : ∃ F, no * u = F := ⟨_, rfl⟩
    obtain ⟨T, hT⟩ : ∃ T, cutE no u n = T := ⟨_, rfl⟩
    rw [hF, hT] at hs hP
    rw [m5] at m2 m3
    rw [hF] at m1 m2 m3 m4 hce b5
    rw [hT] at hce b5
    have HS := Lib.hid hs
    have HP := Lib.hid hP
    have t1 : T ≤ 1099511627776 := by omega
    have d1 : T - F ≤ 64 := by omega
    have d0 : 0 ≤ T - F := by omega
    clear hs hP h0 eO b1 b2 b3 b4 m2 m3 m4 m5 hce hF hT
    have hi5 : (Try.prog.info? 5).map (fun i => (i.zero, i.size, i.bytes)) = some (some (.int .u8 0), 1, 1) := by kernel_rfl
    obtain ⟨i0, hi, hz0, hz1, hz2⟩ := info_parts hi5
    have hmk := fun W => run_makeSlice (P := Try.prog) W 43 5 i0 (.int .u8 0) Try.underlying43 hi hz0 .i64 .i64 (T - F) (T - F) d0 (Int.le_refl _) (by rw [hz1]; omega) (by rw [hz2]; omega) (by omega)
    rw [hz1] at hmk
    clear hi hz0 hz1 hz2
    go_enter Try.func21, Try.ntmps21
    go_wp2_with fail
    refine HS.out.mono ?_
    rintro e w1 ⟨rfl, hx⟩
    have e1 : (F == T) = false := by simp; omega
    have c0 : (w1.alloc (.cells #[.int .i64 F, .int .i64 T] 24)).cell? ⟨w1.heap.size, 0, none⟩ = some (.int .i64 F) := by simp
    have c1 : (w1.alloc (.cells #[.int .i64 F, .int .i64 T] 24)).cell? ⟨w1.heap.size, 1, none⟩ = some (.int .i64 T) := by simp
    have hx2 := hx.alloc (.cells #[.int .i64 F, .int .i64 T] 24)
    go_wp2
    generalize (w1.alloc (.cells #[.int .i64 F, .int .i64 T] 24)) = w2 at *
    generalize w1.heap.size = xb at *
    have hwr : IntKind.i64.wrap (T - F) = T - F := IntWalk.i64_in _ (by omega)
    have HE := Lib.hid (Ext.refl w2).drew
    go_region_held3 (fun w' => w'.cell? ⟨xb, 0, none⟩ = some (.int .i64 F) ∧ w'.cell? ⟨xb, 1, none⟩ = some (.int .i64 T))
      ((refine (fun hE => ⟨Ext.cell hE c0, Ext.cell hE c1⟩ : Ext w2 _ → _) ?_
        (repeat' first | exact HE.out | exact Ext.refl _ | refine Ext.drew ?_ | refine Ext.alloc ?_ _)))
      (fail)
    go_wp2
    go_ret2
    have h1 : (w2.alloc (.cells (madeCells #[.int .u8 0] (T - F).toNat) 5)).heap[w2.heap.size]? = some (.cells (bytesL (List.replicate (T - F).toNat 0)).toArray 5 (0, 0)) := by
      rw [heap_alloc_new, made_bytes]
    have hx3 := hx2.alloc (.cells (madeCells #[.int .u8 0] (T - F).toNat) 5)
    refine HP.out _ _ (hx3.alloc _).drew ⟨w2.heap.size + 1, rfl, Lib.hid fun Z lo hi hlo hhi => ⟨w2.heap.size, none, 0, ?_, ?_, ?_, ?_, Nat.le_trans hlo hx2.size, ?_, by omega, SAt.nil _ _, fun b o e => by cases e⟩⟩
    · have h2 := heap_alloc_new (w2.alloc (.cells (madeCells #[.int .u8 0] (T - F).toNat) 5)) (.cells #[.int .i64 u, .int .i64 n, .int .i64 F, .int .i64 T, .slice (some ⟨w2.heap.size, 0, none⟩) (T - F).toNat (T - F).toNat, .slice none 0 0] 72)
      rw [World.size_alloc] at h2
      simp only [List.length_replicate, List.length_nil]
      exact h2
    · exact Ext.block ((Ext.refl _).alloc _).drew h1
    · have := hx2.size; omega
    · refine Nat.lt_of_lt_of_le ?_ hhi
      show w2.heap.size + 1 < (World.alloc _ _).heap.size
      simp
    · refine Nat.lt_of_lt_of_le ?_ hhi
      show w2.heap.size < (World.alloc _ _).heap.size
      simp
      omega
theorem new_calls (no u n : Int) (hu : u ≤ 64) (w : World) :
    Calls Try.prog 21 #[.int .i64 no, .int .i64 u, .int .i64 n] w (NewPost w no u n) := (new2_calls no u n hu w).mono fun e w' ⟨hx, h⟩ => by
  refine ⟨hx, ?_⟩
  split
  · rename_i h0
    rw [if_pos h0] at h
    obtain ⟨pb, he, hb⟩ := h
    exact ⟨pb, he, Lib.hid (hb.out _ _ _ (Nat.le_refl _) (Nat.le_refl _))⟩
  · rename_i h0
    rw [if_neg h0] at h
    exact h
end Go.Proofs.Ytoahjhkfnchdhaa
