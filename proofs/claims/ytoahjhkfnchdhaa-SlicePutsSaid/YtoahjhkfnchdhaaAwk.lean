/- Put whole; the contract of awake. -/
import Derived.Test.YtoahjhkfnchdhaaPut
import Derived.Test.YtoahjhkfnchdhaaPartsl
import Derived.Laws.IdiomStrings
import Derived.Laws.BytesArg
namespace Go.Proofs.Ytoahjhkfnchdhaa
open Go.RowKit

theorem putZ_calls (Z : Nat → Prop) (lo hi pb : Nat) (B : Bf) (a : Int) (A : Option Addr) (c : Nat) (p : List UInt8) (w : World) (h : BufZ Z lo hi w pb B) (hz1 : ∀ b, Z b → OutW lo hi b) (hz2 : ∀ b, w.heap.size ≤ b → Z b) (hok : B.ok) (hh : hi ≤ w.heap.size) (hp : BytesAt w A p) (hc : p.length ≤ c) (hm : p.length ≤ 1000)
    (ha : -9223372036854775808 ≤ a) (ha' : a < 9223372036854775808) (hA : OutA lo hi A) :
    Calls Try.prog 23 #[.pointer (some ⟨pb, 0, none⟩), .int .i64 a, .slice A p.length c] w (BufPostZ Z lo hi w pb (.tuple #[.int .i64 (B.putN a p), .int .i64 (B.putE a p)]) (B.put a p)) := by
  by_cases h0 : a < 0 ∨ B.y a p ≤ B.x a
  · have e1 : B.putE a p = if a < 0 then 1 else 0 := by
      unfold Bf.putE
      by_cases h : a < 0
      · rw [if_pos h, if_pos h]
      · rw [if_neg h, if_neg h, if_pos (by omega)]
    have e2 : B.putN a p = 0 := by unfold Bf.putN; rw [if_pos (by omega)]
    have e3 : B.put a p = B := by unfold Bf.put; rw [if_pos (by omega)]
    rw [e1, e2, e3]
    obtain ⟨g, A5, c5, h1, _⟩ := id h
    refine (put0_calls pb B.f B.t a A p.length c w (by rw [cell_of_block h1]; rfl) (by rw [cell_of_block h1]; rfl) hok.f0 hok.ft hok.t1 hm ha ha' h0).mono ?_
    rintro e w' ⟨rfl, hx⟩
    exact ⟨rfl, Lib.hid (h.ext hx), Chg.of_ext hx⟩
  · exact put1_calls Z lo hi pb B a A c p w h hz1 hz2 hok hh hp hc hm (by omega) (by omega) hA
theorem put_calls (lo hi pb : Nat) (B : Bf) (a : Int) (A : Option Addr) (c : Nat) (p : List UInt8) (w : World) (h : BufAt lo hi w pb B) (hok : B.ok) (hh : hi ≤ w.heap.size) (hp : BytesAt w A p) (hc : p.length ≤ c) (hm : p.length ≤ 1000)
    (ha : -9223372036854775808 ≤ a) (ha' : a < 9223372036854775808) (hA : OutA lo hi A) :
    Calls Try.prog 23 #[.pointer (some ⟨pb, 0, none⟩), .int .i64 a, .slice A p.length c] w (BufPost lo hi w pb (.tuple #[.int .i64 (B.putN a p), .int .i64 (B.putE a p)]) (B.put a p)) :=
  putZ_calls (OutW lo hi) lo hi pb B a A c p w h (fun _ h => h) (fun b hb => .inr (Nat.le_trans hh hb)) hok hh hp hc hm ha ha' hA
theorem conv_bytes (w : World) (A : Option Addr) (l : List UInt8) (c : Nat) (h : BytesAt w A l) : (convert 43 9 (.slice A l.length c)).run Try.prog w = .ok (.string ⟨l.toArray⟩) w := by
  cases A with
  | none =>
    rcases l with _ | ⟨x, l⟩
    · rw [run_convert_bytes_nil w 43 5 Try.underlying43 Try.underlying5 _ _ _ Try.underlying9]; rfl
    · obtain ⟨b, o, e, _⟩ := h 0 (by simp)
      cases e
  | some ad =>
    refine run_convert_bytes_back w _ _ 5 ad c l Try.underlying43 Try.underlying5 Try.underlying9 fun j hj => ?_
    obtain ⟨b, o, e, hcell⟩ := h j hj
    cases e
    rw [add_plain]
    exact hcell
theorem bytes_of_own {w : World} {base : Nat} {e : TypeId} {A : Option Addr} {n c : Nat} {l : List UInt8} (h : w.ownsRow base e 1 (.slice A n c) n (bytesL l)) : BytesAt w A l := fun k hk => by
  have hn : n = l.length := by have := h.1; rw [bytesL_length] at this; omega
  subst hn
  obtain ⟨g, cap, hv, _, _⟩ := h.form (by omega)
  cases hv
  refine ⟨g, 0, rfl, ?_⟩
  rw [Nat.zero_add, h.cellAt _ (by omega)]
  simp [bytesL, hk]

def BA0 : Bf := ⟨4, -1, 8, 12, [0, 0, 0, 0], []⟩
def BA1 : Bf := ⟨4, -1, 8, 12, [99, 100, 0, 0], [⟨8, 10⟩]⟩
def BA2 : Bf := ⟨4, 10, 8, 10, [99, 100, 0, 0], [⟨8, 10⟩]⟩
theorem ba0_ok : BA0.ok := ⟨by decide, by decide, by decide, by decide, by decide, by decide, norm_nil, by simp [BA0], by decide⟩
theorem ba1_put : BA0.put 6 [97, 98, 99, 100] = BA1 ∧ BA0.putN 6 [97, 98, 99, 100] = 2 ∧ BA0.putE 6 [97, 98, 99, 100] = 0 := by
  have hn : ¬ BA0.clash 6 [97, 98, 99, 100] := by rintro ⟨z, ⟨s, hs, _⟩, _⟩; cases hs
  have h1 : ¬ (BA0.y 6 [97, 98, 99, 100] ≤ BA0.x 6) := by decide
  have h3 : ¬ ((6 : Int) < 0 ∨ BA0.y 6 [97, 98, 99, 100] ≤ BA0.x 6 ∨ BA0.clash 6 [97, 98, 99, 100]) := fun h => h.elim (by omega) (fun h => h.elim h1 hn)
  refine ⟨?_, ?_, ?_⟩
  · unfold Bf.put; rw [if_neg h3]; rfl
  · unfold Bf.putN; rw [if_neg h3]; rfl
  · unfold Bf.putE; rw [if_neg (by omega), if_neg h1, if_neg hn]
theorem ba1_ok : BA1.ok := by rw [← ba1_put.1]; exact put_ok ba0_ok _ _
theorem ba1_clash : BA1.put 9 [120] = BA1 ∧ BA1.putN 9 [120] = 0 ∧ BA1.putE 9 [120] = 12 := by
  have hn : BA1.clash 9 [120] := ⟨9, ⟨⟨8, 10⟩, by simp [BA1], by decide, by decide⟩, by decide, by decide, by decide⟩
  refine ⟨?_, ?_, ?_⟩
  · unfold Bf.put; rw [if_pos (.inr (.inr hn))]
  · unfold Bf.putN; rw [if_pos (.inr (.inr hn))]
  · unfold Bf.putE; rw [if_neg (by omega), if_neg (by decide), if_pos hn]
theorem ba2_seal : BA1.seal 10 = BA2 ∧ BA1.sealE 10 = 0 := ⟨by rfl, by rfl⟩
theorem ba2_ok : BA2.ok := by rw [← ba2_seal.1]; exact seal_ok ba1_ok _
theorem ba1_holds : holdsS BA1.hs BA1.f BA1.t = false := by decide
theorem ba2_holds : holdsS BA2.hs BA2.f BA2.t = true := by decide
theorem a_parts : firstPts 3 9 4 9 = [⟨0, ⟨3, 4⟩⟩, ⟨1, ⟨4, 8⟩⟩, ⟨2, ⟨8, 9⟩⟩] := by rfl
theorem a_span : spanOk 2 4 (-1) = true ∧ spanOk 3 4 9 = false ∧ spanS 2 4 9 = ⟨8, 9⟩ ∧ noS 7 4 = 1 ∧ countS 4 9 = 3 := by decide
end Go.Proofs.Ytoahjhkfnchdhaa
