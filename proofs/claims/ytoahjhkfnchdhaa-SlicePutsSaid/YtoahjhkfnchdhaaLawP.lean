/- What Put makes of a buffer into which bytes of one object come: plain. -/
import Derived.Test.YtoahjhkfnchdhaaPutp
namespace Go.Proofs.Ytoahjhkfnchdhaa
open Go.RowKit

theorem or_self {s : Sp} (h : s.ok) : orS [s] [s] = [s] := norm_ext (norm_or _ _) (norm_one h) fun x => by rw [mem_or (norm_one h) (norm_one h)]; simp
theorem and_self' {s : Sp} (h : s.ok) : andS [s] [s] = [s] := norm_ext (norm_and _ _) (norm_one h) fun x => by rw [mem_and (norm_one h) (norm_one h)]; simp
theorem or_nil {s : Sp} (h : s.ok) : orS [] [s] = [s] := norm_ext (norm_or _ _) (norm_one h) fun x => by rw [mem_or norm_nil (norm_one h)]; simp [mem_nil]
theorem and_nil {s : Sp} (h : s.ok) : andS [s] [] = [] := norm_ext (norm_and _ _) norm_nil fun x => by rw [mem_and (norm_one h) norm_nil]; simp [mem_nil]
theorem len_one {s : Sp} (h : s.t ≤ 1099511627776) : lenS [s] = s.t - s.f := by
  unfold lenS
  rw [if_neg (by simp; omega)]
  simp [sumS]
theorem len_nil : lenS [] = 0 := by simp [lenS, sumS]
theorem holds_one {f t : Int} (h : (⟨f, t⟩ : Sp).ok) {g : Int} (hg : f ≤ g) (hgt : g < t) : holdsS [⟨f, t⟩] g t = true := by
  obtain ⟨h0, h1, h2⟩ := h
  have h0' : 0 ≤ f := h0
  have h1' : f < t := h1
  have h2' : t ≤ 4611686018427387904 := h2
  unfold holdsS
  have hr : rightB g t = true := by unfold rightB; simp; omega
  have hb : beh [⟨f, t⟩] g = 0 := by
    unfold beh
    rw [List.takeWhile_cons]
    simp
    omega
  rw [hr, hb]
  simp
  omega
/-- All of an object's bytes that are the buffer's, into an empty one. -/
theorem put_first {B : Bf} (hok : B.ok) (hs : B.hs = []) (O : List UInt8) (h : B.f < O.length) :
    B.put 0 O = { B with bs := splice B.bs 0 ((O.drop B.f.toNat).take (min (O.length : Int) B.t - B.f).toNat), hs := [⟨B.f, min (O.length : Int) B.t⟩] } ∧ B.putE 0 O = 0 ∧ B.putN 0 O = min (O.length : Int) B.t - B.f := by
  have f0 := hok.f0
  have ft := hok.ft
  have t1 := hok.t1
  have hx : B.x 0 = B.f := by unfold Bf.x; omega
  have hy : B.y 0 O = min (O.length : Int) B.t := by unfold Bf.y; rw [Int.zero_add]
  have hn : ¬ B.clash 0 O := by rintro ⟨z, ⟨s, hs2, _⟩, _⟩; rw [hs] at hs2; cases hs2
  have h3 : ¬ ((0 : Int) < 0 ∨ B.y 0 O ≤ B.x 0 ∨ B.clash 0 O) := by
    rw [hx, hy]
    rintro (h | h | h)
    · omega
    · omega
    · exact hn h
  have hk : (⟨B.f, min (O.length : Int) B.t⟩ : Sp).ok := ⟨f0, by show B.f < min _ _; omega, by show min _ _ ≤ _; omega⟩
  refine ⟨?_, ?_, ?_⟩
  · unfold Bf.put
    rw [if_neg h3, hx, hy, hs, or_nil hk, Int.sub_self, Int.sub_zero]
    rfl
  · unfold Bf.putE
    rw [if_neg (by omega), if_neg (by rw [hx, hy]; omega), if_neg hn]
  · unfold Bf.putN
    rw [if_neg h3, hx, hy, hs, and_nil hk, len_nil, Int.sub_zero]
/-- A buffer that has all of an object's bytes that are its own. -/
def fullB (u n f t : Int) (O : List UInt8) : Bf := ⟨u, n, f, t, (O.drop f.toNat).take (t - f).toNat, [⟨f, t⟩]⟩
theorem full_get {f t z : Int} {O : List UInt8} (h0 : 0 ≤ f) (h1 : f ≤ z) (h2 : z < t) : ((O.drop f.toNat).take (t - f).toNat)[(z - f).toNat]? = O[z.toNat]? := by
  rw [List.getElem?_take, if_pos (by omega), List.getElem?_drop]
  congr 1
  omega
theorem splice_self (L : List UInt8) : splice L 0 L = L := by simp [splice]
theorem splice_full {f t : Int} (h0 : 0 ≤ f) (ht : f < t) {O : List UInt8} (hl : t ≤ O.length) : splice (List.replicate (t - f).toNat (0 : UInt8)) 0 ((O.drop f.toNat).take (t - f).toNat) = (O.drop f.toNat).take (t - f).toNat := by
  have h1 : ((O.drop f.toNat).take (t - f).toNat).length = (t - f).toNat := by simp; omega
  unfold splice
  rw [List.take_zero, List.nil_append, h1]
  simp
/-- The same bytes once more, but for one. -/
theorem put_turned {u n f t : Int} {O P : List UInt8} (hok : (fullB u n f t O).ok) (hl : t ≤ O.length) (hP : P.length = O.length) (k : Nat) (hk : k < O.length) (hsame : ∀ z, z ≠ k → P[z]? = O[z]?) (hne : P[k]? ≠ O[k]?) :
    (fullB u n f t O).put 0 P = fullB u n f t O ∧ (fullB u n f t O).putN 0 P = 0 ∧ (fullB u n f t O).putE 0 P = if f ≤ (k : Int) ∧ (k : Int) < t then 12 else 0 := by
  have f0 : 0 ≤ f := hok.f0
  have ft : f < t := hok.ft
  have t1 : t ≤ 1099511627776 := hok.t1
  have hsk : (⟨f, t⟩ : Sp).ok := ⟨f0, ft, by show t ≤ _; omega⟩
  have hx : (fullB u n f t O).x 0 = f := by unfold Bf.x fullB; simp; omega
  have hy : (fullB u n f t O).y 0 P = t := by unfold Bf.y fullB; simp; omega
  have hcl : (fullB u n f t O).clash 0 P ↔ (f ≤ (k : Int) ∧ (k : Int) < t) := by
    constructor
    · rintro ⟨z, hz, z1, z2, hne2⟩
      rw [hx] at z1
      rw [hy] at z2
      have hg : (fullB u n f t O).bs[(z - (fullB u n f t O).f).toNat]? = O[z.toNat]? := full_get f0 z1 z2
      rw [hg, Int.sub_zero] at hne2
      have : z.toNat = k := by
        by_cases h : z.toNat = k
        · exact h
        · exact absurd (hsame _ h).symm hne2
      omega
    · rintro ⟨k1, k2⟩
      refine ⟨k, ⟨⟨f, t⟩, by simp [fullB], k1, k2⟩, by rw [hx]; exact k1, by rw [hy]; exact k2, ?_⟩
      have hg : (fullB u n f t O).bs[((k : Int) - (fullB u n f t O).f).toNat]? = O[(k : Int).toNat]? := full_get f0 k1 k2
      rw [hg, Int.sub_zero]
      simpa using hne.symm
  by_cases hc : (fullB u n f t O).clash 0 P
  · have hb := hcl.1 hc
    refine ⟨by unfold Bf.put; rw [if_pos (.inr (.inr hc))], by unfold Bf.putN; rw [if_pos (.inr (.inr hc))], ?_⟩
    unfold Bf.putE
    rw [if_neg (by omega), if_neg (by rw [hx, hy]; omega), if_pos hc, if_pos hb]
  · have hb : ¬ (f ≤ (k : Int) ∧ (k : Int) < t) := fun h => hc (hcl.2 h)
    have h3 : ¬ ((0 : Int) < 0 ∨ (fullB u n f t O).y 0 P ≤ (fullB u n f t O).x 0 ∨ (fullB u n f t O).clash 0 P) := by
      rw [hx, hy]
      rintro (h | h | h)
      · omega
      · omega
      · exact hc h
    have hbs : (P.drop f.toNat).take (t - f).toNat = (O.drop f.toNat).take (t - f).toNat := by
      apply List.ext_getElem?
      intro i
      rw [List.getElem?_take, List.getElem?_take]
      split
      · rw [List.getElem?_drop, List.getElem?_drop]
        exact hsame _ (by omega)
      · rfl
    refine ⟨?_, ?_, ?_⟩
    · unfold Bf.put
      rw [if_neg h3, hx, hy, Int.sub_zero]
      show { fullB u n f t O with bs := splice ((O.drop f.toNat).take (t - f).toNat) (f - f).toNat ((P.drop f.toNat).take (t - f).toNat), hs := orS [⟨f, t⟩] [⟨f, t⟩] } = _
      rw [hbs, or_self hsk, Int.sub_self]
      have hlen : ((O.drop f.toNat).take (t - f).toNat).length = (t - f).toNat := by simp; omega
      have : splice ((O.drop f.toNat).take (t - f).toNat) (0 : Int).toNat ((O.drop f.toNat).take (t - f).toNat) = (O.drop f.toNat).take (t - f).toNat := splice_self _
      rw [this]
      rfl
    · unfold Bf.putN
      rw [if_neg h3, hx, hy]
      show t - f - lenS (andS [⟨f, t⟩] [⟨f, t⟩]) = 0
      rw [and_self' hsk, len_one t1]
      show t - f - (t - f) = 0
      omega
    · unfold Bf.putE
      rw [if_neg (by omega), if_neg (by rw [hx, hy]; omega), if_neg hc, if_neg hb]

theorem cut_bounds {no u n : Int} (h : spanOk no u n = true) : 0 ≤ no * u ∧ no * u < cutE no u n ∧ cutE no u n ≤ no * u + u ∧ cutE no u n ≤ 1099511627776 ∧ (n ≠ -1 → cutE no u n ≤ n) ∧ 1 ≤ u ∧ no ≤ no * u := by
  have hb : unitB u = true ∧ lengthB n = true ∧ 0 ≤ no ∧ no < 1099511627776 / u ∧ no * u < cutE no u n := by
    unfold spanOk at h
    simpa using h
  obtain ⟨b1, b2, b3, b4, b5⟩ := hb
  obtain ⟨m1, m2, m3, m4⟩ := no_bound b1 b3 b4
  have m5 : (no + 1) * u = no * u + u := by rw [Int.add_mul, Int.one_mul]
  have := (unit_bound b1).1
  refine ⟨m1, b5, ?_, ?_, ?_, this, m4⟩ <;> (unfold cutE; split <;> omega)
/-- What New makes. -/
def newB (no u n : Int) : Bf := ⟨u, n, no * u, cutE no u n, List.replicate (cutE no u n - no * u).toNat 0, []⟩
theorem new_ok {no u n : Int} (h : spanOk no u n = true) (hu : u ≤ 64) : (newB no u n).ok := by
  obtain ⟨c0, c1, c2, c3, _, c5, _⟩ := cut_bounds h
  refine ⟨by show u ≠ 0; omega, c0, c1, c3, ?_, ?_, norm_nil, fun s hs => (by cases hs), by simp [newB]⟩
  · simp only [newB, List.length_replicate]; omega
  · simp only [newB, List.length_replicate]; omega
theorem put_new {no u : Int} {O : List UInt8} (h : spanOk no u O.length = true) (hu : u ≤ 64) :
    (newB no u O.length).put 0 O = fullB u O.length (no * u) (cutE no u O.length) O ∧ (newB no u O.length).putE 0 O = 0 ∧ (newB no u O.length).putN 0 O = cutE no u O.length - no * u := by
  obtain ⟨c0, c1, c2, c3, c4, c5, _⟩ := cut_bounds h
  have c4' := c4 (by omega)
  obtain ⟨h1, h2, h3⟩ := put_first (new_ok h hu) rfl O (show no * u < O.length by omega)
  have hm : min (O.length : Int) (newB no u O.length).t = cutE no u O.length := by show min (O.length : Int) (cutE no u O.length) = _; omega
  rw [hm] at h1 h3
  refine ⟨?_, h2, h3⟩
  rw [h1]
  show (⟨u, O.length, no * u, cutE no u O.length, splice (List.replicate (cutE no u O.length - no * u).toNat 0) 0 ((O.drop (no * u).toNat).take (cutE no u O.length - no * u).toNat), [⟨no * u, cutE no u O.length⟩]⟩ : Bf) = _
  rw [splice_full c0 c1 c4']
  rfl
theorem full_new_ok {no u : Int} {O : List UInt8} (h : spanOk no u O.length = true) (hu : u ≤ 64) : (fullB u O.length (no * u) (cutE no u O.length) O).ok := by
  rw [← (put_new h hu).1]
  exact put_ok (new_ok h hu) _ _
theorem wrap_next (x : UInt8) : IntKind.u8.wrap ((x.toNat : Int) + 1) = ((x + 1).toNat : Int) := by
  have h := x.toNat_lt
  have e1 : IntKind.u8.wrap ((x.toNat : Int) + 1) = ((x.toNat : Int) + 1) % 256 := by
    rfl
  rw [e1, UInt8.toNat_add]
  simp
theorem next_ne (x : UInt8) : x + 1 ≠ x := by
  intro h
  have h2 := congrArg UInt8.toNat h
  have h3 := x.toNat_lt
  rw [UInt8.toNat_add] at h2
  simp at h2
  omega
theorem bytes_reads {w : World} {A : Option Addr} {l : List UInt8} (h : BytesAt w A l) : Reads w w.heap.size 1 A l.length (bytesL l) := by
  refine ⟨by rw [bytesL_length, Nat.mul_one], fun h0 => ?_⟩
  obtain ⟨b, o, rfl, hp⟩ := h.at_ h0
  refine ⟨_, rfl, block_of_cell (hp 0 h0), fun j u hu => ?_⟩
  have hj : j < l.length := by rw [← bytesL_length]; exact (List.getElem?_eq_some_iff.1 hu).1
  rw [add_plain]
  simp only [bytesL, List.getElem?_map, List.getElem?_eq_getElem hj, Option.map_some, Option.some.injEq] at hu
  rw [← hu]
  exact hp j hj
theorem bytesL_set (l : List UInt8) (k : Nat) (x : UInt8) : (bytesL l).set k (.int .u8 (x.toNat : Int)) = bytesL (l.set k x) := by
  unfold bytesL
  rw [List.map_set]
end Go.Proofs.Ytoahjhkfnchdhaa
