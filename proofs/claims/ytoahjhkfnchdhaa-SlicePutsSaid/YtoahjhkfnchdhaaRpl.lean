/- The program's buffer and the reference's, side by side: plain. -/
import Derived.Test.YtoahjhkfnchdhaaLawQ
namespace Go.Proofs.Ytoahjhkfnchdhaa
open Go.RowKit

/-- The reference's buffer. -/
structure Rb where
  no : Int
  u : Int
  n : Int
  bs : List Int
/-- What the reference has at a place. -/
def valB (B : Bf) (i : Nat) : Int := if memB B.hs (B.f + i) = true then ((B.bs[i]?.getD 0).toNat : Int) else -1
structure Rel (B : Bf) (R : Rb) : Prop where
  ok : B.ok
  u : B.u = R.u
  n : B.n = R.n
  f : B.f = R.no * R.u
  so : spanOk R.no R.u R.n = true
  t : B.t = cutE R.no R.u R.n
  len : (R.bs.length : Int) = R.u
  u64 : R.u ≤ 64
  val : ∀ i (h : i < R.bs.length), R.bs[i] = valB B i
  bl : B.bs.length ≤ R.bs.length
theorem rel_new {no u n : Int} (h : spanOk no u n = true) (hu : u ≤ 64) : Rel (newB no u n) ⟨no, u, n, List.replicate u.toNat (-1)⟩ := by
  obtain ⟨c0, c1, c2, c3, _, c5, _⟩ := cut_bounds h
  refine ⟨new_ok h hu, rfl, rfl, rfl, h, rfl, ?_, hu, ?_, ?_⟩
  · simp only [List.length_replicate]; omega
  · intro i hi
    simp only [List.getElem_replicate]
    rfl
  · simp only [newB, List.length_replicate]; omega
theorem Rel.ends {B : Bf} {R : Rb} (h : Rel B R) : 0 ≤ B.f ∧ B.f < B.t ∧ B.t ≤ B.f + R.u ∧ B.t ≤ 1099511627776 ∧ 1 ≤ R.u := by
  obtain ⟨c0, c1, c2, c3, _, c5, _⟩ := cut_bounds h.so
  have := h.f
  have := h.t
  omega
theorem Rel.neg {B : Bf} {R : Rb} (h : Rel B R) {i : Nat} (hi : i < R.bs.length) : R.bs[i] < 0 ↔ ¬ Mem B.hs (B.f + i) := by
  rw [h.val i hi]
  unfold valB
  by_cases hm : memB B.hs (B.f + i) = true
  · rw [if_pos hm]
    have := memB_iff.1 hm
    constructor
    · intro hc; omega
    · intro hc; exact absurd this hc
  · rw [if_neg hm]
    exact ⟨fun _ hc => hm (memB_iff.2 hc), fun _ => by omega⟩
theorem Rel.pos {B : Bf} {R : Rb} (h : Rel B R) {i : Nat} (hi : i < R.bs.length) (hm : Mem B.hs (B.f + i)) : ∃ b, B.bs[i]? = some b ∧ R.bs[i] = (b.toNat : Int) := by
  obtain ⟨m1, m2⟩ := mem_of_lies h.ok.lies _ hm
  have hl := h.ok.len
  have hib : i < B.bs.length := by omega
  refine ⟨B.bs[i], List.getElem?_eq_getElem hib, ?_⟩
  rw [h.val i hi]
  unfold valB
  rw [if_pos (memB_iff.2 hm), List.getElem?_eq_getElem hib]
  rfl

/-- What lies in the reference's list behind so many bytes of p. -/
def nextV (B : Bf) (R : Rb) (a : Int) (p : List UInt8) (m : Nat) (k : Nat) : Int :=
  if a ≤ B.f + k ∧ B.f + k < a + m ∧ B.f + k < B.t then ((p[(B.f + k - a).toNat]?.getD 0).toNat : Int) else R.bs.getD k 0
/-- No byte that is there comes otherwise, of the first ones. -/
def quiet (B : Bf) (a : Int) (p : List UInt8) (m : Nat) : Prop := ∀ z, Mem B.hs z → a ≤ z → z < a + m → B.bs[(z - B.f).toNat]? = p[(z - a).toNat]?
/-- How many new ones. -/
def newC (B : Bf) (a : Int) (m : Nat) : Int := cnt (fun z => !memB B.hs z) (B.x a) (min (a + m) B.t - B.x a).toNat
theorem quiet_zero (B : Bf) (a : Int) (p : List UInt8) : quiet B a p 0 := fun z _ h1 h2 => by omega
theorem newC_zero {B : Bf} {a : Int} : newC B a 0 = 0 := by
  unfold newC
  have : (min (a + ((0 : Nat) : Int)) B.t - B.x a).toNat = 0 := by unfold Bf.x; omega
  rw [this]
  rfl
theorem newC_step {B : Bf} {a : Int} {m : Nat} (h1 : B.f ≤ a + m) (h2 : a + m < B.t) (ha : 0 ≤ a) : newC B a (m + 1) = newC B a m + b01 (!memB B.hs (a + m)) := by
  unfold newC
  have e : (min (a + ((m + 1 : Nat) : Int)) B.t - B.x a).toNat = (min (a + (m : Int)) B.t - B.x a).toNat + 1 := by unfold Bf.x; omega
  rw [e, cnt_add]
  have e2 : B.x a + ((min (a + (m : Int)) B.t - B.x a).toNat : Int) = a + m := by unfold Bf.x; omega
  rw [e2]
  simp only [cnt]
  omega
theorem newC_skip {B : Bf} {a : Int} {m : Nat} (h : ¬ (B.f ≤ a + m ∧ a + m < B.t)) : newC B a (m + 1) = newC B a m := by
  unfold newC
  have e : (min (a + ((m + 1 : Nat) : Int)) B.t - B.x a).toNat = (min (a + (m : Int)) B.t - B.x a).toNat := by unfold Bf.x; omega
  rw [e]
theorem newC_bound {B : Bf} {a : Int} {m : Nat} : 0 ≤ newC B a m ∧ newC B a m ≤ m := by
  have d : ∀ (P : Int → Bool) (k : Nat) (G : Int), 0 ≤ cnt P G k ∧ cnt P G k ≤ k := by
    intro P k
    induction k with
    | zero => intro G; simp [cnt]
    | succ k ih =>
      intro G
      simp only [cnt]
      have := ih (G + 1)
      cases P G <;> simp only [b01] <;> omega
  have := d (fun z => !memB B.hs z) (min (a + (m : Int)) B.t - B.x a).toNat (B.x a)
  unfold newC
  refine ⟨this.1, Int.le_trans this.2 ?_⟩
  unfold Bf.x
  omega
theorem nextV_zero (B : Bf) (R : Rb) (a : Int) (p : List UInt8) (k : Nat) : nextV B R a p 0 k = R.bs.getD k 0 := by
  unfold nextV
  rw [if_neg (by omega)]
theorem nextV_skip {B : Bf} {R : Rb} {a : Int} {p : List UInt8} {m : Nat} (h : ¬ (B.f ≤ a + m ∧ a + m < B.t)) (k : Nat) : nextV B R a p (m + 1) k = nextV B R a p m k := by
  unfold nextV
  by_cases h1 : a ≤ B.f + k ∧ B.f + k < a + m ∧ B.f + k < B.t
  · rw [if_pos h1, if_pos (by omega)]
  · rw [if_neg h1, if_neg (by omega)]
theorem nextV_step {B : Bf} {R : Rb} {a : Int} {p : List UInt8} {m j : Nat} (hj : B.f + j = a + m) (h2 : a + m < B.t) (hm : m < p.length) (k : Nat) : nextV B R a p (m + 1) k = if k = j then ((p[m]).toNat : Int) else nextV B R a p m k := by
  by_cases hk : k = j
  · subst hk
    rw [if_pos rfl]
    unfold nextV
    rw [if_pos (by omega), show (B.f + (k : Int) - a).toNat = m by omega, List.getElem?_eq_getElem hm]
    rfl
  · rw [if_neg hk]
    unfold nextV
    by_cases h1 : a ≤ B.f + k ∧ B.f + k < a + m ∧ B.f + k < B.t
    · rw [if_pos h1, if_pos (by omega)]
    · rw [if_neg h1, if_neg (by omega)]
theorem nextV_now {B : Bf} {R : Rb} {a : Int} {p : List UInt8} {m j : Nat} (hj : B.f + j = a + m) : nextV B R a p m j = R.bs.getD j 0 := by
  unfold nextV
  rw [if_neg (by omega)]
theorem quiet_step {B : Bf} {a : Int} {p : List UInt8} {m : Nat} (h : quiet B a p m) (hz : Mem B.hs (a + m) → B.bs[(a + m - B.f).toNat]? = p[m]?) : quiet B a p (m + 1) := fun z hm z1 z2 => by
  by_cases hc : z < a + m
  · exact h z hm z1 hc
  · obtain rfl : z = a + m := by omega
    rw [hz hm, show (a + (m : Int) - a).toNat = m by omega]
theorem clash_now {B : Bf} {R : Rb} (hr : Rel B R) {a : Int} {p : List UInt8} {m : Nat} (ha : 0 ≤ a) (hm : m < p.length) (hz : Mem B.hs (a + m)) (hne : B.bs[(a + m - B.f).toNat]? ≠ p[m]?) :
    B.putE a p = 12 ∧ B.putN a p = 0 ∧ B.put a p = B := by
  obtain ⟨m1, m2⟩ := mem_of_lies hr.ok.lies _ hz
  have hx : B.x a = max a B.f := rfl
  have hy : B.y a p = min (a + p.length) B.t := rfl
  have hc : B.clash a p := ⟨a + m, hz, by omega, by omega, by rw [show (a + (m : Int) - a).toNat = m by omega]; exact hne⟩
  refine ⟨?_, ?_, ?_⟩
  · unfold Bf.putE; rw [if_neg (by omega), if_neg (by omega), if_pos hc]
  · unfold Bf.putN; rw [if_pos (.inr (.inr hc))]
  · unfold Bf.put; rw [if_pos (.inr (.inr hc))]
/-- All bytes of p were gone through: what the reference has then. -/
theorem put_done {B : Bf} {R : Rb} (hr : Rel B R) {a : Int} {p : List UInt8} (ha : 0 ≤ a) (hq : quiet B a p p.length) (L : List Int) (hL : L.length = R.bs.length) (hv : ∀ k (h : k < L.length), L[k] = nextV B R a p p.length k) :
    B.putE a p = 0 ∧ B.putN a p = newC B a p.length ∧ Rel (B.put a p) { R with bs := L } := by
  obtain ⟨e0, e1, e2, e3, e4⟩ := hr.ends
  have hx : B.x a = max a B.f := rfl
  have hy : B.y a p = min (a + p.length) B.t := rfl
  have hok := hr.ok
  have hle := hok.len
  have hRl := hr.len
  have hncl : ¬ B.clash a p := by
    rintro ⟨z, hz, z1, z2, hne⟩
    exact hne (hq z hz (by omega) (by omega))
  have hput := put_ok hok a p
  by_cases hxy : B.x a < B.y a p
  · have h3 : ¬ (a < 0 ∨ B.y a p ≤ B.x a ∨ B.clash a p) := by
      rintro (h | h | h)
      · omega
      · omega
      · exact hncl h
    have hsk : (⟨B.x a, B.y a p⟩ : Sp).ok := ⟨by show 0 ≤ B.x a; omega, hxy, by show B.y a p ≤ _; omega⟩
    have hN : B.putN a p = B.y a p - B.x a - lenS (andS [⟨B.x a, B.y a p⟩] B.hs) := by unfold Bf.putN; rw [if_neg h3]
    have hP : B.put a p = { B with bs := splice B.bs (B.x a - B.f).toNat ((p.drop (B.x a - a).toNat).take (B.y a p - B.x a).toNat), hs := orS B.hs [⟨B.x a, B.y a p⟩] } := by unfold Bf.put; rw [if_neg h3]
    have hcl : ((p.drop (B.x a - a).toNat).take (B.y a p - B.x a).toNat).length = (B.y a p - B.x a).toNat := by rw [List.length_take, List.length_drop]; omega
    have hmem : ∀ z, Mem (orS B.hs [⟨B.x a, B.y a p⟩]) z ↔ Mem B.hs z ∨ (B.x a ≤ z ∧ z < B.y a p) := fun z => by rw [mem_or hok.norm (norm_one hsk), mem_single]
    have hsl : (splice B.bs (B.x a - B.f).toNat ((p.drop (B.x a - a).toNat).take (B.y a p - B.x a).toNat)).length = B.bs.length := length_splice _ _ _ (by rw [hcl]; omega)
    have htl : (B.bs.take (B.x a - B.f).toNat).length = (B.x a - B.f).toNat := by rw [List.length_take]; omega
    have hg1 : ∀ i : Nat, B.x a ≤ B.f + i → B.f + i < B.y a p → (splice B.bs (B.x a - B.f).toNat ((p.drop (B.x a - a).toNat).take (B.y a p - B.x a).toNat))[i]? = p[(B.f + i - a).toNat]? := fun i i1 i2 => by
      unfold splice
      rw [List.getElem?_append_right (by rw [htl]; omega), htl, List.getElem?_append_left (by rw [hcl]; omega), List.getElem?_take, if_pos (by omega), List.getElem?_drop]
      congr 1
      omega
    have hg2 : ∀ i : Nat, ¬ (B.x a ≤ B.f + i ∧ B.f + i < B.y a p) → (splice B.bs (B.x a - B.f).toNat ((p.drop (B.x a - a).toNat).take (B.y a p - B.x a).toNat))[i]? = B.bs[i]? := fun i hi => by
      unfold splice
      by_cases hlt : B.f + i < B.x a
      · rw [List.getElem?_append_left (by rw [htl]; omega), List.getElem?_take, if_pos (by omega)]
      · rw [List.getElem?_append_right (by rw [htl]; omega), htl, List.getElem?_append_right (by rw [hcl]; omega), hcl, List.getElem?_drop]
        congr 1
        omega
    refine ⟨?_, ?_, ?_⟩
    · unfold Bf.putE
      rw [if_neg (by omega), if_neg (by omega), if_neg hncl]
    · rw [hN]
      have hna := norm_and [⟨B.x a, B.y a p⟩] B.hs
      have hla := lies_of_mem hna (B.x a) (B.y a p) (fun z hz => by
        rw [mem_and (norm_one hsk) hok.norm, mem_single] at hz
        exact hz.1)
      rw [len_sum (fun s hs => by have := (hla s hs).2; omega)]
      have hnn : (min (a + (p.length : Int)) B.t - B.x a).toNat = (B.y a p - B.x a).toNat := by rw [hy]
      unfold newC
      rw [hnn]
      obtain ⟨n, hn⟩ : ∃ n : Nat, B.y a p - B.x a = n := ⟨(B.y a p - B.x a).toNat, by omega⟩
      rw [show (B.y a p - B.x a).toNat = n by omega]
      rw [sum_cnt _ hna (B.x a) n fun s hs => ⟨(hla s hs).1, by have := (hla s hs).2; omega⟩]
      have c8 : cnt (memB (andS [⟨B.x a, B.y a p⟩] B.hs)) (B.x a) n = cnt (memB B.hs) (B.x a) n := cnt_congr fun z z1 z2 => by
        rw [Bool.eq_iff_iff, memB_iff, memB_iff, mem_and (norm_one hsk) hok.norm, mem_single]
        exact ⟨fun h => h.2, fun h => ⟨⟨z1, by show z < B.y a p; omega⟩, h⟩⟩
      have c9 : ∀ (P : Int → Bool) (k : Nat) (G : Int), cnt (fun z => !P z) G k + cnt P G k = k := by
        intro P k
        induction k with
        | zero => intro G; simp [cnt]
        | succ k ih =>
          intro G
          simp only [cnt]
          have := ih (G + 1)
          cases P G <;> simp only [b01, Bool.not_true, Bool.not_false] <;> omega
      have := c9 (memB B.hs) n (B.x a)
      rw [c8]
      omega
    · rw [hP] at hput ⊢
      refine ⟨hput, hr.u, hr.n, hr.f, hr.so, hr.t, by show (L.length : Int) = R.u; rw [hL]; exact hr.len, hr.u64, ?_, by show (splice _ _ _).length ≤ L.length; rw [hsl, hL]; exact hr.bl⟩
      intro i hi
      have hi' : i < L.length := hi
      show L[i] = valB _ i
      rw [hv i hi']
      unfold valB nextV
      show _ = if memB (orS B.hs [⟨B.x a, B.y a p⟩]) (B.f + i) = true then ((((splice B.bs (B.x a - B.f).toNat ((p.drop (B.x a - a).toNat).take (B.y a p - B.x a).toNat))[i]?).getD 0).toNat : Int) else -1
      by_cases hin : B.x a ≤ B.f + i ∧ B.f + i < B.y a p
      · rw [if_pos (by omega), if_pos (memB_iff.2 ((hmem _).2 (.inr hin))), hg1 i hin.1 hin.2]
      · rw [if_neg (by omega), hg2 i hin]
        have hb : memB (orS B.hs [⟨B.x a, B.y a p⟩]) (B.f + i) = memB B.hs (B.f + i) := by
          rw [Bool.eq_iff_iff, memB_iff, memB_iff, hmem]
          exact ⟨fun h => h.resolve_right hin, .inl⟩
        rw [hb]
        have hiR : i < R.bs.length := by omega
        have := hr.val i hiR
        unfold valB at this
        rw [List.getD_eq_getElem?_getD, List.getElem?_eq_getElem hiR]
        exact this
  · have h3 : (a < 0 ∨ B.y a p ≤ B.x a ∨ B.clash a p) := .inr (.inl (by omega))
    have hP : B.put a p = B := by unfold Bf.put; rw [if_pos h3]
    refine ⟨?_, ?_, ?_⟩
    · unfold Bf.putE; rw [if_neg (by omega), if_pos (by omega)]
    · unfold Bf.putN
      rw [if_pos h3]
      unfold newC
      rw [show (min (a + (p.length : Int)) B.t - B.x a).toNat = 0 by omega]
      rfl
    · rw [hP]
      have hLR : L = R.bs := by
        apply List.ext_getElem hL
        intro i h1 h2
        rw [hv i h1]
        unfold nextV
        rw [if_neg (by omega), List.getD_eq_getElem?_getD, List.getElem?_eq_getElem h2]
        rfl
      rw [hLR]
      exact ⟨hr.ok, hr.u, hr.n, hr.f, hr.so, hr.t, hr.len, hr.u64, hr.val, hr.bl⟩
end Go.Proofs.Ytoahjhkfnchdhaa
