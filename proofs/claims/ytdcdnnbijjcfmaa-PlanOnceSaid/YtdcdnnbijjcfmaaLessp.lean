/- What a set has and another one hasn't, span by span: plain, no program in sight. -/
import Derived.Test.YtdcdnnbijjcfmaaSets
namespace Go.Proofs.Ytdcdnnbijjcfmaa

/-- Behind the spans T of the first one. -/
def LessO (T b M : List Sp) (i j p : Nat) : Prop :=
  j ≤ b.length ∧ Norm M ∧ M.length ≤ i + p ∧ p ≤ b.length ∧ (∀ y, Mem M y ↔ Mem T y ∧ ¬ Mem b y) ∧
  ∀ x, (∀ u ∈ T, u.t < x) → (∀ q (h : q < b.length), q < p → b[q].f ≤ x) ∧ (∀ u ∈ M, u.t < x) ∧ (∀ q (h : q < b.length), q < j → b[q].t ≤ x)
/-- Within a span x. -/
def LessK (T : List Sp) (x : Sp) (b M : List Sp) (i : Nat) (at_ : Int) (k p : Nat) : Prop :=
  k ≤ b.length ∧ Norm M ∧ M.length ≤ i + p ∧ p ≤ b.length ∧ (∀ y, Mem M y ↔ (Mem T y ∨ (x.f ≤ y ∧ y < at_ ∧ y < x.t)) ∧ ¬ Mem b y) ∧
  (∀ q (h : q < b.length), q < p → b[q].f ≤ at_ ∧ b[q].f ≤ x.t) ∧ x.f ≤ at_ ∧ (∀ u ∈ M, u.t < at_ ∧ u.t < x.t) ∧ (∀ q (h : q < b.length), q < k → b[q].t ≤ at_)
theorem less_start {T b M : List Sp} {i j p : Nat} {x : Sp} (hx : x.ok) (hT : ∀ u ∈ T, u.t < x.f) (h : LessO T b M i j p) (j' : Nat) (hj : j' ≤ b.length) (hj2 : ∀ q (h : q < b.length), q < j' → b[q].t ≤ x.f) : LessK T x b M i x.f j' p := by
  obtain ⟨h1, h2, h3, h4, h5, h6⟩ := h
  obtain ⟨a1, a2, a3⟩ := h6 x.f hT
  have hxx := hx.2.1
  refine ⟨hj, h2, h3, h4, fun y => ?_, fun q hq hqp => ⟨a1 q hq hqp, by have := a1 q hq hqp; omega⟩, Int.le_refl _, fun u hu => ⟨a2 u hu, by have := a2 u hu; omega⟩, hj2⟩
  rw [h5]
  constructor
  · rintro ⟨a, c⟩; exact ⟨.inl a, c⟩
  · rintro ⟨a | ⟨a, c, _⟩, d⟩
    · exact ⟨a, d⟩
    · omega
theorem norm_lt' {b : List Sp} (hb : Norm b) {q k : Nat} (hk : k < b.length) (h : q < k) : b[q].t < b[k].f := hb.lt h hk
theorem not_mem_between {b : List Sp} (hb : Norm b) {k : Nat} (hk : k ≤ b.length) {lo hi : Int} (h1 : ∀ q (h : q < b.length), q < k → b[q].t ≤ lo) (h2 : ∀ h : k < b.length, hi ≤ b[k].f) {y : Int} (hy : lo ≤ y ∧ y < hi) : ¬ Mem b y := by
  rintro ⟨s, hs, hsy⟩
  obtain ⟨q, hq, rfl⟩ := List.mem_iff_getElem.1 hs
  rcases Nat.lt_or_ge q k with h | h
  · have := h1 q hq h; omega
  · have hk2 : k < b.length := by omega
    have h3 := h2 hk2
    rcases Nat.lt_or_ge k q with h4 | h4
    · have h5 := hb.lt h4 hq
      have h6 := (hb.get hk2).2.1
      omega
    · obtain rfl : q = k := by omega
      omega
/-- The next span of the other one begins behind at: what lies between goes out. -/
theorem less_put {T b M : List Sp} {i k p : Nat} {x : Sp} {at_ : Int} (hb : Norm b) (hx : x.ok) (_hT : ∀ u ∈ T, u.t < x.f) (h : LessK T x b M i at_ k p) (hk : k < b.length) (hlt : b[k].f < x.t) (hgt : at_ < b[k].f) : LessK T x b (M ++ [⟨at_, b[k].f⟩]) i (max at_ b[k].t) (k + 1) (k + 1) := by
  obtain ⟨h1, h2, h3, h4, h5, h6, h7, h8, h9⟩ := h
  obtain ⟨b1, b2, b3⟩ := hb.get hk
  obtain ⟨x1, x2, x3⟩ := hx
  have hpk : p ≤ k := by
    rcases Nat.lt_or_ge k p with hh | hh
    · have := (h6 k hk hh).1; omega
    · exact hh
  refine ⟨hk, norm_snoc.2 ⟨h2, ⟨by show 0 ≤ at_; omega, hgt, by show b[k].f ≤ _; omega⟩, fun u hu => (h8 u hu).1⟩, by simp; omega, hk, fun y => ?_, fun q hq hqp => ?_, by omega, fun u hu => ?_, fun q hq hqk => ?_⟩
  · rw [mem_append, h5]
    have hbet : at_ ≤ y ∧ y < b[k].f → ¬ Mem b y := fun hy => not_mem_between hb h1 h9 (fun _ => Int.le_refl _) hy
    have hself : b[k].f ≤ y → y < b[k].t → Mem b y := fun a c => ⟨b[k], List.getElem_mem hk, a, c⟩
    have hone : Mem [(⟨at_, b[k].f⟩ : Sp)] y ↔ at_ ≤ y ∧ y < b[k].f := by simp [Mem]
    rw [hone]
    constructor
    · rintro (⟨a | a, c⟩ | a)
      · exact ⟨.inl a, c⟩
      · exact ⟨.inr (by omega), c⟩
      · exact ⟨.inr (by omega), hbet a⟩
    · rintro ⟨a | a, c⟩
      · exact .inl ⟨.inl a, c⟩
      · by_cases hy : y < at_
        · exact .inl ⟨.inr (by omega), c⟩
        · by_cases hy2 : y < b[k].f
          · exact .inr (by omega)
          · exact absurd (hself (by omega) (by omega)) c
  · rcases Nat.lt_or_ge q k with hh | hh
    · have h10 := hb.lt hh hk
      have h11 := (hb.get hq).2.1
      omega
    · obtain rfl : q = k := by omega
      omega
  · rcases List.mem_append.1 hu with hu | hu
    · have := h8 u hu; omega
    · simp at hu; subst hu; show b[k].f < _ ∧ b[k].f < _; omega
  · rcases Nat.lt_or_ge q k with hh | hh
    · have := h9 q hq hh; omega
    · obtain rfl : q = k := by omega
      omega
theorem less_skip {T b M : List Sp} {i k p : Nat} {x : Sp} {at_ : Int} (h : LessK T x b M i at_ k p) (hk : k < b.length) (hle : b[k].f ≤ at_) : LessK T x b M i (max at_ b[k].t) (k + 1) p := by
  obtain ⟨h1, h2, h3, h4, h5, h6, h7, h8, h9⟩ := h
  refine ⟨hk, h2, h3, h4, fun y => ?_, fun q hq hqp => by have := h6 q hq hqp; omega, by omega, fun u hu => by have := h8 u hu; omega, fun q hq hqk => ?_⟩
  · rw [h5]
    have hself : b[k].f ≤ y → y < b[k].t → Mem b y := fun a c => ⟨b[k], List.getElem_mem hk, a, c⟩
    constructor
    · rintro ⟨a | a, c⟩
      · exact ⟨.inl a, c⟩
      · exact ⟨.inr (by omega), c⟩
    · rintro ⟨a | a, c⟩
      · exact ⟨.inl a, c⟩
      · by_cases hy : y < at_
        · exact ⟨.inr (by omega), c⟩
        · exact absurd (hself (by omega) (by omega)) c
  · rcases Nat.lt_or_ge q k with hh | hh
    · have := h9 q hq hh; omega
    · obtain rfl : q = k := by omega
      omega
theorem less_last {T b M : List Sp} {i j k p : Nat} {x : Sp} {at_ : Int} (hb : Norm b) (hx : x.ok) (h : LessK T x b M i at_ k p) (hk : ∀ h : k < b.length, x.t ≤ b[k].f) (hj : j ≤ b.length) (hj2 : ∀ q (h : q < b.length), q < j → b[q].t ≤ x.f) :
    LessO (T ++ [x]) b (if at_ < x.t then M ++ [⟨at_, x.t⟩] else M) (i + 1) j p := by
  obtain ⟨h1, h2, h3, h4, h5, h6, h7, h8, h9⟩ := h
  obtain ⟨x1, x2, x3⟩ := hx
  have hTx : ∀ z, (∀ u ∈ T ++ [x], u.t < z) → x.t < z := fun z hz => hz x (by simp)
  by_cases hlt : at_ < x.t
  · rw [if_pos hlt]
    refine ⟨hj, norm_snoc.2 ⟨h2, ⟨by show 0 ≤ at_; omega, hlt, x3⟩, fun u hu => (h8 u hu).1⟩, by simp; omega, h4, fun y => ?_, fun z hz => ?_⟩
    · have hone : Mem [(⟨at_, x.t⟩ : Sp)] y ↔ at_ ≤ y ∧ y < x.t := by simp [Mem]
      have honx : Mem [x] y ↔ x.f ≤ y ∧ y < x.t := by simp [Mem]
      have hbet : at_ ≤ y ∧ y < x.t → ¬ Mem b y := fun hy => not_mem_between hb h1 h9 hk hy
      rw [mem_append, mem_append, h5, hone, honx]
      constructor
      · rintro (⟨a | a, c⟩ | a)
        · exact ⟨.inl a, c⟩
        · exact ⟨.inr (by omega), c⟩
        · exact ⟨.inr (by omega), hbet a⟩
      · rintro ⟨a | a, c⟩
        · exact .inl ⟨.inl a, c⟩
        · by_cases hy : y < at_
          · exact .inl ⟨.inr (by omega), c⟩
          · exact .inr (by omega)
    · have hz2 := hTx z hz
      refine ⟨fun q hq hqp => by have := h6 q hq hqp; omega, fun u hu => ?_, fun q hq hqj => by have := hj2 q hq hqj; omega⟩
      rcases List.mem_append.1 hu with hu | hu
      · have := h8 u hu; omega
      · simp at hu; subst hu; exact hz2
  · rw [if_neg hlt]
    refine ⟨hj, h2, by omega, h4, fun y => ?_, fun z hz => ?_⟩
    · have honx : Mem [x] y ↔ x.f ≤ y ∧ y < x.t := by simp [Mem]
      rw [mem_append, h5, honx]
      constructor
      · rintro ⟨a | a, c⟩
        · exact ⟨.inl a, c⟩
        · exact ⟨.inr (by omega), c⟩
      · rintro ⟨a | a, c⟩
        · exact ⟨.inl a, c⟩
        · exact ⟨.inr (by omega), c⟩
    · have hz2 := hTx z hz
      exact ⟨fun q hq hqp => by have := h6 q hq hqp; omega, fun u hu => by have := h8 u hu; omega, fun q hq hqj => by have := hj2 q hq hqj; omega⟩
theorem less_nil (b : List Sp) : LessO [] b [] 0 0 0 := ⟨Nat.zero_le _, norm_nil, by simp, Nat.zero_le _, by simp [Mem], fun x _ => ⟨fun _ _ h => absurd h (by omega), by simp, fun _ _ h => absurd h (by omega)⟩⟩
theorem less_end {a b M : List Sp} {i j p : Nat} (ha : Norm a) (hb : Norm b) (h : LessO a b M i j p) : M = lessS a b :=
  norm_ext h.2.1 (norm_less a b) fun x => by rw [mem_less ha hb]; exact h.2.2.2.2.1 x
end Go.Proofs.Ytdcdnnbijjcfmaa
