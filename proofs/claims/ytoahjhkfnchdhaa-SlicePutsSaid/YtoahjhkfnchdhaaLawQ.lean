/- Pieces of one object, put one behind the other: plain. -/
import Derived.Test.YtoahjhkfnchdhaaLawP
namespace Go.Proofs.Ytoahjhkfnchdhaa
open Go.RowKit

def memB (l : List Sp) (x : Int) : Bool := l.any fun s => decide (s.f ≤ x) && decide (x < s.t)
theorem memB_iff {l : List Sp} {x : Int} : memB l x = true ↔ Mem l x := by simp [memB, Mem]
def b01 (b : Bool) : Int := match b with
  | true => 1
  | false => 0
/-- How many of so many numbers from one on are so. -/
def cnt (P : Int → Bool) : Int → Nat → Int
  | _, 0 => 0
  | F, n + 1 => b01 (P F) + cnt P (F + 1) n
theorem cnt_add (P : Int → Bool) (a b : Nat) (F : Int) : cnt P F (a + b) = cnt P F a + cnt P (F + a) b := by
  induction a generalizing F with
  | zero => simp [cnt]
  | succ a ih =>
    rw [show a + 1 + b = (a + b) + 1 by omega]
    simp only [cnt]
    rw [ih, show F + 1 + (a : Int) = F + ((a + 1 : Nat) : Int) by omega]
    omega
theorem cnt_congr {P Q : Int → Bool} {n : Nat} {F : Int} (h : ∀ z, F ≤ z → z < F + n → P z = Q z) : cnt P F n = cnt Q F n := by
  induction n generalizing F with
  | zero => rfl
  | succ n ih =>
    simp only [cnt]
    rw [h F (Int.le_refl _) (by omega), ih fun z h1 h2 => h z (by omega) (by omega)]
theorem cnt_false (n : Nat) (F : Int) : cnt (fun _ => false) F n = 0 := by
  induction n generalizing F with
  | zero => rfl
  | succ n ih => simp only [cnt]; rw [ih]; rfl
theorem cnt_true (n : Nat) (F : Int) : cnt (fun _ => true) F n = n := by
  induction n generalizing F with
  | zero => rfl
  | succ n ih => simp only [cnt]; rw [ih]; simp only [b01]; omega
theorem cnt_both (P Q : Int → Bool) (n : Nat) (F : Int) : cnt (fun z => P z || Q z) F n + cnt (fun z => P z && Q z) F n = cnt P F n + cnt Q F n := by
  induction n generalizing F with
  | zero => rfl
  | succ n ih =>
    simp only [cnt]
    have := ih (F + 1)
    cases P F <;> cases Q F <;> simp only [Bool.or_self, Bool.and_self, Bool.or_true, Bool.true_or, Bool.or_false, Bool.false_or, Bool.and_true, Bool.and_false, Bool.true_and, Bool.false_and, b01] <;> omega
theorem foldl_from (l : List Sp) (a : Int) : l.foldl (fun n s => n + (s.t - s.f)) a = a + sumS l := by
  induction l generalizing a with
  | nil => simp [sumS]
  | cons s l ih =>
    unfold sumS
    simp only [List.foldl_cons]
    rw [ih, ih (0 + (s.t - s.f))]
    omega
theorem sumS_cons (s : Sp) (l : List Sp) : sumS (s :: l) = (s.t - s.f) + sumS l := by
  show (s :: l).foldl _ 0 = _
  rw [List.foldl_cons, foldl_from]
  omega
theorem sum_cnt (l : List Sp) (hn : Norm l) (F : Int) (n : Nat) (h : ∀ s ∈ l, F ≤ s.f ∧ s.t ≤ F + n) : sumS l = cnt (memB l) F n := by
  induction l generalizing F n with
  | nil =>
    have : cnt (memB []) F n = cnt (fun _ => false) F n := cnt_congr fun _ _ _ => rfl
    rw [this, cnt_false]
    rfl
  | cons s l ih =>
    obtain ⟨h0, h1, h2⟩ := norm_cons.1 hn
    obtain ⟨b0, b1⟩ := h s (by simp)
    have hft := h0.2.1
    obtain ⟨a, ha⟩ : ∃ a : Nat, s.f - F = a := ⟨(s.f - F).toNat, by omega⟩
    obtain ⟨d, hd⟩ : ∃ d : Nat, s.t - s.f = d := ⟨(s.t - s.f).toNat, by omega⟩
    obtain ⟨r, hr⟩ : ∃ r : Nat, n = a + (d + r) := ⟨n - (a + d), by omega⟩
    rw [sumS_cons, ih h2 s.t r fun u hu => ⟨by have := h1 u hu; omega, by have := (h u (by simp [hu])).2; omega⟩, hr, cnt_add, cnt_add]
    have e1 : cnt (memB (s :: l)) F a = 0 := by
      rw [← cnt_false a F]
      refine cnt_congr fun z z1 z2 => ?_
      cases e : memB (s :: l) z
      · rfl
      · rcases mem_cons.1 (memB_iff.1 e) with hm | ⟨u, hu, hm⟩
        · omega
        · have := h1 u hu; omega
    have e2 : cnt (memB (s :: l)) (F + a) d = d := by
      rw [← cnt_true d (F + a)]
      rw [cnt_true]
      rw [← cnt_true d (F + a)]
      refine cnt_congr fun z z1 z2 => ?_
      exact memB_iff.2 (mem_cons.2 (.inl ⟨by omega, by omega⟩))
    have e3 : cnt (memB (s :: l)) (F + a + d) r = cnt (memB l) s.t r := by
      rw [show F + (a : Int) + d = s.t by omega]
      refine cnt_congr fun z z1 z2 => ?_
      rw [Bool.eq_iff_iff, memB_iff, memB_iff, mem_cons]
      constructor
      · rintro (hm | hm)
        · omega
        · exact hm
      · exact .inr
    rw [e1, e2, e3]
    omega
theorem len_sum {l : List Sp} (h : ∀ s ∈ l, s.t ≤ 1099511627776) : lenS l = sumS l := by
  unfold lenS
  rw [if_neg]
  intro hc
  obtain ⟨s, hs, e⟩ := List.any_eq_true.1 hc
  have := h s hs
  simp only [beq_iff_eq] at e
  omega
/-- How many bytes more there are, where a span comes in. -/
theorem sum_or {l : List Sp} (hn : Norm l) {F T x y : Int} (hl : ∀ s ∈ l, F ≤ s.f ∧ s.t ≤ T) (h0 : 0 ≤ F) (h1 : F ≤ x) (h2 : x < y) (h3 : y ≤ T) (h4 : T ≤ 1099511627776) :
    sumS (orS l [⟨x, y⟩]) = sumS l + (y - x - lenS (andS [⟨x, y⟩] l)) ∧ 0 ≤ y - x - lenS (andS [⟨x, y⟩] l) := by
  have hs : (⟨x, y⟩ : Sp).ok := ⟨by show 0 ≤ x; omega, h2, by show y ≤ _; omega⟩
  have hno := norm_or l [⟨x, y⟩]
  have hna := norm_and [⟨x, y⟩] l
  have hlo := lies_of_mem hno F T (fun z hz => by
    rw [mem_or hn (norm_one hs), mem_single] at hz
    rcases hz with hz | hz
    · exact mem_of_lies hl z hz
    · have a : x ≤ z := hz.1
      have b : z < y := hz.2
      omega)
  have hla := lies_of_mem hna x y (fun z hz => by
    rw [mem_and (norm_one hs) hn, mem_single] at hz
    exact hz.1)
  obtain ⟨n, hN⟩ : ∃ n : Nat, T - F = n := ⟨(T - F).toNat, by omega⟩
  have c1 := sum_cnt _ hno F n fun s hs => ⟨(hlo s hs).1, by have := (hlo s hs).2; omega⟩
  have c2 := sum_cnt _ hn F n fun s hs => ⟨(hl s hs).1, by have := (hl s hs).2; omega⟩
  have c3 := sum_cnt _ hna F n fun s hs => ⟨by have := (hla s hs).1; omega, by have := (hla s hs).2; omega⟩
  have c4 := sum_cnt [⟨x, y⟩] (norm_one hs) F n fun s hs => by
    simp only [List.mem_singleton] at hs
    subst hs
    exact ⟨h1, by show y ≤ F + n; omega⟩
  have c5 : sumS [(⟨x, y⟩ : Sp)] = y - x := by simp [sumS]
  have c6 := cnt_both (memB l) (memB [⟨x, y⟩]) n F
  have c7 : cnt (memB (orS l [⟨x, y⟩])) F n = cnt (fun z => memB l z || memB [⟨x, y⟩] z) F n := cnt_congr fun z _ _ => by
    rw [Bool.eq_iff_iff, Bool.or_eq_true, memB_iff, memB_iff, memB_iff, mem_or hn (norm_one hs)]
  have c8 : cnt (memB (andS [⟨x, y⟩] l)) F n = cnt (fun z => memB l z && memB [⟨x, y⟩] z) F n := cnt_congr fun z _ _ => by
    rw [Bool.eq_iff_iff, Bool.and_eq_true, memB_iff, memB_iff, memB_iff, mem_and (norm_one hs) hn]
    exact And.comm
  have c9 : lenS (andS [⟨x, y⟩] l) = sumS (andS [⟨x, y⟩] l) := len_sum fun s hs => by have := (hla s hs).2; omega
  have c10 : sumS (andS [⟨x, y⟩] l) ≤ y - x := by
    obtain ⟨m, hm⟩ : ∃ m : Nat, y - x = m := ⟨(y - x).toNat, by omega⟩
    have d1 := sum_cnt _ hna x m fun s hs => ⟨(hla s hs).1, by have := (hla s hs).2; omega⟩
    have d2 : ∀ (P : Int → Bool) (k : Nat) (G : Int), cnt P G k ≤ k := by
      intro P k
      induction k with
      | zero => intro G; simp [cnt]
      | succ k ih =>
        intro G
        simp only [cnt]
        have := ih (G + 1)
        cases P G <;> simp only [b01] <;> omega
    have := d2 (memB (andS [⟨x, y⟩] l)) m x
    omega
  exact ⟨by omega, by omega⟩

/-- What is there is the object's. -/
def Bf.agrees (B : Bf) (O : List UInt8) : Prop := ∀ z, Mem B.hs z → B.bs[(z - B.f).toNat]? = O[z.toNat]?
/-- A piece of the object comes. -/
theorem put_piece {B : Bf} (hok : B.ok) {O : List UInt8} (hag : B.agrees O) (a m : Nat) (ham : a + m ≤ O.length) :
    B.putE a ((O.drop a).take m) = 0 ∧ 0 ≤ B.putN a ((O.drop a).take m) ∧ sumS (B.put a ((O.drop a).take m)).hs = sumS B.hs + B.putN a ((O.drop a).take m) ∧ (B.put a ((O.drop a).take m)).agrees O ∧
      (B.put a ((O.drop a).take m)).f = B.f ∧ (B.put a ((O.drop a).take m)).t = B.t ∧ (B.put a ((O.drop a).take m)).u = B.u ∧ (B.put a ((O.drop a).take m)).n = B.n ∧ (B.put a ((O.drop a).take m)).bs.length = B.bs.length ∧
      (∀ z, Mem (B.put a ((O.drop a).take m)).hs z ↔ Mem B.hs z ∨ (B.f ≤ z ∧ z < B.t ∧ (a : Int) ≤ z ∧ z < a + m)) := by
  have hpl : ((O.drop a).take m).length = m := by simp; omega
  have hpg : ∀ z : Int, (a : Int) ≤ z → z < a + m → ((O.drop a).take m)[(z - a).toNat]? = O[z.toNat]? := fun z z1 z2 => by
    rw [List.getElem?_take, if_pos (by omega), List.getElem?_drop]
    congr 1
    omega
  generalize hp : (O.drop a).take m = p at *
  clear hp
  have hx : B.x a = max (a : Int) B.f := rfl
  have hy : B.y a p = min ((a : Int) + m) B.t := by unfold Bf.y; rw [hpl]
  have f0 := hok.f0
  have ft := hok.ft
  have t1 := hok.t1
  have hle := hok.len
  have hncl : ¬ B.clash a p := by
    rintro ⟨z, hz, z1, z2, hne⟩
    rw [hag z hz, hpg z (by omega) (by omega)] at hne
    exact hne rfl
  by_cases hxy : B.x a < B.y a p
  · have h3 : ¬ ((a : Int) < 0 ∨ B.y a p ≤ B.x a ∨ B.clash a p) := by
      rintro (h | h | h)
      · omega
      · omega
      · exact hncl h
    have hsk : (⟨B.x a, B.y a p⟩ : Sp).ok := ⟨by show 0 ≤ B.x a; omega, hxy, by show B.y a p ≤ _; omega⟩
    obtain ⟨s1, s2⟩ := sum_or hok.norm hok.lies f0 (show B.f ≤ B.x a by omega) hxy (show B.y a p ≤ B.t by omega) t1
    have hN : B.putN a p = B.y a p - B.x a - lenS (andS [⟨B.x a, B.y a p⟩] B.hs) := by unfold Bf.putN; rw [if_neg h3]
    have hP : B.put a p = { B with bs := splice B.bs (B.x a - B.f).toNat ((p.drop (B.x a - a).toNat).take (B.y a p - B.x a).toNat), hs := orS B.hs [⟨B.x a, B.y a p⟩] } := by unfold Bf.put; rw [if_neg h3]
    have hcl : ((p.drop (B.x a - a).toNat).take (B.y a p - B.x a).toNat).length = (B.y a p - B.x a).toNat := by rw [List.length_take, List.length_drop, hpl]; omega
    have hmem : ∀ z, Mem (orS B.hs [⟨B.x a, B.y a p⟩]) z ↔ Mem B.hs z ∨ (B.x a ≤ z ∧ z < B.y a p) := fun z => by rw [mem_or hok.norm (norm_one hsk), mem_single]
    refine ⟨?_, by rw [hN]; exact s2, by rw [hP, hN]; exact s1, ?_, by rw [hP], by rw [hP], by rw [hP], by rw [hP], ?_, ?_⟩
    · unfold Bf.putE
      rw [if_neg (by omega), if_neg (by omega), if_neg hncl]
    · rw [hP]
      intro z hz
      have hz' := (hmem z).1 hz
      have htl : (B.bs.take (B.x a - B.f).toNat).length = (B.x a - B.f).toNat := by rw [List.length_take]; omega
      show (splice B.bs _ _)[(z - B.f).toNat]? = _
      by_cases hin : B.x a ≤ z ∧ z < B.y a p
      · have e1 : (z - B.f).toNat = (B.x a - B.f).toNat + (z - B.x a).toNat := by omega
        unfold splice
        rw [e1, List.getElem?_append_right (by rw [htl]; omega), htl, List.getElem?_append_left (by rw [hcl]; omega)]
        rw [List.getElem?_take, if_pos (by omega), List.getElem?_drop]
        rw [show (B.x a - a).toNat + ((B.x a - B.f).toNat + (z - B.x a).toNat - (B.x a - B.f).toNat) = (z - a).toNat by omega]
        exact hpg z (by omega) (by omega)
      · have hmz : Mem B.hs z := hz'.resolve_right hin
        obtain ⟨m1, m2⟩ := mem_of_lies hok.lies z hmz
        rw [← hag z hmz]
        unfold splice
        by_cases hlt : z < B.x a
        · rw [List.getElem?_append_left (by rw [htl]; omega), List.getElem?_take, if_pos (by omega)]
        · rw [List.getElem?_append_right (by rw [htl]; omega), htl, List.getElem?_append_right (by rw [hcl]; omega), hcl, List.getElem?_drop]
          congr 1
          omega
    · rw [hP]
      exact length_splice _ _ _ (by rw [hcl]; omega)
    · intro z
      rw [hP, hmem z]
      constructor
      · rintro (h | h)
        · exact .inl h
        · exact .inr (by omega)
      · rintro (h | h)
        · exact .inl h
        · exact .inr (by omega)
  · have h3 : ((a : Int) < 0 ∨ B.y a p ≤ B.x a ∨ B.clash a p) := .inr (.inl (by omega))
    have hN : B.putN a p = 0 := by unfold Bf.putN; rw [if_pos h3]
    have hP : B.put a p = B := by unfold Bf.put; rw [if_pos h3]
    rw [hP, hN]
    refine ⟨?_, Int.le_refl _, by omega, hag, rfl, rfl, rfl, rfl, rfl, fun z => ⟨.inl, fun h => h.elim id (fun h => by omega)⟩⟩
    unfold Bf.putE
    rw [if_neg (by omega), if_pos (by omega)]
end Go.Proofs.Ytoahjhkfnchdhaa
