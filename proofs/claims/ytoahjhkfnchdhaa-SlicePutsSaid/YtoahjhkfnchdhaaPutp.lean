/- What Put makes of a buffer, and hands back: plain. -/
import Derived.Test.YtoahjhkfnchdhaaWhole
import Derived.Test.YtoahjhkfnchdhaaMeet
import Derived.Test.YtoahjhkfnchdhaaAll
import Derived.Test.YtoahjhkfnchdhaaStill
namespace Go.Proofs.Ytoahjhkfnchdhaa
open Go.RowKit

/-- A slice shows these bytes. -/
def BytesAt (w : World) (A : Option Addr) (l : List UInt8) : Prop := ∀ k (hk : k < l.length), ∃ b o, A = some ⟨b, o, none⟩ ∧ w.cell? ⟨b, o + k, none⟩ = some (.int .u8 (l[k].toNat : Int))
theorem BytesAt.ext {w w' : World} {A : Option Addr} {l : List UInt8} (h : BytesAt w A l) (hx : Ext w w') : BytesAt w' A l := fun k hk => by
  obtain ⟨b, o, e, p⟩ := h k hk
  exact ⟨b, o, e, hx.cell p⟩
theorem BytesAt.at_ {w : World} {A : Option Addr} {l : List UInt8} (h : BytesAt w A l) (h0 : 0 < l.length) : ∃ b o, A = some ⟨b, o, none⟩ ∧ ∀ k (hk : k < l.length), w.cell? ⟨b, o + k, none⟩ = some (.int .u8 (l[k].toNat : Int)) := by
  obtain ⟨b, o, e, _⟩ := h 0 h0
  refine ⟨b, o, e, fun k hk => ?_⟩
  obtain ⟨b', o', e', p⟩ := h k hk
  rw [e] at e'
  cases e'
  exact p

def Bf.x (B : Bf) (a : Int) : Int := max a B.f
def Bf.y (B : Bf) (a : Int) (p : List UInt8) : Int := min (a + p.length) B.t
/-- A byte that is there, and comes otherwise. -/
def Bf.clash (B : Bf) (a : Int) (p : List UInt8) : Prop := ∃ z, Mem B.hs z ∧ B.x a ≤ z ∧ z < B.y a p ∧ B.bs[(z - B.f).toNat]? ≠ p[(z - a).toNat]?
open Classical in
noncomputable def Bf.putE (B : Bf) (a : Int) (p : List UInt8) : Int := if a < 0 then 1 else if B.y a p ≤ B.x a then 0 else if B.clash a p then 12 else 0
open Classical in
noncomputable def Bf.putN (B : Bf) (a : Int) (p : List UInt8) : Int := if a < 0 ∨ B.y a p ≤ B.x a ∨ B.clash a p then 0 else B.y a p - B.x a - lenS (andS [⟨B.x a, B.y a p⟩] B.hs)
open Classical in
noncomputable def Bf.put (B : Bf) (a : Int) (p : List UInt8) : Bf :=
  if a < 0 ∨ B.y a p ≤ B.x a ∨ B.clash a p then B else { B with bs := splice B.bs (B.x a - B.f).toNat ((p.drop (B.x a - a).toNat).take (B.y a p - B.x a).toNat), hs := orS B.hs [⟨B.x a, B.y a p⟩] }

/-- Spans that lie apart within so many bytes are no more than these. -/
theorem norm_in {l : List Sp} (h : Norm l) (F T : Int) (hl : ∀ s ∈ l, F ≤ s.f ∧ s.t ≤ T) (hft : F ≤ T) : (l.length : Int) ≤ T - F := by
  induction l generalizing F with
  | nil => simp; omega
  | cons s l ih =>
    rw [norm_cons] at h
    obtain ⟨h1, h2, h3⟩ := h
    have hs := hl s (by simp)
    have := ih h3 s.t (fun u hu => ⟨by have := h2 u hu; omega, (hl u (by simp [hu])).2⟩) hs.2
    have h4 := h1.2.1
    simp only [List.length_cons]
    omega
theorem lies_of_mem {l : List Sp} (h : Norm l) (F T : Int) (hm : ∀ z, Mem l z → F ≤ z ∧ z < T) : ∀ s ∈ l, F ≤ s.f ∧ s.t ≤ T := fun s hs => by
  have h0 := h.1 s hs
  obtain ⟨_, h1, _⟩ := h0
  have a := hm s.f ⟨s, hs, Int.le_refl _, h1⟩
  have b := hm (s.t - 1) ⟨s, hs, by omega, by omega⟩
  omega
theorem mem_of_lies {l : List Sp} {F T : Int} (h : ∀ s ∈ l, F ≤ s.f ∧ s.t ≤ T) : ∀ z, Mem l z → F ≤ z ∧ z < T := fun z ⟨s, hs, h1, h2⟩ => by have := h s hs; omega
theorem mem_single (s : Sp) (z : Int) : Mem [s] z ↔ s.f ≤ z ∧ z < s.t := by simp [Mem]

theorem put_ok {B : Bf} (h : B.ok) (a : Int) (p : List UInt8) : (B.put a p).ok := by
  unfold Bf.put
  split
  · exact h
  · rename_i hn
    have hY : B.x a < B.y a p := by
      rcases Int.lt_or_le (B.x a) (B.y a p) with h | h
      · exact h
      · exact absurd (.inr (.inl h)) hn
    have hx : B.f ≤ B.x a := by unfold Bf.x; omega
    have hy : B.y a p ≤ B.t := by unfold Bf.y; omega
    have hF := h.f0
    have hT := h.t1
    have hlen := h.len
    have hsm := h.small
    have hs1 : Norm [(⟨B.x a, B.y a p⟩ : Sp)] := norm_one ⟨by show 0 ≤ B.x a; omega, hY, by show B.y a p ≤ _; omega⟩
    have hno := norm_or B.hs [⟨B.x a, B.y a p⟩]
    have hcs : ((p.drop (B.x a - a).toNat).take (B.y a p - B.x a).toNat).length ≤ (B.y a p - B.x a).toNat := List.length_take_le _ _
    have hl1 : (splice B.bs (B.x a - B.f).toNat ((p.drop (B.x a - a).toNat).take (B.y a p - B.x a).toNat)).length = B.bs.length := length_splice _ _ _ (by omega)
    have hl2 := lies_of_mem hno B.f B.t (fun z hz => by
      rw [mem_or h.norm hs1, mem_single] at hz
      rcases hz with hz | hz
      · exact mem_of_lies h.lies z hz
      · have h1 : B.x a ≤ z := hz.1
        have h2 : z < B.y a p := hz.2
        omega)
    exact ⟨h.u0, hF, h.ft, hT, by rw [hl1]; exact hlen, by rw [hl1]; exact hsm, hno, hl2, by have := norm_in hno B.f B.t hl2 (by have := h.ft; omega); show (orS _ _).length ≤ 1000; omega⟩
theorem first_some {l : List Sp} {n : Int} {s : Sp} (hs : s ∈ l) (hn : n < s.t) : (firstS l n).isSome = true := by
  unfold firstS
  rcases Nat.lt_or_ge (beh l n) l.length with h | h
  · rw [List.getElem?_eq_getElem h]; rfl
  · unfold beh at h
    have hp := List.takeWhile_prefix (fun s : Sp => decide (s.t ≤ n)) (l := l)
    have he := hp.eq_of_length (Nat.le_antisymm hp.length_le h)
    rw [← he] at hs
    have := List.all_eq_true.1 (List.all_takeWhile (l := l) (p := fun s : Sp => decide (s.t ≤ n))) s hs
    simp only [decide_eq_true_eq] at this
    omega
theorem seal_ok {B : Bf} (h : B.ok) (n : Int) : (B.seal n).ok := by
  unfold Bf.seal
  split
  · rename_i he
    have h1 : ¬ (n < 0 ∨ 1099511627776 < n ∨ n ≤ B.f) := fun hc => by unfold Bf.sealE at he; rw [if_pos hc] at he; cases he
    have h2 : (firstS B.hs n).isSome = false := by
      unfold Bf.sealE at he
      rw [if_neg h1] at he
      cases h : (firstS B.hs n).isSome
      · rfl
      · rw [h, if_pos rfl] at he; cases he
    have hF := h.f0
    have hT := h.t1
    have hlen := h.len
    have hft := h.ft
    refine ⟨h.u0, hF, by show B.f < min B.t n; omega, by show min B.t n ≤ _; omega, by show min B.t n - B.f ≤ (B.bs.length : Int); omega, h.small, h.norm, fun s hs => ⟨(h.lies s hs).1, ?_⟩, h.hlen⟩
    show s.t ≤ min B.t n
    have a := (h.lies s hs).2
    have hb : ¬ n < s.t := fun hlt => by
      have : (firstS B.hs n).isSome = true := first_some hs hlt
      rw [this] at h2
      cases h2
    omega
  · exact h
end Go.Proofs.Ytoahjhkfnchdhaa
