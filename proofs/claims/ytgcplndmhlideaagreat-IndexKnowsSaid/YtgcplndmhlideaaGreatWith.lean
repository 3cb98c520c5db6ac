/- The contract of the document's with: a number put in its place, once. -/
import Derived.Test.YtgcplndmhlideaaGreatInts
namespace Go.Proofs.YtgcplndmhlideaaGreat
open Go.RowKit

def inN (l : List Int) (n : Int) : Nat := (l.takeWhile fun m => decide (m < n)).length
/-- A number, put in its place, once. -/
def withL (l : List Int) (n : Int) : List Int := if l[inN l n]? = some n then l else l.take (inN l n) ++ n :: l.drop (inN l n)
theorem inN_le (l : List Int) (n : Int) : inN l n ≤ l.length := List.Sublist.length_le (List.takeWhile_sublist _)
theorem inN_of {l : List Int} {n : Int} {k : Nat} (hk : k ≤ l.length) (h1 : ∀ j (hj : j < l.length), j < k → l[j] < n) (h2 : ∀ hj : k < l.length, ¬ l[k] < n) : inN l n = k := by
  unfold inN
  induction l generalizing k with
  | nil => simp at hk; simp [hk]
  | cons a l ih =>
    rcases k with _ | k
    · have := h2 (by simp)
      simp at this
      rw [List.takeWhile_cons, if_neg (by simpa using this)]; rfl
    · have h0 := h1 0 (by simp) (by omega)
      simp at h0
      rw [List.takeWhile_cons, if_pos (by simpa using h0), List.length_cons]
      rw [ih (k := k) (by simpa using hk) (fun j hj hjk => by have := h1 (j + 1) (by simpa using hj) (by omega); simpa using this) (fun hj => by have := h2 (by simpa using hj); simpa using this)]
theorem ints_append (a b : List Int) : ints (a ++ b) = ints a ++ ints b := by simp [ints]
theorem ints_plain (l : List Int) : ∀ u ∈ ints l, u.oneCell' = true := by
  intro u hu
  obtain ⟨n, _, rfl⟩ := List.mem_map.1 hu
  rfl
theorem IAt.reads {w : World} {A : Option Addr} {l : List Int} (h : IAt w A l) : Reads w w.heap.size 1 A l.length (ints l) := by
  refine ⟨by simp [ints], fun h0 => ?_⟩
  obtain ⟨b, o, hA, p⟩ := h 0 h0
  refine ⟨_, hA, block_of_cell p, fun j u hu => ?_⟩
  have hj : j < l.length := by have := (List.getElem?_eq_some_iff.1 hu).1; simpa [ints] using this
  obtain ⟨b', o', hA', p'⟩ := h j hj
  rw [hA] at hA'
  cases hA'
  rw [add_plain, p']
  simp [ints, hj] at hu
  rw [hu]

set_option maxHeartbeats 2000000 in
set_option maxRecDepth 100000 in
theorem with_calls (A : Option Addr) (c : Nat) (l : List Int) (n : Int) (w : World) (h : IAt w A l) (hl : l.length ≤ 1000) (hlc : l.length ≤ c) :
    Calls Tryz.prog 27 #[.slice A l.length c, .int .i64 n] w fun e w' => ∃ A' c', e = .returned (.slice A' (withL l n).length c') ∧ IAt w' A' (withL l n) ∧ (withL l n).length ≤ c' ∧ Ext w w' := by
  have HA := Lib.hid h
  have HL := Lib.hid (And.intro hl hlc)
  clear h hl hlc
  go_enter Tryz.func27, Tryz.ntmps27
  go_wp2
  go_loop [5] (fun i => ∃ k : Nat, k ≤ l.length ∧ i = .int .i64 k ∧ ∀ j (hj : j < l.length), j < k → l[j] < n) (fun i => l.length - (intOf i).toNat)
  case atStart => exact ⟨0, Nat.zero_le _, rfl, fun j hj h => absurd h (by omega)⟩
  case round =>
    obtain ⟨k, hk, rfl, hlow⟩ := hrel
    have HLO := Lib.hid hlow
    clear hlow
    by_cases hlt : k < l.length
    · obtain ⟨b, o, rfl, p0⟩ := HA.out k hlt
      obtain ⟨m, hm⟩ : ∃ m, l[k] = m := ⟨_, rfl⟩
      rw [hm] at p0
      have HM := Lib.hid hm
      clear hm
      by_cases hmn : m < n
      · have hl := HL.out.1
        go_wp2
        go_round
        case rel => exact ⟨k + 1, by omega, by go_num, fun j hj hjk => by
          rcases Nat.lt_or_ge j k with h1 | h1
          · exact HLO.out j hj h1
          · obtain rfl : j = k := by omega
            rw [HM.out]; exact hmn⟩
        case measure => simp [intOf]; omega
      · have hin : inN l n = k := inN_of hk HLO.out fun hj => by rw [HM.out]; exact hmn
        have HI := Lib.hid hin
        clear hin
        by_cases he : m = n
        · subst he
          have hw : withL l m = l := by
            unfold withL
            rw [HI.out, if_pos]
            rw [List.getElem?_eq_getElem hlt, HM.out]
          have HW := Lib.hid hw
          clear hw
          go_wp2
          go_ret
          exact ⟨_, c, by rw [HW.out]; rfl, by rw [HW.out]; exact HA.out, by rw [HW.out]; exact HL.out.2, Ext.refl w⟩
        · have he2 : (m == n) = false := beq_eq_false_iff_ne.2 he
          have hw : withL l n = l.take k ++ n :: l.drop k := by
            unfold withL
            rw [HI.out, if_neg]
            rw [List.getElem?_eq_getElem hlt, HM.out]
            exact fun e => he (by cases e; rfl)
          have HW := Lib.hid hw
          clear hw he
          have hck : ¬ c = k := by have := HL.out.2; omega
          go_upto_region 6 with (fail)
          have hl := HL.out.1
          have hlc := HL.out.2
          have hx0 : Ext w (w.alloc (.cells #[] 2)) := (Ext.refl w).alloc _
          have hs0 := hx0.size
          have hown0 : (w.alloc (.cells #[] 2)).ownsRow w.heap.size 2 1 (.slice (some ⟨w.heap.size, 0, none⟩) 0 0) 0 [] := ⟨rfl, .inr ⟨w.heap.size, 0, #[], rfl, Nat.le_refl _, heap_alloc_new w _, Nat.le_refl _, by simp, rfl, rfl⟩⟩
          have hR1 := ((HA.out.take (k)).ext hx0).reads
          rw [List.length_take, Nat.min_eq_left (by omega)] at hR1
          have HR3 := Lib.hid (fun (W : World) (hW : Ext w W) => (HA.out.ext hW).reads.cut (k := k) (cap := c) (by omega) hlc)
          go_upto_region 7 with (at_builtin; go_loud (refine wpList_append_src _ rfl _ _ 31 rfl w.heap.size 2 _ 1 8 Tryz.underlying31 infoI rfl (by omega) _ 0 [] rfl hown0 _ _ _ _ _ rfl hR1 (ints_plain _) (by simp [maxLen]; omega) (by omega) (by omega) ?_); intro v1 w2 hown2 hm1; have hx2 := ext_moved hx0 hown0 hm1; rw [Nat.zero_add, List.nil_append] at hown2; obtain ⟨A1, c1, rfl, -⟩ := own_shape hown2)
          have hx3 := hx2.alloc (.cells #[.int .i64 n] 2)
          have hs3 := hx3.size
          have hown3 := hown2.alloc (.cells #[.int .i64 n] 2)
          have hR2 : Reads (w2.alloc (.cells #[.int .i64 n] 2)) (w2.heap.size + 1) 1 (some ⟨w2.heap.size, 0, none⟩) 1 [.int .i64 n] := ⟨rfl, fun _ => ⟨_, rfl, by show w2.heap.size < _; omega, news1 _ _ _⟩⟩
          clear hR1 hown0 hm1 hown2
          go_upto_region 8 with (at_builtin; go_loud (refine wpList_append_src _ rfl _ _ 31 rfl w.heap.size 2 _ 1 8 Tryz.underlying31 infoI rfl (by omega) _ (k) (ints (l.take (k))) rfl hown3 _ _ _ _ _ rfl hR2 (by simp [Value.oneCell']) (by simp [maxLen]; omega) (by omega) (by omega) ?_); intro v2 w4 hown4 hm2; have hx4 := ext_moved hx3 hown3 hm2; obtain ⟨A2, c2, rfl, -⟩ := own_shape hown4)
          have hs4 := hx4.size
          have hR3 := HR3.out w4 hx4
          rw [Nat.mul_one] at hR3
          rw [show (ints l).drop (k) = ints (l.drop (k)) by simp [ints]] at hR3
          have hlen : (withL l n).length = k + 1 + (l.length - k) := by rw [HW.out]; simp <;> omega
          have HLEN := Lib.hid hlen
          clear hlen
          rw [if_neg hck] at hR3
          simp only [Option.map_some, add_plain] at hR3
          go_wp2_with (at_builtin; go_loud (refine wpList_append_src _ rfl _ _ 31 rfl w.heap.size 2 _ 1 8 Tryz.underlying31 infoI rfl (by omega) _ (k + 1) (ints (l.take (k)) ++ ([.int .i64 n] : List Value)) rfl hown4 _ _ _ _ _ rfl hR3 (ints_plain _) (by simp [maxLen]; omega) (by omega) (by omega) ?_); intro v3 w5 hown5 hm3; have hx5 := ext_moved hx4 hown4 hm3; obtain ⟨A3, c3, rfl, hc3⟩ := own_shape hown5)
          go_ret
          rw [← HLEN.out] at hown5
          refine ⟨A3, c3, by rw [HLEN.out]; rfl, iat_of_own (l := withL l n) (by rw [HW.out]; simpa [ints, List.append_assoc] using hown5), by rw [HLEN.out]; exact hc3, hx5⟩
    · obtain rfl : k = l.length := by omega
      have hin : inN l n = l.length := inN_of (Nat.le_refl _) HLO.out fun hj => absurd hj (by omega)
      have hw : withL l n = l.take l.length ++ n :: l.drop l.length := by
        unfold withL
        rw [hin, if_neg (by simp)]
      have HW := Lib.hid hw
      clear hw hin
      go_upto_region 6 with (fail)
      have hl := HL.out.1
      have hlc := HL.out.2
      have hx0 : Ext w (w.alloc (.cells #[] 2)) := (Ext.refl w).alloc _
      have hs0 := hx0.size
      have hown0 : (w.alloc (.cells #[] 2)).ownsRow w.heap.size 2 1 (.slice (some ⟨w.heap.size, 0, none⟩) 0 0) 0 [] := ⟨rfl, .inr ⟨w.heap.size, 0, #[], rfl, Nat.le_refl _, heap_alloc_new w _, Nat.le_refl _, by simp, rfl, rfl⟩⟩
      have hR1 := ((HA.out.take (l.length)).ext hx0).reads
      rw [List.length_take, Nat.min_eq_left (by omega)] at hR1
      have HR3 := Lib.hid (fun (W : World) (hW : Ext w W) => (HA.out.ext hW).reads.cut (k := l.length) (cap := c) (by omega) hlc)
      go_upto_region 7 with (at_builtin; go_loud (refine wpList_append_src _ rfl _ _ 31 rfl w.heap.size 2 _ 1 8 Tryz.underlying31 infoI rfl (by omega) _ 0 [] rfl hown0 _ _ _ _ _ rfl hR1 (ints_plain _) (by simp [maxLen]; omega) (by omega) (by omega) ?_); intro v1 w2 hown2 hm1; have hx2 := ext_moved hx0 hown0 hm1; rw [Nat.zero_add, List.nil_append] at hown2; obtain ⟨A1, c1, rfl, -⟩ := own_shape hown2)
      have hx3 := hx2.alloc (.cells #[.int .i64 n] 2)
      have hs3 := hx3.size
      have hown3 := hown2.alloc (.cells #[.int .i64 n] 2)
      have hR2 : Reads (w2.alloc (.cells #[.int .i64 n] 2)) (w2.heap.size + 1) 1 (some ⟨w2.heap.size, 0, none⟩) 1 [.int .i64 n] := ⟨rfl, fun _ => ⟨_, rfl, by show w2.heap.size < _; omega, news1 _ _ _⟩⟩
      clear hR1 hown0 hm1 hown2
      go_upto_region 8 with (at_builtin; go_loud (refine wpList_append_src _ rfl _ _ 31 rfl w.heap.size 2 _ 1 8 Tryz.underlying31 infoI rfl (by omega) _ (l.length) (ints (l.take (l.length))) rfl hown3 _ _ _ _ _ rfl hR2 (by simp [Value.oneCell']) (by simp [maxLen]; omega) (by omega) (by omega) ?_); intro v2 w4 hown4 hm2; have hx4 := ext_moved hx3 hown3 hm2; obtain ⟨A2, c2, rfl, -⟩ := own_shape hown4)
      have hs4 := hx4.size
      have hR3 := HR3.out w4 hx4
      rw [Nat.mul_one] at hR3
      rw [show (ints l).drop (l.length) = ints (l.drop (l.length)) by simp [ints]] at hR3
      have hlen : (withL l n).length = l.length + 1 + (l.length - l.length) := by rw [HW.out]; simp <;> omega
      have HLEN := Lib.hid hlen
      clear hlen
      clear hR3
      have hRN : ∀ A', Reads w4 w4.heap.size 1 A' 0 [] := fun A' => ⟨rfl, fun h => absurd h (by omega)⟩
      have hdr : ints (l.take l.length) ++ [.int .i64 n] ++ [] = ints (withL l n) := by rw [HW.out]; simp [ints]
      by_cases hck : c = l.length
      · go_wp2_with (at_builtin; go_loud (refine wpList_append_src _ rfl _ _ 31 rfl w.heap.size 2 _ 1 8 Tryz.underlying31 infoI rfl (by omega) _ (l.length + 1) (ints (l.take (l.length)) ++ ([.int .i64 n] : List Value)) rfl hown4 _ _ _ _ _ rfl (hRN _) (by simp) (by simp [maxLen]; omega) (by omega) (by omega) ?_); intro v3 w5 hown5 hm3; have hx5 := ext_moved hx4 hown4 hm3; obtain ⟨A3, c3, rfl, hc3⟩ := own_shape hown5)
        go_ret
        exact ⟨A3, c3, by rw [HLEN.out]; simp, by rw [hdr] at hown5; exact iat_of_own (l := withL l n) hown5, by rw [HLEN.out]; omega, hx5⟩
      · go_wp2_with (at_builtin; go_loud (refine wpList_append_src _ rfl _ _ 31 rfl w.heap.size 2 _ 1 8 Tryz.underlying31 infoI rfl (by omega) _ (l.length + 1) (ints (l.take (l.length)) ++ ([.int .i64 n] : List Value)) rfl hown4 _ _ _ _ _ rfl (hRN _) (by simp) (by simp [maxLen]; omega) (by omega) (by omega) ?_); intro v3 w5 hown5 hm3; have hx5 := ext_moved hx4 hown4 hm3; obtain ⟨A3, c3, rfl, hc3⟩ := own_shape hown5)
        go_ret
        exact ⟨A3, c3, by rw [HLEN.out]; simp, by rw [hdr] at hown5; exact iat_of_own (l := withL l n) hown5, by rw [HLEN.out]; omega, hx5⟩
end Go.Proofs.YtgcplndmhlideaaGreat
