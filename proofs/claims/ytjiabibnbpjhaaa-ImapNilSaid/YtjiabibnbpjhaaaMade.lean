/- The contract of the law's own made: a map made by acts. -/
import Derived.Test.YtjiabibnbpjhaaaLaw
namespace Go.Proofs.Ytjiabibnbpjhaaa
open Go.RowKit

def MadePost (l : List Ac) (w : World) (e : Ending) (w' : World) : Prop :=
  ∃ mb, e = .returned (.tuple #[.pointer (some ⟨mb, 0, none⟩), .bool true]) ∧ Holds w' mb (appR l) ∧ w.heap.size ≤ mb ∧ Ext w w'

theorem Holds.ext {w w' : World} {mb : Nat} {l : List Rn} (h : Holds w mb l) (hx : Ext w w') : Holds w' mb l := by
  obtain ⟨A, c, h1, h2, h3⟩ := h
  exact ⟨A, c, hx.block h1, h2, fun j u hj => by obtain ⟨b, e1, e2, e3⟩ := h3 j u hj; exact ⟨b, e1, e2, hx.cell e3⟩⟩
/-- A write to block g alone, g new since w0, leaves w0 as it was. -/
theorem ext_only {w0 w w' : World} {g : Nat} (h : Ext w0 w) (hg : w0.heap.size ≤ g) (k : w.grownBy w' (some g)) : Ext w0 w' :=
  ⟨k.os.trans h.os, k.tape.trans h.tape, k.output.trans h.output, Nat.le_trans h.size k.size, fun i hi => (k.block i (Nat.lt_of_lt_of_le hi h.size) (fun e => by cases e; omega)).trans (Below.block h i hi)⟩

def wantE (a : Ac) : Int := if goodB a.f a.t then 0 else 1

set_option maxHeartbeats 4000000 in
set_option maxRecDepth 100000 in
theorem made_calls (A : Option Addr) (c : Nat) (l : List Ac) (w : World) (ha : Acts w A l) (hl : l.length ≤ 1000) :
    Calls Try.prog 12 #[.slice A l.length c] w (MadePost l w) := by
  go_enter Try.func12, Try.ntmps12
  go_wp2_with fail
  refine (new_calls _).mono ?_
  rintro e w1 ⟨rfl, hm, hx, _⟩
  generalize hmb : w.heap.size = mb at *
  have HM := Lib.hid hmb
  clear hmb
  go_wp2
  go_loopw [11] (fun i wr => ∃ k : Nat, k ≤ l.length ∧ i = .int .i64 k ∧ Holds wr mb (appR (l.take k)) ∧ Ext w wr) (fun i _ => l.length - (intOf i).toNat)
  case atStart => exact ⟨0, Nat.zero_le _, rfl, hm, hx⟩
  case round =>
    clear hm hx
    obtain ⟨k, hk, rfl, hm, hx⟩ := hrel
    by_cases hlt : k < l.length
    · obtain ⟨b, o, rfl, p0, p1, p2, p3⟩ := ha.ext hx k hlt
      obtain ⟨r, hr⟩ : ∃ r, l[k] = r := ⟨_, rfl⟩
      rw [hr] at p0 p1 p2 p3
      have hs : appR (l.take (k + 1)) = appStep (appR (l.take k)) r := by
        rw [List.take_succ_eq_append_getElem hlt, appR_snoc, hr]
      have hlen := appR_length (l.take k)
      have hl2 : (l.take k).length ≤ l.length := by simp; omega
      generalize appR (l.take k) = out at *
      have HS := Lib.hid hs
      clear hs hr
      have hm' : Holds (wr.alloc (.cells #[.bool r.d, .int .i64 r.f, .int .i64 r.t, .int .i64 r.v] 45)) mb out := hm.ext ((Ext.refl _).alloc _)
      have hx' : Ext w (wr.alloc (.cells #[.bool r.d, .int .i64 r.f, .int .i64 r.t, .int .i64 r.v] 45)) := hx.alloc _
      obtain ⟨rd, rf, rt, rv⟩ := r
      simp only at p0 p1 p2 p3 hm' hx'
      have hmbw : w.heap.size ≤ mb := by have := HM.out; omega
      cases rd
      · -- a Put
        cases hg : goodB rf rt
        · have hng := hg
          have hbad : rf < 0 ∨ rt ≤ rf ∨ 4611686018427387904 < rt := by
            simp only [goodB, rightB, Bool.and_eq_false_iff, decide_eq_false_iff_not] at hng
            omega
          have hfin : appStep out ⟨false, rf, rt, rv⟩ = out := by simp [appStep, hg]
          by_cases h1 : rf < 0
          · go_wp2_with fail
            refine (put_bad mb _ _ _ _ hg).mono ?_
            rintro e w2 ⟨rfl, hx2⟩
            go_wp2
            go_roundw
            case rel => exact ⟨k + 1, by omega, by go_num, by rw [HS.out, hfin]; exact hm'.ext hx2, hx'.trans hx2⟩
            case measure => simp [intOf] <;> omega
          · by_cases h2 : rt ≤ rf
            · go_wp2_with fail
              refine (put_bad mb _ _ _ _ hg).mono ?_
              rintro e w2 ⟨rfl, hx2⟩
              go_wp2
              go_roundw
              case rel => exact ⟨k + 1, by omega, by go_num, by rw [HS.out, hfin]; exact hm'.ext hx2, hx'.trans hx2⟩
              case measure => simp [intOf] <;> omega
            · have h3 : 4611686018427387904 < rt := by omega
              go_wp2_with fail
              refine (put_bad mb _ _ _ _ hg).mono ?_
              rintro e w2 ⟨rfl, hx2⟩
              go_wp2
              go_roundw
              case rel => exact ⟨k + 1, by omega, by go_num, by rw [HS.out, hfin]; exact hm'.ext hx2, hx'.trans hx2⟩
              case measure => simp [intOf] <;> omega
        · have hfin : appStep out ⟨false, rf, rt, rv⟩ = putR rf rt rv out := by simp [appStep, hg]
          have h1 : ¬ rf < 0 := by have := (good_iff _ _).1 hg; omega
          have h2 : ¬ rt ≤ rf := by have := (good_iff _ _).1 hg; omega
          have h3 : ¬ 4611686018427387904 < rt := by have := ((good_iff _ _).1 hg).2.2; simp only [OPEN] at this; omega
          go_wp2_with fail
          refine (put_good mb out _ _ _ _ hm' hg (by omega)).mono ?_
          rintro e w2 ⟨rfl, hm2, hg2⟩
          have hx2 := ext_only hx' hmbw hg2
          clear hm hx hm' hx' hg2 p0 p1 p2 p3
          go_wp2
          go_roundw
          case rel => exact ⟨k + 1, by omega, by go_num, by rw [HS.out, hfin]; exact hm2, hx2⟩
          case measure => simp [intOf] <;> omega
      · cases hg : goodB rf rt
        · have hfin : appStep out ⟨true, rf, rt, rv⟩ = out := by simp [appStep, hg]
          go_wp2_with fail
          refine (drop_bad mb _ _ _ hg).mono ?_
          rintro e w2 ⟨rfl, hx2⟩
          go_wp2
          go_roundw
          case rel => exact ⟨k + 1, by omega, by go_num, by rw [HS.out, hfin]; exact hm'.ext hx2, hx'.trans hx2⟩
          case measure => simp [intOf] <;> omega
        · have hfin : appStep out ⟨true, rf, rt, rv⟩ = dropTo rf rt out := by simp [appStep, hg]
          go_wp2_with fail
          refine (drop_good mb out _ _ _ hm' hg (by omega)).mono ?_
          rintro e w2 ⟨rfl, hm2, hg2⟩
          have hx2 := ext_only hx' hmbw hg2
          clear hm hx hm' hx' hg2 p0 p1 p2 p3
          go_wp2
          go_roundw
          case rel => exact ⟨k + 1, by omega, by go_num, by rw [HS.out, hfin]; exact hm2, hx2⟩
          case measure => simp [intOf] <;> omega
    · obtain rfl : k = l.length := by omega
      rw [List.take_length] at hm
      go_wp2
      go_ret2
      exact ⟨mb, rfl, hm, by have := HM.out; omega, hx⟩
end Go.Proofs.Ytjiabibnbpjhaaa
