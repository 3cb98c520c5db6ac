/- The contracts of the reference's ends, of, Of, Or, And, Less. -/
import Derived.Test.YtgcplndmhlideaaGreatRgRefA
import Derived.Deep.RegionHeld3
import Derived.IntWalk
namespace Go.Proofs.YtgcplndmhlideaaGreat.Rg
open Go.RowKit

theorem spans_one_cells (a b : List Sp) : ∀ u ∈ spans (a ++ b), u.oneCell' = true := spans_plain _
/-- A list of numbers that is handed back. -/
def IPost (w : World) (l : List Int) (e : Ending) (w' : World) : Prop := ∃ A c, e = .returned (.slice A l.length c) ∧ Hid (IAt w' A l) ∧ Ext w w'
/-- A list of spans that is handed back. -/
def SPost (w : World) (l : List Sp) (e : Ending) (w' : World) : Prop := ∃ A c, e = .returned (.slice A l.length c) ∧ Hid (SAt w' A l) ∧ Ext w w'

set_option maxHeartbeats 4000000 in
set_option maxRecDepth 100000 in
theorem ends_calls (A : Option Addr) (c : Nat) (a : List Sp) (B : Option Addr) (d : Nat) (b : List Sp) (w : World) (ha : SAt w A a) (hb : SAt w B b) (hla : a.length ≤ 200000) (hlb : b.length ≤ 200000) :
    Calls Tryz.prog 70 #[.slice A a.length c, .slice B b.length d] w (IPost w (endsL (a ++ b))) := by
  have hx1 : Ext w (w.alloc (.cells #[] 53)) := (Ext.refl w).alloc _
  have hown0 : (w.alloc (.cells #[] 53)).ownsRow w.heap.size 53 2 (.slice (some ⟨w.heap.size, 0, none⟩) 0 0) 0 [] :=
    ⟨rfl, .inr ⟨w.heap.size, 0, #[], rfl, Nat.le_refl _, heap_alloc_new w _, Nat.le_refl _, Nat.zero_le _, rfl, rfl⟩⟩
  have hR1 := (ha.ext hx1).reads
  have HB := Lib.hid hb
  clear ha hb
  go_enter Tryz.func70, Tryz.ntmps70
  go_wp2_with (first | (at_builtin; refine wpList_append_src _ rfl (.tmp 8) (.tmp 9) 37 rfl w.heap.size 53 _ 2 16 Tryz.underlying37 infoSpan rfl (by omega) (.slice (some ⟨w.heap.size, 0, none⟩) 0 0) 0 [] rfl hown0 _ _ _ _ _ rfl hR1 (spans_plain a) (by simp [maxLen]; omega) (by omega) hx1.size ?_; intro v1 w2 hown2 hm1; have hx2 := ext_moved hx1 hown0 hm1) | (at_builtin; refine wpList_append_src _ rfl (.tmp 10) (.tmp 11) 37 rfl w.heap.size 53 _ 2 16 Tryz.underlying37 infoSpan rfl (by omega) v1 _ _ rfl hown2 _ _ _ _ _ rfl ((HB.out).ext hx2).reads (spans_plain b) (by simp [maxLen]; omega) (by omega) hx2.size ?_; intro v2 w3 hown3 hm2; have hx3 := ext_moved hx2 hown2 hm2))
  have hlen : (a ++ b).length = 0 + a.length + b.length := by simp
  have hown : w3.ownsRow w.heap.size 53 2 v2 (a ++ b).length (spans (a ++ b)) := by
    rw [hlen, spans_append]; simpa using hown3
  have hll : (a ++ b).length ≤ 400000 := by simp; omega
  obtain ⟨A2, c2, rfl, _⟩ := own_shape hown
  have hS : SAt w3 A2 (a ++ b) := sat_of_own hown
  clear hown hlen hown3 hown2 hown0 hR1 HB hla hlb hm2 hm1 hx1 hx2
  generalize a ++ b = l at *
  go_loopw [5, 7] (fun v i wr => ∃ (k : Nat) (V : Option Addr) (cv : Nat) (E : List Int), k ≤ l.length ∧ i = .int .i64 k ∧ v = .slice V E.length cv ∧ E = endsL (l.take k) ∧ IAt wr V E ∧ Ext w3 wr) (fun _ i _ => l.length - (intOf i).toNat)
  case atStart => exact ⟨0, none, 0, [], Nat.zero_le _, rfl, rfl, rfl, fun k hk => absurd hk (by simp), Ext.refl w3⟩
  case round =>
    obtain ⟨k, V, cv, E, hk, rfl, rfl, hE, hI, hx⟩ := hrel
    by_cases hlt : k < l.length
    · obtain ⟨b, o, rfl, p0, p1⟩ := hS.ext hx k hlt
      have hts : endsL (l.take (k + 1)) = estep E l[k] := by rw [List.take_succ_eq_append_getElem hlt, ends_snoc, hE]
      have hel : E.length ≤ 800000 := by
        have := (ends_inv (l.take k)).2.2
        have : (l.take k).length ≤ k := List.length_take_le _ _
        rw [hE]; omega
      generalize l[k] = s at *
      have hrp := rightB_iff s
      have hes : estep E s = if s.rightP then insI s.t (insI s.f E) else E := rfl
      rw [hes] at hts
      have HT := Lib.hid hts
      have HRP := Lib.hid hrp
      clear hts hes hrp hS hE
      go_wp2_with fail
      refine (refright_calls _ _ _).mono ?_
      rintro e w4 ⟨rfl, hx4⟩
      replace p0 := hx4.cell p0
      replace p1 := hx4.cell p1
      replace hI := hI.ext hx4
      replace hx4 := hx.trans hx4
      clear hx
      cases eR : rightB s.f s.t
      · have HG : Hid (E = endsL (l.take (k + 1))) := Lib.hid (by
          have h1 := HRP.out; rw [eR] at h1
          have h2 : ¬ s.rightP := by simpa using h1.symm
          rw [HT.out, if_neg h2])
        clear HT HRP
        go_wp2
        go_roundw
        case rel => exact ⟨k + 1, V, cv, E, by omega, by go_num, rfl, HG.out, hI, hx4⟩
        case measure => simp [intOf]; omega
      · have HG : Hid (insI s.t (insI s.f E) = endsL (l.take (k + 1))) := Lib.hid (by
          have h1 := HRP.out; rw [eR] at h1
          have h2 : s.rightP := by simpa using h1.symm
          rw [HT.out, if_pos h2])
        have hl1 := insI_length s.f E
        have hl2 : (insI s.f E).length ≤ 1000000 := by omega
        clear HT HRP
        go_wp2
        have i0 : (0 : Int) ≤ (k : Int) := by omega
        have i1 : (k : Int) < (l.length : Int) := by omega
        have HI := Lib.hid (hI.ext (Ext.refl w4).drew)
        have HX := Lib.hid hx4.drew
        have P0 : w4.drew.cell? ⟨b, o + k * 2, none⟩ = some (.int .i64 s.f) := p0
        have P1 : w4.drew.cell? ⟨b, o + k * 2 + 1, none⟩ = some (.int .i64 s.t) := p1
        clear hI hx4 p0 p1
        go_region_held3 (fun w' => w'.cell? ⟨b, o + k * 2, none⟩ = some (.int .i64 s.f) ∧ w'.cell? ⟨b, o + k * 2 + 1, none⟩ = some (.int .i64 s.t)) (exact ⟨P0, P1⟩)
          (first
            | (go_at_call 89
               (with_reducible refine (insert_calls V cv E s.f _ HI.out (by omega)).mono ?_)
               rintro e wn ⟨v1, rfl, hown1, hxa⟩
               obtain ⟨V1, cv1, rfl, _⟩ := own_shape hown1
               have HI1 := Lib.hid (iat_of_own hown1)
               replace HX := Lib.hid (HX.out.trans hxa)
               replace P0 := hxa.cell P0
               replace P1 := hxa.cell P1
               clear hown1)
            | (go_at_call 89
               (with_reducible refine (insert_calls V1 cv1 (insI s.f E) s.t _ HI1.out hl2).mono ?_)
               rintro e wn2 ⟨v2, rfl, hown2, hxa⟩
               obtain ⟨V2, cv2, rfl, _⟩ := own_shape hown2
               have HI2 := Lib.hid (iat_of_own hown2)
               replace HX := Lib.hid (HX.out.trans hxa)
               replace P0 := hxa.cell P0
               replace P1 := hxa.cell P1
               clear hown2))
        go_wp2
        go_roundw
        case rel => exact ⟨k + 1, V2, cv2, insI s.t (insI s.f E), by omega, by go_num, rfl, HG.out, HI2.out, HX.out⟩
        case measure => simp [intOf]; omega
    · obtain rfl : k = l.length := by omega
      rw [List.take_length] at hE
      have HE := Lib.hid hE
      clear hE
      go_wp2
      go_ret
      exact ⟨V, cv, by rw [← HE.out]; rfl, Lib.hid (by rw [← HE.out]; exact hI), hx3.trans hx⟩
end Go.Proofs.YtgcplndmhlideaaGreat.Rg
