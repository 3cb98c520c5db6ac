/- The reference's Small and New. -/
import Derived.Test.YtcdokpkffbigdaaSeal
namespace Go.Proofs.Ytcdokpkffbigdaa
open Go.RowKit

def Pt.smB (p : Pt) : Bool := decide (p.s.length ≤ 500) && (decide (p.t ≤ 1099511627776) || p.t == 4611686018427387904)
def smallB (L : List Pt) : Bool := L.all Pt.smB && decide (L.length ≤ 30)
set_option maxHeartbeats 1000000 in
set_option maxRecDepth 100000 in
theorem small_calls (A : Option Addr) (c : Nat) (L : List Pt) (w : World) (h : PAt w A L) (hl : L.length ≤ 9223372036854775807) (hs : ∀ p ∈ L, p.s.length ≤ 9223372036854775807) :
    Calls Try.prog 10 #[.slice A L.length c] w fun e w' => e = .returned (.bool (smallB L)) ∧ Ext w w' := by
  have HL := Lib.hid h
  have HSZ := Lib.hid hs
  clear h hs
  go_enter Try.func10, Try.ntmps10
  go_wp2
  go_loopw [7] (fun i wr => ∃ k : Nat, k ≤ L.length ∧ i = .int .i64 k ∧ Hid (L.all Pt.smB = (L.drop k).all Pt.smB) ∧ Ext w wr) (fun i _ => L.length - (intOf i).toNat)
  case atStart => exact ⟨0, Nat.zero_le _, rfl, Lib.hid rfl, Ext.refl _⟩
  case round =>
    obtain ⟨k, hk, rfl, hat, hx⟩ := hrel
    by_cases hlt : k < L.length
    · obtain ⟨b, o, rfl, p0, p1, p2⟩ := HL.out.ext hx k hlt
      have hd : L.drop k = L[k] :: L.drop (k + 1) := List.drop_eq_getElem_cons hlt
      have hz := HSZ.out _ (List.getElem_mem hlt)
      rw [hd, List.all_cons] at hat
      generalize L[k] = p at *
      rcases p with ⟨s, f, t⟩
      simp only at p0 p1 p2 hz
      clear hd
      cases e1 : decide ((500 : Int) < s.length)
      case true =>
        have HT : Hid (smallB L = false) := Lib.hid (by unfold smallB; rw [hat.out]; have : ¬ s.length ≤ 500 := (by have := of_decide_eq_true e1; omega); simp [Pt.smB, this])
        clear hat
        go_wp2
        go_ret
        exact ⟨by rw [HT.out]; rfl, hx.alloc _⟩
      case false =>
      have e2 : s.length ≤ 500 := by have := of_decide_eq_false e1; omega
      cases e3 : decide (1099511627776 < t)
      case false =>
        have HT : Hid (L.all Pt.smB = (L.drop (k + 1)).all Pt.smB) := Lib.hid (by rw [hat.out]; have : t ≤ 1099511627776 := (by have := of_decide_eq_false e3; omega); simp [Pt.smB, e2, this])
        clear hat e2
        go_wp2
        go_roundw
        case rel => exact ⟨k + 1, hlt, by go_num, HT, hx.alloc _⟩
        case measure => simp [intOf]; omega
      case true =>
      have e4 : ¬ t ≤ 1099511627776 := by have := of_decide_eq_true e3; omega
      cases e5 : (t != 4611686018427387904)
      · have e6 : t = 4611686018427387904 := by simpa using e5
        have HT : Hid (L.all Pt.smB = (L.drop (k + 1)).all Pt.smB) := Lib.hid (by rw [hat.out]; simp [Pt.smB, e2, e6])
        clear hat e2 e4 e6
        go_wp2
        go_roundw
        case rel => exact ⟨k + 1, hlt, by go_num, HT, hx.alloc _⟩
        case measure => simp [intOf]; omega
      · have e6 : ¬ t = 4611686018427387904 := by simpa using e5
        have HT : Hid (smallB L = false) := Lib.hid (by unfold smallB; rw [hat.out]; simp [Pt.smB, e4, e6])
        clear hat e2 e4 e6
        go_wp2
        go_ret
        exact ⟨by rw [HT.out]; rfl, hx.alloc _⟩
    · obtain rfl : k = L.length := by omega
      have HT : Hid (smallB L = decide (L.length ≤ 30)) := Lib.hid (by unfold smallB; rw [hat.out, List.drop_length]; rfl)
      clear hat
      go_wp2
      go_ret
      refine ⟨?_, hx⟩
      rw [HT.out]
      exact ret_eq (show Value.bool (decide ((L.length : Int) ≤ 30)) = .bool (decide (L.length ≤ 30)) by congr 1; rw [decide_eq_decide]; omega)

def RNewPost (w : World) (A : Option Addr) (c : Nat) (L : List Pt) (e : Ending) (w' : World) : Prop :=
  Ext w w' ∧ if okL L = true then e = .returned (.tuple #[.agg #[.slice A L.length c, .int .i64 0], .int .i64 0]) else e = .returned (.tuple #[.agg #[.slice none 0 0, .int .i64 0], .int .i64 1])
theorem rightB_le {f t : Int} (h : rightB f t = true) : f ≤ t := by
  simp [rightB] at h; omega
set_option maxHeartbeats 4000000 in
set_option maxRecDepth 100000 in
theorem rnew_calls (A : Option Addr) (c : Nat) (L : List Pt) (w : World) (h : PAt w A L) (hl : L.length ≤ 1000) :
    Calls Try.prog 22 #[.slice A L.length c] w (RNewPost w A c L) := by
  have hx0 : Ext w (w.alloc (.cells #[.slice none 0 0, .int .i64 0] 51)) := (Ext.refl w).alloc _
  have b0 := heap_alloc_new w (.cells #[.slice none 0 0, .int .i64 0] 51)
  have HL := Lib.hid h
  clear h
  go_enter Try.func22, Try.ntmps22
  go_wp2
  generalize (w.alloc (.cells #[.slice none 0 0, .int .i64 0] 51)) = w1 at *
  go_loopw [8] (fun i wr => ∃ k : Nat, k ≤ L.length ∧ i = .int .i64 k ∧ Hid (okL L = okL (L.drop k)) ∧ Ext w1 wr) (fun i _ => L.length - (intOf i).toNat)
  case atStart => exact ⟨0, Nat.zero_le _, rfl, Lib.hid rfl, Ext.refl _⟩
  case round =>
    obtain ⟨k, hk, rfl, hok, hx⟩ := hrel
    have br := hx.block b0
    have hxr := hx0.trans hx
    by_cases hlt : k < L.length
    · obtain ⟨b, o, rfl, p0, p1, p2⟩ := HL.out.ext hxr k hlt
      have hd : L.drop k = L[k] :: L.drop (k + 1) := List.drop_eq_getElem_cons hlt
      obtain ⟨lb, hlb⟩ : ∃ lb, decide ((k : Int) < (L.length : Int) - 1) = lb := ⟨_, rfl⟩
      have hle : (L.drop (k + 1)).isEmpty = !lb := by
        rw [Bool.eq_iff_iff, List.isEmpty_iff, List.drop_eq_nil_iff, ← hlb]; simp; omega
      rw [hd, okL, hle] at hok
      generalize L[k] = p at *
      rcases p with ⟨s, f, t⟩
      simp only at p0 p1 p2
      have HLB := Lib.hid hlb
      have hwr : w.heap.size < wr.heap.size := (Array.getElem?_eq_some_iff.1 br).1
      clear hd hle b0 hlb
      cases e1 : (s == [])
      · have hs : ¬ s = [] := by simpa using e1
        have HOK : Hid (okL L = okL (L.drop (k + 1))) := Lib.hid (by rw [hok.out]; simp [Pt.okB, hs])
        clear hok br
        go_wp2
        go_roundw
        case rel => exact ⟨k + 1, hlt, by go_num, HOK, hx.alloc _⟩
        case measure => simp [intOf]; omega
      · have hs : s = [] := by simpa using e1
        have hokB : Pt.okB ⟨s, f, t⟩ (!lb) = (rightB f t && !(f == t) && (!(t == 4611686018427387904) || !lb)) := by simp [Pt.okB, hs]
        rw [hokB] at hok
        clear hokB hs
        have hxa : Ext wr (wr.alloc (.cells #[.string ⟨s.toArray⟩, .int .i64 f, .int .i64 t] 40)) := (Ext.refl wr).alloc _
        have ba := heap_alloc_new wr (.cells #[.string ⟨s.toArray⟩, .int .i64 f, .int .i64 t] 40)
        go_wp2_with fail
        generalize wr.alloc (.cells #[.string ⟨s.toArray⟩, .int .i64 f, .int .i64 t] 40) = wa at *
        refine (refright_calls _ _ _).mono ?_
        rintro e w2 ⟨rfl, hx2⟩
        replace ba := hx2.block ba
        replace hxa := hxa.trans hx2
        replace br := hxa.block br
        have hxz := hx.trans hxa
        clear hx2 wa
        have q0 : w2.cell? ⟨wr.heap.size, 0, none⟩ = some (.string ⟨s.toArray⟩) := by rw [cell_of_row _ _ _ _ _ _ ba]; rfl
        have q1 : w2.cell? ⟨wr.heap.size, 1, none⟩ = some (.int .i64 f) := by rw [cell_of_row _ _ _ _ _ _ ba]; rfl
        have q2 : w2.cell? ⟨wr.heap.size, 2, none⟩ = some (.int .i64 t) := by rw [cell_of_row _ _ _ _ _ _ ba]; rfl
        have r0 : w2.cell? ⟨w.heap.size, 0, none⟩ = some (.slice none 0 0) := by rw [cell_of_row _ _ _ _ _ _ br]; rfl
        have r1 : w2.cell? ⟨w.heap.size, 1, none⟩ = some (.int .i64 0) := by rw [cell_of_row _ _ _ _ _ _ br]; rfl
        have rf : ∀ j, w2.frozen? ⟨w.heap.size, j, none⟩ = false := fun j => frozen_of_block br j
        have hz2 : w.heap.size < w2.heap.size := (Array.getElem?_eq_some_iff.1 br).1
        have bad : Hid (okL L = false) → Hid (∀ W, Ext w W → RNewPost w (some ⟨b, o, none⟩) c L (.returned (.tuple #[.agg #[.slice none 0 0, .int .i64 0], .int .i64 1])) W) := fun h => Lib.hid fun W hW => ⟨hW, by rw [h.out, if_neg (by simp)]⟩
        have BAD := Lib.hid bad
        clear bad ba br hxa
        cases eR : rightB f t
        · have HOK : Hid (okL L = false) := Lib.hid (by rw [hok.out, eR]; rfl)
          have HB := BAD.out HOK
          clear hok eR
          go_wp2
          refine bodyPost_ret (v := .tuple #[.agg #[.slice none 0 0, .int .i64 0], .int .i64 1]) (by simp [results, Try.results22, go_sem, r0, r1]) rfl (HB.out _ ?_)
          exact ((hx0.trans hxz).setCell (Nat.le_refl _) _).setCell (Nat.le_refl _) _
        · have hle := rightB_le eR
          cases e2 : decide (f = t)
          · have e3 : ¬ f = t := by simpa using e2
            have e3' : ¬ t ≤ f := by omega
            have e4 : (f == t) = false := by simpa using e3
            have hok2 : Hid (okL L = ((!(t == 4611686018427387904) || !lb) && okL (L.drop (k + 1)))) := Lib.hid (by rw [hok.out, eR, e4]; rfl)
            clear hok eR e2 e3 e4
            cases e5 : decide (t = 4611686018427387904)
            · have e6 : (t == 4611686018427387904) = false := by simpa using e5
              have e7 : ¬ t = 4611686018427387904 := by simpa using e5
              have HOK : Hid (okL L = okL (L.drop (k + 1))) := Lib.hid (by rw [hok2.out, e6]; rfl)
              clear hok2 e5 e6
              go_wp2
              go_roundw
              case rel => exact ⟨k + 1, hlt, by go_num, HOK, hxz⟩
              case measure => simp [intOf]; omega
            · have e6 : (t == 4611686018427387904) = true := by simpa using e5
              have e7 : t = 4611686018427387904 := by simpa using e5
              cases lb
              · have HOK : Hid (okL L = okL (L.drop (k + 1))) := Lib.hid (by rw [hok2.out, e6]; rfl)
                have eL2 := HLB.out
                clear hok2 e5 e6
                go_wp2
                go_roundw
                case rel => exact ⟨k + 1, hlt, by go_num, HOK, hxz⟩
                case measure => simp [intOf]; omega
              · have HOK : Hid (okL L = false) := Lib.hid (by rw [hok2.out, e6]; rfl)
                have HB := BAD.out HOK
                have eL2 := HLB.out
                clear hok2 e5 e6
                go_wp2
                refine bodyPost_ret (v := .tuple #[.agg #[.slice none 0 0, .int .i64 0], .int .i64 1]) (by simp [results, Try.results22, go_sem, r0, r1]) rfl (HB.out _ ?_)
                exact ((hx0.trans hxz).setCell (Nat.le_refl _) _).setCell (Nat.le_refl _) _
          · have e3 : f = t := by simpa using e2
            have e3' : t ≤ f := by omega
            have e4 : (f == t) = true := by simpa using e3
            have HOK : Hid (okL L = false) := Lib.hid (by rw [hok.out, eR, e4]; rfl)
            have HB := BAD.out HOK
            clear hok eR e2 e3 e4
            go_wp2
            refine bodyPost_ret (v := .tuple #[.agg #[.slice none 0 0, .int .i64 0], .int .i64 1]) (by simp [results, Try.results22, go_sem, r0, r1]) rfl (HB.out _ ?_)
            exact ((hx0.trans hxz).setCell (Nat.le_refl _) _).setCell (Nat.le_refl _) _
    · obtain rfl : k = L.length := by omega
      have HOK : Hid (okL L = true) := Lib.hid (by rw [hok.out, List.drop_length]; rfl)
      have r0 : wr.cell? ⟨w.heap.size, 0, none⟩ = some (.slice none 0 0) := by rw [cell_of_row _ _ _ _ _ _ br]; rfl
      have r1 : wr.cell? ⟨w.heap.size, 1, none⟩ = some (.int .i64 0) := by rw [cell_of_row _ _ _ _ _ _ br]; rfl
      have rf : ∀ j, wr.frozen? ⟨w.heap.size, j, none⟩ = false := fun j => frozen_of_block br j
      have hz2 : w.heap.size < wr.heap.size := (Array.getElem?_eq_some_iff.1 br).1
      clear hok br b0
      go_wp2
      refine bodyPost_ret (v := .tuple #[.agg #[.slice A L.length c, .int .i64 0], .int .i64 0]) (by simp [results, Try.results22, go_sem, r0, r1]) rfl ⟨?_, by rw [if_pos HOK.out]⟩
      exact (hxr.setCell (Nat.le_refl _) _).setCell (Nat.le_refl _) _
end Go.Proofs.Ytcdokpkffbigdaa
