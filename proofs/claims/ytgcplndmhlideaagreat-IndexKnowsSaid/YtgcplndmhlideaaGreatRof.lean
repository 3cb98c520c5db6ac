/- The contract of the document's Of: a version's numbers, rising. -/
import Derived.Test.YtgcplndmhlideaaGreatWith
namespace Go.Proofs.YtgcplndmhlideaaGreat
open Go.RowKit

/-- A version's numbers, as the document puts them together. -/
def nosS (L : List Sl) (v : Int) : List Int := L.foldl (fun l s => if s.v = v then withL l s.n else l) []
theorem withL_len (l : List Int) (n : Int) : (withL l n).length ≤ l.length + 1 := by
  unfold withL
  split
  · omega
  · have := inN_le l n; simp; omega
theorem nosS_snoc (L : List Sl) (s : Sl) (v : Int) : nosS (L ++ [s]) v = if s.v = v then withL (nosS L v) s.n else nosS L v := by
  unfold nosS
  rw [List.foldl_append]; rfl
theorem nosS_len (L : List Sl) (v : Int) (k : Nat) (hk : k ≤ L.length) : (nosS (L.take k) v).length ≤ k := by
  induction k with
  | zero => simp [nosS]
  | succ k ih =>
    have := ih (by omega)
    rw [List.take_succ_eq_append_getElem (by omega), nosS_snoc]
    have h2 := withL_len (nosS (L.take k) v) L[k].n
    split <;> omega
/-- A list of numbers as a call hands it back. -/
def NPost (w : World) (l : List Int) (e : Ending) (w' : World) : Prop := ∃ A c, e = .returned (.slice A l.length c) ∧ IAt w' A l ∧ l.length ≤ c ∧ Ext w w'

set_option maxHeartbeats 1000000 in
set_option maxRecDepth 100000 in
theorem rof_calls (u c : Int) (A : Option Addr) (cp N : Nat) (L : List Sl) (v : Int) (w : World) (h : RowS w N (.slice A L.length cp) L) (hl : L.length ≤ 1000) :
    Calls Tryz.prog 10 #[.agg #[.int .i64 u, .int .i64 c, .slice A L.length cp], .int .i64 v] w (NPost w (nosS L v)) := by
  have hx0 : Ext w (w.alloc (.cells #[.int .i64 u, .int .i64 c, .slice A L.length cp] 27)) := (Ext.refl w).alloc _
  obtain ⟨_, hrow⟩ := h.at_
  clear h
  go_enter Tryz.func10, Tryz.ntmps10
  go_wp2
  go_loopw [5, 11] (fun s i wr => ∃ k : Nat, k ≤ L.length ∧ i = .int .i64 k ∧ ∃ A' c', s = .slice A' (nosS (L.take k) v).length c' ∧ IAt wr A' (nosS (L.take k) v) ∧ (nosS (L.take k) v).length ≤ c' ∧ Ext w wr) (fun _ i _ => L.length - (intOf i).toNat)
  case atStart => exact ⟨0, Nat.zero_le _, rfl, none, 0, rfl, IAt.nil _ _, Nat.le_refl _, hx0⟩
  case round =>
    obtain ⟨k, hk, rfl, A', c', rfl, hI, hc, hx⟩ := hrel
    have hlen := nosS_len L v k hk
    by_cases hlt : k < L.length
    · obtain ⟨b, rfl, p0, p1, p2, p3⟩ := hrow k hlt
      have hx1 : Ext wr (wr.alloc (.cells #[.int .i64 L[k].v, .int .i64 L[k].n, .int .i64 L[k].b, .int .i64 L[k].c] 84)) := (Ext.refl wr).alloc _
      replace p0 : wr.cell? ⟨b, k * 4, none⟩ = some (.int .i64 L[k].v) := hx.cell p0
      replace p1 : wr.cell? ⟨b, k * 4 + 1, none⟩ = some (.int .i64 L[k].n) := hx.cell p1
      replace p2 : wr.cell? ⟨b, k * 4 + 2, none⟩ = some (.int .i64 L[k].b) := hx.cell p2
      replace p3 : wr.cell? ⟨b, k * 4 + 3, none⟩ = some (.int .i64 L[k].c) := hx.cell p3
      have e : nosS (L.take (k + 1)) v = if L[k].v = v then withL (nosS (L.take k) v) L[k].n else nosS (L.take k) v := by rw [List.take_succ_eq_append_getElem hlt, nosS_snoc]
      generalize nosS (L.take k) v = l at *
      obtain ⟨s, hs⟩ : ∃ s, L[k] = s := ⟨_, rfl⟩
      rw [hs] at e hx1 p0 p1 p2 p3
      have HI := Lib.hid (hI.ext hx1)
      have HC := Lib.hid hc
      have HX := Lib.hid (hx.trans hx1)
      clear hrow hI hc hs
      by_cases hv : s.v = v
      · rw [if_pos hv] at e
        have HE := Lib.hid e
        have hvb : (s.v == v) = true := by simp [hv]
        have HW := Lib.hid (fun (W : World) (hW : Ext (wr.alloc (.cells #[.int .i64 s.v, .int .i64 s.n, .int .i64 s.b, .int .i64 s.c] 84)) W) => with_calls A' c' l s.n W (HI.out.ext hW) (by omega) HC.out)
        clear e hv
        go_wp2_with fail
        refine (HW.out _ (Ext.refl _)).mono ?_
        rintro e w2 ⟨A2, c2, rfl, h1, h2, h3⟩
        have HR := Lib.hid (And.intro h1 (And.intro h2 (HX.out.trans h3)))
        clear h1 h2 h3 p0 p1 p2 p3 hx1
        go_wp2
        go_roundw
        case rel => exact ⟨k + 1, by omega, by go_num, A2, c2, by rw [HE.out], by rw [HE.out]; exact HR.out.1, by rw [HE.out]; exact HR.out.2.1, HR.out.2.2⟩
        case measure => simp [intOf] <;> omega
      · rw [if_neg hv] at e
        have HE := Lib.hid e
        have hvb : (s.v == v) = false := beq_eq_false_iff_ne.2 hv
        clear e hv
        go_wp2
        go_roundw
        case rel => exact ⟨k + 1, by omega, by go_num, A', c', by rw [HE.out], by rw [HE.out]; exact HI.out, by rw [HE.out]; exact HC.out, HX.out⟩
        case measure => simp [intOf] <;> omega
    · obtain rfl : k = L.length := by omega
      rw [List.take_length] at *
      clear hrow
      go_wp2
      go_ret
      exact ⟨A', c', rfl, hI, hc, hx⟩
end Go.Proofs.YtgcplndmhlideaaGreat
