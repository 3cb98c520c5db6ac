/- The contracts of the reference's place and waits. -/
import Derived.Test.YtaanbgagdanalaaRTab
namespace Go.Proofs.Ytaanbgagdanalaa
open Go.RowKit

def plI (l : List Fl) (id : Int) : Int := match place l id with | none => -1 | some i => i
def agR (f : Fl) (v : Value) : Value := .agg #[.int .i64 f.id, .string f.obj, .int .i64 f.fr, .int .i64 f.to, .string f.mt, .bool f.mw, .string f.nt, .bool f.nw, .int .i64 f.en, .int .i64 f.sa, .int .i64 f.mo, .int .i64 f.ge, .int .i64 f.pl, .int .i64 f.stop, .int .i64 (heI f), v]

set_option maxHeartbeats 1000000 in
set_option maxRecDepth 100000 in
theorem waits_calls (f : Fl) (A : Option Addr) (c : Nat) (q : Int) (w : World) (hr : RowI w A f.who) (hl : f.who.length ≤ 1000000) :
    Calls Try.prog 53 #[agR f (.slice A f.who.length c), .int .i64 q] w fun e w' => e = .returned (.bool (decide (q ∈ f.who))) ∧ Ext w w' := by
  unfold agR
  generalize f.who = l at *
  go_enter Try.func53, Try.ntmps53
  go_wp2
  go_loopw [10] (fun i wr => ∃ k : Nat, k ≤ l.length ∧ i = .int .i64 k ∧ q ∉ l.take k ∧ Ext w wr) (fun i _ => l.length - (intOf i).toNat)
  case atStart => exact ⟨0, Nat.zero_le _, rfl, by simp, (Ext.refl w).alloc _⟩
  case round =>
    obtain ⟨k, hk, rfl, hno, hx⟩ := hrel
    have HN := Lib.hid hno
    clear hno
    by_cases hlt : k < l.length
    · obtain ⟨g, rfl, hc⟩ := hr k hlt
      replace hc := hx.cell hc
      have HX := Lib.hid hx
      have HM := Lib.hid (List.getElem_mem hlt)
      have HT := Lib.hid (List.take_succ_eq_append_getElem hlt)
      obtain ⟨y, hy⟩ : ∃ y, l[k] = y := ⟨_, rfl⟩
      rw [hy] at hc HM HT
      clear hy hx hr
      by_cases e1 : y = q
      · have e2 : (y == q) = true := by simp [e1]
        have e3 : decide (y = q) = true := by simp [e1]
        have HE := Lib.hid e1
        clear e1
        go_wp2
        go_ret
        exact ⟨by have := HM.out; rw [HE.out] at this; simp [this], HX.out⟩
      · have e2 : (y == q) = false := by simp [e1]
        have e3 : decide (y = q) = false := by simp [e1]
        have HE := Lib.hid e1
        clear e1
        go_wp2
        go_roundw
        case rel => exact ⟨k + 1, by omega, by go_num, by rw [HT.out]; simp only [List.mem_append, List.mem_singleton, not_or]; exact ⟨HN.out, fun e => HE.out e.symm⟩, HX.out⟩
        case measure => simp [intOf] <;> omega
    · obtain rfl : k = l.length := by omega
      go_wp2
      go_ret
      exact ⟨by have := HN.out; rw [List.take_length] at this; simp [this], hx⟩

theorem plI_some {id : Int} {ys : List Ry} {k : Nat} (h : k < ys.length) (hno : ∀ j (hj : j < ys.length), j < k → ys[j].f.id ≠ id) (e : ys[k].f.id = id) : plI (ys.map Ry.f) id = k := by
  unfold plI place
  rw [show (ys.map Ry.f).findIdx? (fun f => f.id == id) = some k from List.findIdx?_eq_some_iff_getElem.2 ⟨by simpa using h, by simpa using e, fun j hj => by simpa using hno j (by omega) hj⟩]
theorem plI_none {id : Int} {ys : List Ry} (hno : ∀ j (hj : j < ys.length), j < ys.length → ys[j].f.id ≠ id) : plI (ys.map Ry.f) id = -1 := by
  unfold plI place
  rw [show (ys.map Ry.f).findIdx? (fun f => f.id == id) = none from List.findIdx?_eq_none_iff.2 fun f hf => by
    obtain ⟨j, hj, rfl⟩ := List.getElem_of_mem hf
    have := hno j (by simpa using hj) (by simpa using hj)
    simpa using this]

set_option maxHeartbeats 1000000 in
set_option maxRecDepth 100000 in
theorem placeR_calls (N tb : Nat) (lv : Value) (ys : List Ry) (last id : Int) (w : World) (h : RTabAt N w tb lv ys last) (hl : ys.length ≤ 1000) :
    Calls Try.prog 54 #[.pointer (some ⟨tb, 0, none⟩), .int .i64 id] w fun e w' => e = .returned (.int .i64 (plI (ys.map Ry.f) id)) ∧ Ext w w' := by
  obtain ⟨A, c, rfl, hc, hrow⟩ := h.shape
  have c0 := h.c0
  have HT := Lib.hid h
  clear h
  go_enter Try.func54, Try.ntmps54
  go_wp2
  go_loopw [12] (fun i wr => ∃ k : Nat, k ≤ ys.length ∧ i = .int .i64 k ∧ (∀ j (h : j < ys.length), j < k → ys[j].f.id ≠ id) ∧ Ext w wr) (fun i _ => ys.length - (intOf i).toNat)
  case atStart => exact ⟨0, Nat.zero_le _, rfl, fun j _ h => by omega, Ext.refl w⟩
  case round =>
    obtain ⟨k, hk, rfl, hno, hx⟩ := hrel
    have HN := Lib.hid hno
    clear hno
    by_cases hlt : k < ys.length
    · obtain ⟨g, rfl, hro, _, _⟩ := hrow k hlt
      replace hro := hro.ext hx
      have HX := Lib.hid hx
      obtain ⟨A2, c2, hv, _⟩ := own_shape (HT.out.all k hlt)
      rw [hv] at hro
      have HP := Lib.hid (fun e => plI_some hlt HN.out e)
      obtain ⟨f, hy⟩ : ∃ f, ys[k].f = f := ⟨_, rfl⟩
      rw [hy] at hro HP
      have HY := Lib.hid hy
      clear hv hy hx hrow
      have cx0 : wr.cell? ⟨g, k * 16, none⟩ = some (.int .i64 f.id) := hro 0 _ rfl
      have cx1 : wr.cell? ⟨g, k * 16 + 1, none⟩ = some (.string f.obj) := hro 1 _ rfl
      have cx2 : wr.cell? ⟨g, k * 16 + 2, none⟩ = some (.int .i64 f.fr) := hro 2 _ rfl
      have cx3 : wr.cell? ⟨g, k * 16 + 3, none⟩ = some (.int .i64 f.to) := hro 3 _ rfl
      have cx4 : wr.cell? ⟨g, k * 16 + 4, none⟩ = some (.string f.mt) := hro 4 _ rfl
      have cx5 : wr.cell? ⟨g, k * 16 + 5, none⟩ = some (.bool f.mw) := hro 5 _ rfl
      have cx6 : wr.cell? ⟨g, k * 16 + 6, none⟩ = some (.string f.nt) := hro 6 _ rfl
      have cx7 : wr.cell? ⟨g, k * 16 + 7, none⟩ = some (.bool f.nw) := hro 7 _ rfl
      have cx8 : wr.cell? ⟨g, k * 16 + 8, none⟩ = some (.int .i64 f.en) := hro 8 _ rfl
      have cx9 : wr.cell? ⟨g, k * 16 + 9, none⟩ = some (.int .i64 f.sa) := hro 9 _ rfl
      have cx10 : wr.cell? ⟨g, k * 16 + 10, none⟩ = some (.int .i64 f.mo) := hro 10 _ rfl
      have cx11 : wr.cell? ⟨g, k * 16 + 11, none⟩ = some (.int .i64 f.ge) := hro 11 _ rfl
      have cx12 : wr.cell? ⟨g, k * 16 + 12, none⟩ = some (.int .i64 f.pl) := hro 12 _ rfl
      have cx13 : wr.cell? ⟨g, k * 16 + 13, none⟩ = some (.int .i64 f.stop) := hro 13 _ rfl
      have cx14 : wr.cell? ⟨g, k * 16 + 14, none⟩ = some (.int .i64 (heI f)) := hro 14 _ rfl
      have cx15 : wr.cell? ⟨g, k * 16 + 15, none⟩ = some ((.slice A2 f.who.length c2)) := hro 15 _ rfl
      clear hro
      by_cases e1 : f.id = id
      · have e2 : (f.id == id) = true := by simp [e1]
        have e3 : decide (f.id = id) = true := by simp [e1]
        have HI := Lib.hid (HP.out e1)
        have HE := Lib.hid e1
        clear e1
        go_wp2
        go_ret
        exact ⟨by rw [HI.out]; rfl, HX.out.alloc _⟩
      · have e2 : (f.id == id) = false := by simp [e1]
        have e3 : decide (f.id = id) = false := by simp [e1]
        have HE := Lib.hid e1
        clear e1
        go_wp2
        go_roundw
        case rel => exact ⟨k + 1, by omega, by go_num, fun j hj hjk => by
            rcases Nat.lt_or_ge j k with h1 | h1
            · exact HN.out j hj h1
            · have : j = k := by omega
              subst this
              exact fun e => HE.out (by rw [← HY.out, e]), HX.out.alloc _⟩
        case measure => simp [intOf] <;> omega
    · obtain rfl : k = ys.length := by omega
      have HI := Lib.hid (plI_none (id := id) HN.out)
      go_wp2
      go_ret
      exact ⟨by rw [HI.out]; rfl, hx⟩
end Go.Proofs.Ytaanbgagdanalaa
