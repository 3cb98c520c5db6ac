/- The contracts of the reference's Unheard and Get. -/
import Derived.Test.YtaanbgagdanalaaRNums
namespace Go.Proofs.Ytaanbgagdanalaa
open Go.RowKit

def Tab.unheard (t : Tab) (o : ByteArray) : List Int := (t.l.filter fun f => !f.he && decide (f.obj.toList = o.toList)).map Fl.id

set_option maxHeartbeats 1000000 in
set_option maxRecDepth 100000 in
theorem getR_calls (N tb : Nat) (O : List Nat) (t : Tab) (id : Int) (w : World) (h : RTabR N w tb O t) (hs : Small t) :
    Calls Try.prog 30 #[.pointer (some ⟨tb, 0, none⟩), .int .i64 id] w fun e w' => e = .returned (.int .i64 (if (place t.l id).isSome then 1 else 0)) ∧ Ext w w' := by
  cases hp : place t.l id with
  | none =>
    have hf := missR h hs hp
    clear h hp
    go_enter Try.func30, Try.ntmps30
    go_wp2_with fail
    refine hf.mono ?_
    rintro e w1 ⟨rfl, hx⟩
    go_wp2
    go_ret
    exact ⟨rfl, hx⟩
  | some i =>
    obtain ⟨lv, h⟩ := h
    obtain ⟨f, g, c, v, R, hlv, H, hid, hf⟩ := hitR h hs hp
    clear hlv H hid h hp
    have hi0 : (0 : Int) ≤ (i : Int) := by omega
    go_enter Try.func30, Try.ntmps30
    go_wp2_with fail
    refine hf.mono ?_
    rintro e w1 ⟨rfl, hx⟩
    go_wp2
    go_ret
    exact ⟨rfl, hx⟩

set_option maxHeartbeats 2000000 in
set_option maxRecDepth 100000 in
theorem unheardR_calls (N tb : Nat) (lv : Value) (O : List Nat) (t : Tab) (o : ByteArray) (w : World) (h : RTabL N w tb lv O t) (hs : Small t) :
    Calls Try.prog 28 #[.pointer (some ⟨tb, 0, none⟩), .string o] w (NumPost w (t.unheard o)) := by
  obtain ⟨c0, A, c, rfl, hrow⟩ := h.rowk
  obtain ⟨s1, _, _, _, s4⟩ := hs
  obtain ⟨l, last⟩ := t
  dsimp only at c0 hrow s1 s4
  have HF := Lib.hid s4
  unfold Tab.unheard
  dsimp only
  clear s4 h
  go_enter Try.func28, Try.ntmps28
  go_wp2
  go_loopw [5, 13] (fun out i wr => ∃ k : Nat, k ≤ l.length ∧ i = .int .i64 k ∧ wr.ownsRow w.heap.size 2 1 out (((l.take k).filter fun f => !f.he && decide (f.obj.toList = o.toList)).map Fl.id).length ((((l.take k).filter fun f => !f.he && decide (f.obj.toList = o.toList)).map Fl.id).map (Value.int .i64)) ∧ Ext w wr) (fun _ i _ => l.length - (intOf i).toNat)
  case atStart => exact ⟨0, Nat.zero_le _, rfl, World.ownsRow_nil _ _ _ _, Ext.refl _⟩
  case round =>
    obtain ⟨k, hk, rfl, hown, hx⟩ := hrel
    by_cases hlt : k < l.length
    · obtain ⟨g, A2, c2, rfl, hro, hri⟩ := hrow k hlt
      replace hro := hro.ext hx
      have hfi : Fine l[k] := HF.out _ (List.getElem_mem hlt)
      have hstep := take_filter hlt fun f => !f.he && decide (f.obj.toList = o.toList)
      have hlen : (((l.take k).filter fun f => !f.he && decide (f.obj.toList = o.toList)).map Fl.id).length ≤ 1000 := by
        rw [List.length_map]
        refine Nat.le_trans (List.length_filter_le _ _) ?_
        simp; omega
      obtain ⟨f, hff⟩ : ∃ f, l[k] = f := ⟨_, rfl⟩
      rw [hff] at hro hri hfi hstep
      have hwl := hfi.1
      have q0 : wr.cell? ⟨g, k * 16, none⟩ = some (.int .i64 f.id) := hro 0 _ rfl
      have q1 : wr.cell? ⟨g, k * 16 + 1, none⟩ = some (.string f.obj) := hro 1 _ rfl
      have q2 : wr.cell? ⟨g, k * 16 + 2, none⟩ = some (.int .i64 f.fr) := hro 2 _ rfl
      have q3 : wr.cell? ⟨g, k * 16 + 3, none⟩ = some (.int .i64 f.to) := hro 3 _ rfl
      have q4 : wr.cell? ⟨g, k * 16 + 4, none⟩ = some (.string f.mt) := hro 4 _ rfl
      have q5 : wr.cell? ⟨g, k * 16 + 5, none⟩ = some (.bool f.mw) := hro 5 _ rfl
      have q6 : wr.cell? ⟨g, k * 16 + 6, none⟩ = some (.string f.nt) := hro 6 _ rfl
      have q7 : wr.cell? ⟨g, k * 16 + 7, none⟩ = some (.bool f.nw) := hro 7 _ rfl
      have q8 : wr.cell? ⟨g, k * 16 + 8, none⟩ = some (.int .i64 f.en) := hro 8 _ rfl
      have q9 : wr.cell? ⟨g, k * 16 + 9, none⟩ = some (.int .i64 f.sa) := hro 9 _ rfl
      have q10 : wr.cell? ⟨g, k * 16 + 10, none⟩ = some (.int .i64 f.mo) := hro 10 _ rfl
      have q11 : wr.cell? ⟨g, k * 16 + 11, none⟩ = some (.int .i64 f.ge) := hro 11 _ rfl
      have q12 : wr.cell? ⟨g, k * 16 + 12, none⟩ = some (.int .i64 f.pl) := hro 12 _ rfl
      have q13 : wr.cell? ⟨g, k * 16 + 13, none⟩ = some (.int .i64 f.stop) := hro 13 _ rfl
      have q14 : wr.cell? ⟨g, k * 16 + 14, none⟩ = some (.int .i64 (heI f)) := hro 14 _ rfl
      have q15 : wr.cell? ⟨g, k * 16 + 15, none⟩ = some ((.slice A2 f.who.length c2)) := hro 15 _ rfl
      have HS := Lib.hid hstep
      have HX := Lib.hid hx
      have HRI := Lib.hid hri
      have hsz := hx.size
      clear hff hstep hx hri hfi hrow hro
      obtain ⟨L, hL⟩ : ∃ L, ((l.take k).filter fun f => !f.he && decide (f.obj.toList = o.toList)).map Fl.id = L := ⟨_, rfl⟩
      rw [hL] at hown hlen
      have HL := Lib.hid hL
      clear hL
      obtain ⟨A3, c3, rfl, _⟩ := own_shape hown
      have hsz2 : w.heap.size ≤ (wr.alloc (.cells #[.int .i64 f.id, .string f.obj, .int .i64 f.fr, .int .i64 f.to, .string f.mt, .bool f.mw, .string f.nt, .bool f.nw, .int .i64 f.en, .int .i64 f.sa, .int .i64 f.mo, .int .i64 f.ge, .int .i64 f.pl, .int .i64 f.stop, .int .i64 (heI f), .slice A2 f.who.length c2] 57)).heap.size := by simp; omega
      cases hm : f.he
      · have e1 : heI f = 0 := by simp [heI, hm]
        rw [e1] at q14 hsz2
        clear e1
        have hown' := fun oo => hown.alloc oo
        cases e2 : decide (f.obj.toList = o.toList)
        · have e3 : (f.obj.toList == o.toList) = false := by simpa using e2
          have HM := Lib.hid (show (!f.he && decide (f.obj.toList = o.toList)) = false by rw [hm, e2]; rfl)
          clear hm hsz2
          have HO := Lib.hid hown'
          clear hown hown'
          go_wp2
          go_roundw
          case rel =>
            refine ⟨k + 1, by omega, by go_num, ?_, HX.out.alloc _⟩
            rw [HS.out, HM.out, HL.out]
            exact HO.out _
          case measure => simp [intOf] <;> omega
        · have e3 : (f.obj.toList == o.toList) = true := by simpa using e2
          have HM := Lib.hid (show (!f.he && decide (f.obj.toList = o.toList)) = true by rw [hm, e2]; rfl)
          clear hm
          go_wp2_with (at_builtin; refine wpList_append_new _ rfl _ _ 43 rfl w.heap.size 2 _ 1 8 Try.underlying43 info2 rfl (by omega) _ L.length _ rfl (hown' _) 1 1 (wr.heap.size + 1) (by simp) _ rfl rfl (by simp [Value.oneCell']) (by simp [maxLen]; omega) (by omega) hsz2 ?_; intro v1 w3 hown2 hm2)
          have hx3 := ext_moved (HX.out.alloc _) (hown' _) hm2
          clear hown hown' hm2
          go_roundw
          case rel =>
            refine ⟨k + 1, by omega, by go_num, ?_, hx3⟩
            rw [HS.out, HM.out, HL.out]
            simpa using hown2
          case measure => simp [intOf] <;> omega
      · have e1 : heI f = 1 := by simp [heI, hm]
        rw [e1] at q14
        have HM := Lib.hid (show (!f.he && decide (f.obj.toList = o.toList)) = false by rw [hm]; rfl)
        clear e1 hm hsz2
        have HO := Lib.hid (fun oo => hown.alloc oo)
        clear hown
        go_wp2
        go_roundw
        case rel =>
          refine ⟨k + 1, by omega, by go_num, ?_, HX.out.alloc _⟩
          rw [HS.out, HM.out, HL.out]
          exact HO.out _
        case measure => simp [intOf] <;> omega
    · obtain rfl : k = l.length := by omega
      rw [List.take_length] at hown
      have HO := Lib.hid hown
      obtain ⟨A3, c3, rfl, _⟩ := own_shape hown
      clear hown
      go_wp2
      go_ret
      exact ⟨_, rfl, HO.out, hx⟩
end Go.Proofs.Ytaanbgagdanalaa
