/- The contract of Unheard. -/
import Derived.Test.YtaanbgagdanalaaLeave
import Derived.Test.YtaanbgagdanalaaRUnh
namespace Go.Proofs.Ytaanbgagdanalaa
open Go.RowKit

set_option maxHeartbeats 1000000 in
set_option maxRecDepth 100000 in
theorem unheard_calls (N tb : Nat) (O : List Nat) (t : Tab) (o : ByteArray) (w : World) (h : TabR N w tb O t) (hs : Small t) :
    Calls Try.prog 27 #[.pointer (some ⟨tb, 0, none⟩), .string o] w (NumPost w (t.unheard o)) := by
  obtain ⟨lv, ys, hT, el, rfl⟩ := h
  obtain ⟨s1, s2, s2', s3, s4⟩ := hs
  rw [el] at s1 s4
  unfold Tab.unheard
  rw [el]
  have hl : ys.length ≤ 1000 := by simpa using s1
  obtain ⟨A, c, e, hc, hrow⟩ := hT.shape
  have c0 := hT.c0
  rw [e] at c0
  have HT := Lib.hid hT
  have HF := Lib.hid s4
  clear s1 s3 s4 el e hT
  go_enter Try.func27, Try.ntmps27
  go_wp2
  go_loopw [5, 13] (fun out i wr => ∃ k : Nat, k ≤ ys.length ∧ i = .int .i64 k ∧ wr.ownsRow w.heap.size 2 1 out ((((ys.map Fy.f).take k).filter fun f => !f.he && decide (f.obj.toList = o.toList)).map Fl.id).length (((((ys.map Fy.f).take k).filter fun f => !f.he && decide (f.obj.toList = o.toList)).map Fl.id).map (Value.int .i64)) ∧ Ext w wr) (fun _ i _ => ys.length - (intOf i).toNat)
  case atStart => exact ⟨0, Nat.zero_le _, rfl, World.ownsRow_nil _ _ _ _, Ext.refl _⟩
  case round =>
    obtain ⟨k, hk, rfl, hown, hx⟩ := hrel
    by_cases hlt : k < ys.length
    · obtain ⟨g, rfl, hcell⟩ := hrow k hlt
      have hy := (HT.out.all k hlt).keep (C := []) (Turn.of_ext hx) (fun _ _ a => by cases a)
      have hfi : Fine ys[k].f := HF.out _ (List.mem_map_of_mem (List.getElem_mem hlt))
      replace hcell := hx.cell hcell
      have hstep := take_filter (l := ys.map Fy.f) (k := k) (by simpa using hlt) fun f => !f.he && decide (f.obj.toList = o.toList)
      rw [List.getElem_map] at hstep
      obtain ⟨y, hyy⟩ : ∃ y, ys[k] = y := ⟨_, rfl⟩
      rw [hyy] at hy hfi hcell hstep
      have c13 := hy.cell 13 (u := .bool y.f.he) rfl
      have c1 := hy.cell 1 (u := .string y.f.obj) rfl
      have ci := hy.cell 0 (u := .int .i64 y.f.id) rfl
      have hlen : ((((ys.map Fy.f).take k).filter fun f => !f.he && decide (f.obj.toList = o.toList)).map Fl.id).length ≤ 1000 := by
        rw [List.length_map]
        refine Nat.le_trans (List.length_filter_le _ _) ?_
        simp; omega
      have HY := Lib.hid hyy
      have HS := Lib.hid hstep
      have HX := Lib.hid hx
      have hsz := hx.size
      clear hyy hstep hx hy hfi hrow
      obtain ⟨L, hL⟩ : ∃ L, (((ys.map Fy.f).take k).filter fun f => !f.he && decide (f.obj.toList = o.toList)).map Fl.id = L := ⟨_, rfl⟩
      rw [hL] at hown hlen
      have HL := Lib.hid hL
      clear hL
      obtain ⟨A3, c3, rfl, _⟩ := own_shape hown
      cases hm : y.f.he
      · rw [hm] at c13
        cases e2 : decide (y.f.obj.toList = o.toList)
        · have e3 : (y.f.obj.toList == o.toList) = false := by simpa using e2
          have HM := Lib.hid (show (!y.f.he && decide (y.f.obj.toList = o.toList)) = false by rw [hm, e2]; rfl)
          clear hm
          go_wp2
          go_roundw
          case rel =>
            refine ⟨k + 1, by omega, by go_num, ?_, HX.out⟩
            rw [HS.out, HM.out, HL.out]
            exact hown
          case measure => simp [intOf] <;> omega
        · have e3 : (y.f.obj.toList == o.toList) = true := by simpa using e2
          have HM := Lib.hid (show (!y.f.he && decide (y.f.obj.toList = o.toList)) = true by rw [hm, e2]; rfl)
          clear hm
          go_wp2_with (at_builtin; refine wpList_append_new _ rfl _ _ 43 rfl w.heap.size 2 _ 1 8 Try.underlying43 info2 rfl (by omega) _ L.length _ rfl hown 1 1 _ rfl _ rfl rfl (by simp [Value.oneCell']) (by simp [maxLen]; omega) (by omega) hsz ?_; intro v1 w3 hown2 hm2)
          have hx3 := ext_moved HX.out hown hm2
          go_roundw
          case rel =>
            refine ⟨k + 1, by omega, by go_num, ?_, hx3⟩
            rw [HS.out, HM.out, HL.out]
            simpa using hown2
          case measure => simp [intOf] <;> omega
      · rw [hm] at c13
        have HM := Lib.hid (show (!y.f.he && decide (y.f.obj.toList = o.toList)) = false by rw [hm]; rfl)
        clear hm
        go_wp2
        go_roundw
        case rel =>
          refine ⟨k + 1, by omega, by go_num, ?_, HX.out⟩
          rw [HS.out, HM.out, HL.out]
          exact hown
        case measure => simp [intOf] <;> omega
    · obtain rfl : k = ys.length := by omega
      have e1 : (ys.map Fy.f).take ys.length = ys.map Fy.f := List.take_of_length_le (by simp)
      rw [e1] at hown
      have HO := Lib.hid hown
      obtain ⟨A3, c3, rfl, _⟩ := own_shape hown
      clear hown
      go_wp2
      go_ret
      exact ⟨_, rfl, HO.out, hx⟩

end Go.Proofs.Ytaanbgagdanalaa
