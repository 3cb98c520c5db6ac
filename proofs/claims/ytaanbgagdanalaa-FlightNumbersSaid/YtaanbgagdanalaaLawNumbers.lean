/- The walk of FlightNumbers. -/
import Derived.Test.YtaanbgagdanalaaRuns
namespace Go.Proofs.Ytaanbgagdanalaa
open Go.RowKit

theorem quit_last (t : Tab) (id q : Int) : (t.quit id q).1.last = t.last := by unfold Tab.quit; split <;> rfl
theorem join_last (t : Tab) (id q : Int) : (t.join id q).1.last = t.last := by unfold Tab.join; split <;> (try split) <;> rfl
theorem hear_last (t : Tab) (a b c d : Int) : (t.hear a b c d).1.last = t.last := by
  unfold Tab.hear
  split
  · rfl
  · repeat' split
    all_goals rfl
theorem move_last (t : Tab) (a b : Int) : (t.move a b).1.last = t.last := by
  unfold Tab.move
  split
  · rfl
  · repeat' split
    all_goals rfl
theorem end_last (t : Tab) (a : Int) : (t.end_ a).1.last = t.last := by unfold Tab.end_; split <;> rfl
theorem step_last (t : Tab) (a : Op) (h : ¬ a.kind % 7 = 0) : (t.step a).last = t.last := by
  unfold Tab.step
  rw [if_neg h]
  repeat' split
  · exact join_last _ _ _
  · rfl
  · exact quit_last _ _ _
  · exact hear_last _ _ _ _ _
  · exact move_last _ _ _
  · exact end_last _ _

set_option maxHeartbeats 4000000 in
set_option maxRecDepth 100000 in
theorem lawNumbers_calls (A : Option Addr) (c : Nat) (l : List Op) (w : World) (hr : Ops w A l ∧ l.length ≤ maxLen) :
    Calls Try.prog 4 #[.slice A l.length c] w fun e w' => e = .returned (.bool true) ∧ Ext w w' := by
  obtain ⟨hr, hm⟩ := hr
  go_enter Try.func4, Try.ntmps4
  go_wp2_with fail
  refine (small_calls A c l w hr hm).mono ?_
  rintro e w1 ⟨b, rfl, hb, hx1⟩
  cases b
  · clear hb
    go_wp2_with fail
    refine (awake_calls _).mono ?_
    rintro e w2 ⟨rfl, hx⟩
    go_wp2
    go_ret
    exact ⟨rfl, hx1.trans hx⟩
  have hlen : l.length ≤ 60 := hb rfl
  replace hr := hr.ext hx1
  clear hb hm
  go_wp2_with fail
  refine (new_calls w1).mono ?_
  rintro e w2 ⟨rfl, h2⟩
  have hS0 := Stage.first h2
  have HS0 := Lib.hid hS0
  clear hS0 h2
  go_wp2
  generalize w2.heap.size = xb at *
  generalize w2.alloc (.cells #[.slice none 0 0, .int .i64 0] 51) = w3 at *
  go_loopw [5, 21] (fun la i wr => ∃ (k : Nat) (O C : List Nat), k ≤ l.length ∧ i = .int .i64 k ∧ la = .int .i64 (runs l k).last ∧ Stage w1 wr w1.heap.size O (runs l k) xb C (runs l k) []) (fun _ i _ => l.length - (intOf i).toNat)
  case atStart => exact ⟨0, _, _, Nat.zero_le _, rfl, rfl, HS0.out⟩
  case round =>
    obtain ⟨k, O, C, hk, rfl, rfl, hS⟩ := hrel
    by_cases hlt : k < l.length
    · obtain ⟨hkk, g, og, rfl, hro⟩ := hr k hlt
      have hup := runs_upto l k hk
      have hst := runs_succ hlt
      obtain ⟨a, ha⟩ : ∃ a, l[k] = a := ⟨_, rfl⟩
      rw [ha] at hro hkk hst
      have hra : wr.rangeAt g (og + k * 21) [.int .u8 a.kind, .int .i64 a.f.id, .string a.f.obj, .int .i64 a.f.fr, .int .i64 a.f.to, .string a.f.mt, .bool a.f.mw, .string a.f.nt, .bool a.f.nw, .int .i64 a.f.en, .int .i64 a.f.sa, .int .i64 a.f.mo, .int .i64 a.f.ge, .int .i64 a.f.pl, .bool a.f.he, .int .i64 a.id, .int .i64 a.who, .int .i64 a.en, .int .i64 a.n, .int .i64 a.to, .string a.obj] := fun j u hu => hS.ext.cell (hro j u hu)
      have ht : (wr.alloc (.cells #[.int .u8 0, .int .i64 0, .string ⟨#[]⟩, .int .i64 0, .int .i64 0, .string ⟨#[]⟩, .bool false, .string ⟨#[]⟩, .bool false, .int .i64 0, .int .i64 0, .int .i64 0, .int .i64 0, .int .i64 0, .bool false, .int .i64 0, .int .i64 0, .int .i64 0, .int .i64 0, .int .i64 0, .string ⟨#[]⟩] 53)).there wr.heap.size 0 21 := there_of_block (heap_alloc_new wr _) rfl
      have HC := Lib.hid (hS.copy #[.int .u8 0, .int .i64 0, .string ⟨#[]⟩, .int .i64 0, .int .i64 0, .string ⟨#[]⟩, .bool false, .string ⟨#[]⟩, .bool false, .int .i64 0, .int .i64 0, .int .i64 0, .int .i64 0, .int .i64 0, .bool false, .int .i64 0, .int .i64 0, .int .i64 0, .int .i64 0, .int .i64 0, .string ⟨#[]⟩] 53 (#[.int .u8 a.kind, .int .i64 a.f.id, .string a.f.obj, .int .i64 a.f.fr, .int .i64 a.f.to, .string a.f.mt, .bool a.f.mw, .string a.f.nt, .bool a.f.nw, .int .i64 a.f.en, .int .i64 a.f.sa, .int .i64 a.f.mo, .int .i64 a.f.ge, .int .i64 a.f.pl, .bool a.f.he, .int .i64 a.id, .int .i64 a.who, .int .i64 a.en, .int .i64 a.n, .int .i64 a.to, .string a.obj] : Array Value).toList rfl)
      have HR := Lib.hid hst
      have HSM := Lib.hid (hup.small (by omega))
      obtain ⟨la0, la1⟩ : (runs l k).last ≤ k ∧ 0 ≤ (runs l k).last := ⟨hup.2.1, hup.2.2.1⟩
      have HSL := Lib.hid (step_last (runs l k) a)
      obtain ⟨t, ht0⟩ : ∃ t, runs l k = t := ⟨_, rfl⟩
      rw [ht0] at HR HSM HC HSL la0 la1 ⊢
      clear hro hst hup ha hr ht0 hS HS0
      go_upto_region 11 with (first | (refine wpList_load_mid rfl 53 _ rfl g (og + k * 21) (by rfl) _ _ hra Try.underlying53 rfl size53 ?_) | (refine wpList_store_mid rfl 53 _ _ rfl wr.heap.size 0 #[.int .u8 a.kind, .int .i64 a.f.id, .string a.f.obj, .int .i64 a.f.fr, .int .i64 a.f.to, .string a.f.mt, .bool a.f.mw, .string a.f.nt, .bool a.f.nw, .int .i64 a.f.en, .int .i64 a.f.sa, .int .i64 a.f.mo, .int .i64 a.f.ge, .int .i64 a.f.pl, .bool a.f.he, .int .i64 a.id, .int .i64 a.who, .int .i64 a.en, .int .i64 a.n, .int .i64 a.to, .string a.obj] rfl rfl ht size53 (by simp [Value.oneCell']) ?_))
      generalize (wr.alloc (.cells #[.int .u8 0, .int .i64 0, .string ⟨#[]⟩, .int .i64 0, .int .i64 0, .string ⟨#[]⟩, .bool false, .string ⟨#[]⟩, .bool false, .int .i64 0, .int .i64 0, .int .i64 0, .int .i64 0, .int .i64 0, .bool false, .int .i64 0, .int .i64 0, .int .i64 0, .int .i64 0, .int .i64 0, .string ⟨#[]⟩] 53)).setCells wr.heap.size 0 (#[.int .u8 a.kind, .int .i64 a.f.id, .string a.f.obj, .int .i64 a.f.fr, .int .i64 a.f.to, .string a.f.mt, .bool a.f.mw, .string a.f.nt, .bool a.f.nw, .int .i64 a.f.en, .int .i64 a.f.sa, .int .i64 a.f.mo, .int .i64 a.f.ge, .int .i64 a.f.pl, .bool a.f.he, .int .i64 a.id, .int .i64 a.who, .int .i64 a.en, .int .i64 a.n, .int .i64 a.to, .string a.obj] : Array Value).toList = wx at *
      generalize hcb : wr.heap.size = cb at *
      clear hcb
      have c0 : wx.cell? ⟨cb, 0, none⟩ = some (.int .u8 a.kind) := HC.out.cell 0 rfl
      by_cases h0 : a.kind % 7 = 0
      · have hks : t.step a = (t.start a.f).1 := by unfold Tab.step; rw [if_pos h0]
        rw [hks] at HR
        have hA := start_calls w1.heap.size w1.heap.size O t a.f wx HC.out.t HC.out.ext.size HSM.out
        have hB := fun W O s (hh : Stage w1 W w1.heap.size O s xb C t ((cb, (#[.int .u8 a.kind, .int .i64 a.f.id, .string a.f.obj, .int .i64 a.f.fr, .int .i64 a.f.to, .string a.f.mt, .bool a.f.mw, .string a.f.nt, .bool a.f.nw, .int .i64 a.f.en, .int .i64 a.f.sa, .int .i64 a.f.mo, .int .i64 a.f.ge, .int .i64 a.f.pl, .bool a.f.he, .int .i64 a.id, .int .i64 a.who, .int .i64 a.en, .int .i64 a.n, .int .i64 a.to, .string a.obj] : Array Value).toList) :: [])) => startR_calls w1.heap.size xb C t a.f W hh.r hh.ext.size HSM.out
        obtain ⟨r1, r2, e1, e2, e3⟩ : ∃ r1 r2, (t.start a.f).2.1 = r1 ∧ (t.start a.f).2.2 = r2 ∧ (r1 = 0 ∧ r2 = 1 ∧ (t.start a.f).1.last = t.last ∨ r1 = t.last + 1 ∧ r2 = 0 ∧ (t.start a.f).1.last = t.last + 1) := by
          refine ⟨_, _, rfl, rfl, ?_⟩
          cases hst : starts a.f <;> simp [Tab.start, hst]
        rw [e1, e2] at hA hB
        have HB := Lib.hid hB
        have HE := Lib.hid e3
        clear hB e1 e2 e3 hks HSL
        generalize (t.start a.f).1 = t' at *
        have c1 : wx.cell? ⟨cb, 1, none⟩ = some (.int .i64 a.f.id) := HC.out.cell 1 rfl
        have c2 : wx.cell? ⟨cb, 2, none⟩ = some (.string a.f.obj) := HC.out.cell 2 rfl
        have c3 : wx.cell? ⟨cb, 3, none⟩ = some (.int .i64 a.f.fr) := HC.out.cell 3 rfl
        have c4 : wx.cell? ⟨cb, 4, none⟩ = some (.int .i64 a.f.to) := HC.out.cell 4 rfl
        have c5 : wx.cell? ⟨cb, 5, none⟩ = some (.string a.f.mt) := HC.out.cell 5 rfl
        have c6 : wx.cell? ⟨cb, 6, none⟩ = some (.bool a.f.mw) := HC.out.cell 6 rfl
        have c7 : wx.cell? ⟨cb, 7, none⟩ = some (.string a.f.nt) := HC.out.cell 7 rfl
        have c8 : wx.cell? ⟨cb, 8, none⟩ = some (.bool a.f.nw) := HC.out.cell 8 rfl
        have c9 : wx.cell? ⟨cb, 9, none⟩ = some (.int .i64 a.f.en) := HC.out.cell 9 rfl
        have c10 : wx.cell? ⟨cb, 10, none⟩ = some (.int .i64 a.f.sa) := HC.out.cell 10 rfl
        have c11 : wx.cell? ⟨cb, 11, none⟩ = some (.int .i64 a.f.mo) := HC.out.cell 11 rfl
        have c12 : wx.cell? ⟨cb, 12, none⟩ = some (.int .i64 a.f.ge) := HC.out.cell 12 rfl
        have c13 : wx.cell? ⟨cb, 13, none⟩ = some (.int .i64 a.f.pl) := HC.out.cell 13 rfl
        have c14 : wx.cell? ⟨cb, 14, none⟩ = some (.bool a.f.he) := HC.out.cell 14 rfl
        go_wp2_with fail
        refine hA.mono ?_
        intro e w4 k4
        obtain ⟨rfl, O1, h4⟩ := HC.out.act k4
        clear HC k4 hA c0 c1 c2 c3 c4 c5 c6 c7 c8 c9 c10 c11 c12 c13 c14
        have c1 : w4.cell? ⟨cb, 1, none⟩ = some (.int .i64 a.f.id) := h4.out.cell 1 rfl
        have c2 : w4.cell? ⟨cb, 2, none⟩ = some (.string a.f.obj) := h4.out.cell 2 rfl
        have c3 : w4.cell? ⟨cb, 3, none⟩ = some (.int .i64 a.f.fr) := h4.out.cell 3 rfl
        have c4 : w4.cell? ⟨cb, 4, none⟩ = some (.int .i64 a.f.to) := h4.out.cell 4 rfl
        have c5 : w4.cell? ⟨cb, 5, none⟩ = some (.string a.f.mt) := h4.out.cell 5 rfl
        have c6 : w4.cell? ⟨cb, 6, none⟩ = some (.bool a.f.mw) := h4.out.cell 6 rfl
        have c7 : w4.cell? ⟨cb, 7, none⟩ = some (.string a.f.nt) := h4.out.cell 7 rfl
        have c8 : w4.cell? ⟨cb, 8, none⟩ = some (.bool a.f.nw) := h4.out.cell 8 rfl
        have c9 : w4.cell? ⟨cb, 9, none⟩ = some (.int .i64 a.f.en) := h4.out.cell 9 rfl
        have c10 : w4.cell? ⟨cb, 10, none⟩ = some (.int .i64 a.f.sa) := h4.out.cell 10 rfl
        have c11 : w4.cell? ⟨cb, 11, none⟩ = some (.int .i64 a.f.mo) := h4.out.cell 11 rfl
        have c12 : w4.cell? ⟨cb, 12, none⟩ = some (.int .i64 a.f.ge) := h4.out.cell 12 rfl
        have c13 : w4.cell? ⟨cb, 13, none⟩ = some (.int .i64 a.f.pl) := h4.out.cell 13 rfl
        have c14 : w4.cell? ⟨cb, 14, none⟩ = some (.bool a.f.he) := h4.out.cell 14 rfl
        go_wp2_with fail
        refine (ref_calls a.f w4).mono ?_
        rintro e w5 ⟨rfl, hx⟩
        replace h4 := Lib.hid (h4.out.step hx)
        clear hx
        go_wp2_with fail
        refine (HB.out w5 _ _ h4.out).mono ?_
        intro e w6 k6
        obtain ⟨rfl, C3, h6⟩ := h4.out.ract k6
        clear k6 h4 HB c1 c2 c3 c4 c5 c6 c7 c8 c9 c10 c11 c12 c13 c14
        rcases HE.out with ⟨rfl, rfl, e3⟩ | ⟨rfl, rfl, e3⟩
        · clear HE
          have E3 := Lib.hid e3
          clear e3
          go_wp2
          go_roundw
          case rel => exact ⟨k + 1, _, _, by omega, by go_num, by rw [HR.out, E3.out], by rw [HR.out]; exact h6.out.less⟩
          case measure => simp [intOf] <;> omega
        · clear HE
          have E3 := Lib.hid e3
          clear e3
          go_wp2
          go_roundw
          case rel => exact ⟨k + 1, _, _, by omega, by go_num, by rw [HR.out, E3.out], by rw [HR.out]; exact h6.out.less⟩
          case measure => simp [intOf] <;> omega
      · have hl2 := HSL.out h0
        have HL := Lib.hid hl2
        have hD := Lib.hid (do_calls w1 w1.heap.size xb O C t ((cb, (#[.int .u8 a.kind, .int .i64 a.f.id, .string a.f.obj, .int .i64 a.f.fr, .int .i64 a.f.to, .string a.f.mt, .bool a.f.mw, .string a.f.nt, .bool a.f.nw, .int .i64 a.f.en, .int .i64 a.f.sa, .int .i64 a.f.mo, .int .i64 a.f.ge, .int .i64 a.f.pl, .bool a.f.he, .int .i64 a.id, .int .i64 a.who, .int .i64 a.en, .int .i64 a.n, .int .i64 a.to, .string a.obj] : Array Value).toList) :: []) a)
        have hcr : wx.rangeAt cb 0 [.int .u8 a.kind, .int .i64 a.f.id, .string a.f.obj, .int .i64 a.f.fr, .int .i64 a.f.to, .string a.f.mt, .bool a.f.mw, .string a.f.nt, .bool a.f.nw, .int .i64 a.f.en, .int .i64 a.f.sa, .int .i64 a.f.mo, .int .i64 a.f.ge, .int .i64 a.f.pl, .bool a.f.he, .int .i64 a.id, .int .i64 a.who, .int .i64 a.en, .int .i64 a.n, .int .i64 a.to, .string a.obj] := (HC.out.at_ _ (List.mem_cons_self ..)).2.2.2
        have HCR := Lib.hid hcr
        clear hl2 HSL hcr
        go_wp2_with (refine wpList_load_mid rfl 53 _ rfl cb 0 (by rfl) _ _ HCR.out Try.underlying53 rfl size53 ?_)
        refine (hD.out wx HC.out HSM.out hkk).mono ?_
        rintro e w4 ⟨rfl, O', C', h4⟩
        have H4 := Lib.hid h4
        clear h4 hD HC HCR c0
        go_wp2
        go_roundw
        case rel => exact ⟨k + 1, _, _, by omega, by go_num, by rw [HR.out, HL.out], by rw [HR.out]; exact H4.out.less⟩
        case measure => simp [intOf] <;> omega
    · obtain rfl : k = l.length := by omega
      have HX := Lib.hid hS.ext
      clear hS
      go_wp2_with fail
      refine (awake_calls _).mono ?_
      rintro e w8 ⟨rfl, x8⟩
      go_wp2
      go_ret
      exact ⟨rfl, (hx1.trans HX.out).trans x8⟩
end Go.Proofs.Ytaanbgagdanalaa
