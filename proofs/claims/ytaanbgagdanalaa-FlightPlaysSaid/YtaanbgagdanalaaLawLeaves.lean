/- The walk of FlightLeaves. -/
import Derived.Test.YtaanbgagdanalaaLeft
namespace Go.Proofs.Ytaanbgagdanalaa
open Go.RowKit

theorem size30 : (Try.prog.info? 30).map (·.size) = some 14 := by kernel_rfl

set_option maxHeartbeats 4000000 in
set_option maxRecDepth 100000 in
theorem lawLeaves_calls (A : Option Addr) (c : Nat) (l : List Op) (q : Int) (w : World) (hr : Ops w A l ∧ l.length ≤ maxLen) :
    Calls Try.prog 5 #[.slice A l.length c, .int .i64 q] w fun e w' => e = .returned (.bool true) ∧ Ext w w' := by
  obtain ⟨hr, hm⟩ := hr
  go_enter Try.func5, Try.ntmps5
  go_wp2_with fail
  refine (small_calls A c l w hr hm).mono ?_
  rintro e w1 ⟨b, rfl, hb, hx1⟩
  cases b
  · clear hb
    go_wp2_with fail
    refine (awake_calls _).mono ?_
    rintro e w2 ⟨rfl, hx⟩
    go_wp2
    go_ret
    exact ⟨rfl, hx1.trans hx⟩
  have hlen : l.length ≤ 60 := hb rfl
  replace hr := hr.ext hx1
  clear hb hm
  go_wp2_with fail
  refine (new_calls w1).mono ?_
  rintro e w2 ⟨rfl, h2⟩
  have HS0 := Lib.hid (Stage.first h2)
  clear h2
  go_wp2
  generalize w2.heap.size = xb at *
  generalize w2.alloc (.cells #[.slice none 0 0, .int .i64 0] 51) = w3 at *
  go_loopw [29] (fun i wr => ∃ (k : Nat) (O C : List Nat), k ≤ l.length ∧ i = .int .i64 k ∧ Stage w1 wr w1.heap.size O (runs l k) xb C (runs l k) []) (fun i _ => l.length - (intOf i).toNat)
  case atStart => exact ⟨0, _, _, Nat.zero_le _, rfl, HS0.out⟩
  case round =>
    obtain ⟨k, O, C, hk, rfl, hS⟩ := hrel
    by_cases hlt : k < l.length
    · obtain ⟨hkk, g, og, rfl, hro⟩ := hr k hlt
      have hup := runs_upto l k hk
      have hst := runs_succ hlt
      obtain ⟨a, ha⟩ : ∃ a, l[k] = a := ⟨_, rfl⟩
      rw [ha] at hro hkk hst
      have hra : wr.rangeAt g (og + k * 21) [.int .u8 a.kind, .int .i64 a.f.id, .string a.f.obj, .int .i64 a.f.fr, .int .i64 a.f.to, .string a.f.mt, .bool a.f.mw, .string a.f.nt, .bool a.f.nw, .int .i64 a.f.en, .int .i64 a.f.sa, .int .i64 a.f.mo, .int .i64 a.f.ge, .int .i64 a.f.pl, .bool a.f.he, .int .i64 a.id, .int .i64 a.who, .int .i64 a.en, .int .i64 a.n, .int .i64 a.to, .string a.obj] := fun j u hu => hS.ext.cell (hro j u hu)
      have ht : (wr.alloc (.cells #[.int .u8 0, .int .i64 0, .string ⟨#[]⟩, .int .i64 0, .int .i64 0, .string ⟨#[]⟩, .bool false, .string ⟨#[]⟩, .bool false, .int .i64 0, .int .i64 0, .int .i64 0, .int .i64 0, .int .i64 0, .bool false, .int .i64 0, .int .i64 0, .int .i64 0, .int .i64 0, .int .i64 0, .string ⟨#[]⟩] 53)).there wr.heap.size 0 21 := there_of_block (heap_alloc_new wr _) rfl
      have HC := Lib.hid (hS.copy #[.int .u8 0, .int .i64 0, .string ⟨#[]⟩, .int .i64 0, .int .i64 0, .string ⟨#[]⟩, .bool false, .string ⟨#[]⟩, .bool false, .int .i64 0, .int .i64 0, .int .i64 0, .int .i64 0, .int .i64 0, .bool false, .int .i64 0, .int .i64 0, .int .i64 0, .int .i64 0, .int .i64 0, .string ⟨#[]⟩] 53 (#[.int .u8 a.kind, .int .i64 a.f.id, .string a.f.obj, .int .i64 a.f.fr, .int .i64 a.f.to, .string a.f.mt, .bool a.f.mw, .string a.f.nt, .bool a.f.nw, .int .i64 a.f.en, .int .i64 a.f.sa, .int .i64 a.f.mo, .int .i64 a.f.ge, .int .i64 a.f.pl, .bool a.f.he, .int .i64 a.id, .int .i64 a.who, .int .i64 a.en, .int .i64 a.n, .int .i64 a.to, .string a.obj] : Array Value).toList rfl)
      have HR := Lib.hid hst
      have HSM := Lib.hid (hup.small (by omega))
      obtain ⟨t, ht0⟩ : ∃ t, runs l k = t := ⟨_, rfl⟩
      rw [ht0] at HR HSM HC
      clear hro hst hup ha hr ht0 hS HS0
      go_upto_region 10 with (first | (refine wpList_load_mid rfl 53 _ rfl g (og + k * 21) (by rfl) _ _ hra Try.underlying53 rfl size53 ?_) | (refine wpList_store_mid rfl 53 _ _ rfl wr.heap.size 0 #[.int .u8 a.kind, .int .i64 a.f.id, .string a.f.obj, .int .i64 a.f.fr, .int .i64 a.f.to, .string a.f.mt, .bool a.f.mw, .string a.f.nt, .bool a.f.nw, .int .i64 a.f.en, .int .i64 a.f.sa, .int .i64 a.f.mo, .int .i64 a.f.ge, .int .i64 a.f.pl, .bool a.f.he, .int .i64 a.id, .int .i64 a.who, .int .i64 a.en, .int .i64 a.n, .int .i64 a.to, .string a.obj] rfl rfl ht size53 (by simp [Value.oneCell']) ?_))
      generalize (wr.alloc (.cells #[.int .u8 0, .int .i64 0, .string ⟨#[]⟩, .int .i64 0, .int .i64 0, .string ⟨#[]⟩, .bool false, .string ⟨#[]⟩, .bool false, .int .i64 0, .int .i64 0, .int .i64 0, .int .i64 0, .int .i64 0, .bool false, .int .i64 0, .int .i64 0, .int .i64 0, .int .i64 0, .int .i64 0, .string ⟨#[]⟩] 53)).setCells wr.heap.size 0 (#[.int .u8 a.kind, .int .i64 a.f.id, .string a.f.obj, .int .i64 a.f.fr, .int .i64 a.f.to, .string a.f.mt, .bool a.f.mw, .string a.f.nt, .bool a.f.nw, .int .i64 a.f.en, .int .i64 a.f.sa, .int .i64 a.f.mo, .int .i64 a.f.ge, .int .i64 a.f.pl, .bool a.f.he, .int .i64 a.id, .int .i64 a.who, .int .i64 a.en, .int .i64 a.n, .int .i64 a.to, .string a.obj] : Array Value).toList = wx at *
      generalize hcb : wr.heap.size = cb at *
      clear hcb
      have hD := Lib.hid (do_calls w1 w1.heap.size xb O C t ((cb, (#[.int .u8 a.kind, .int .i64 a.f.id, .string a.f.obj, .int .i64 a.f.fr, .int .i64 a.f.to, .string a.f.mt, .bool a.f.mw, .string a.f.nt, .bool a.f.nw, .int .i64 a.f.en, .int .i64 a.f.sa, .int .i64 a.f.mo, .int .i64 a.f.ge, .int .i64 a.f.pl, .bool a.f.he, .int .i64 a.id, .int .i64 a.who, .int .i64 a.en, .int .i64 a.n, .int .i64 a.to, .string a.obj] : Array Value).toList) :: []) a)
      have HCR := Lib.hid (show wx.rangeAt cb 0 [.int .u8 a.kind, .int .i64 a.f.id, .string a.f.obj, .int .i64 a.f.fr, .int .i64 a.f.to, .string a.f.mt, .bool a.f.mw, .string a.f.nt, .bool a.f.nw, .int .i64 a.f.en, .int .i64 a.f.sa, .int .i64 a.f.mo, .int .i64 a.f.ge, .int .i64 a.f.pl, .bool a.f.he, .int .i64 a.id, .int .i64 a.who, .int .i64 a.en, .int .i64 a.n, .int .i64 a.to, .string a.obj] from (HC.out.at_ _ (List.mem_cons_self ..)).2.2.2)
      go_wp2_with (refine wpList_load_mid rfl 53 _ rfl cb 0 (by rfl) _ _ HCR.out Try.underlying53 rfl size53 ?_)
      refine (hD.out wx HC.out HSM.out hkk).mono ?_
      rintro e w4 ⟨rfl, O', C', h4⟩
      have H4 := Lib.hid h4
      clear h4 hD HC HCR
      go_wp2
      go_roundw
      case rel => exact ⟨k + 1, _, _, by omega, by go_num, by rw [HR.out]; exact H4.out.less⟩
      case measure => simp [intOf] <;> omega
    · obtain rfl : k = l.length := by omega
      have hup := runs_upto l l.length (Nat.le_refl _)
      have hsm := hup.small (by omega)
      have hsm1 := (hup.leave q).small (by omega)
      have hnl := hup.1
      obtain ⟨t, ht⟩ : ∃ t, runs l l.length = t := ⟨_, rfl⟩
      rw [ht] at hS hsm hsm1 hnl
      clear ht hup hr HS0
      have ha1 := leave_calls w1.heap.size w1.heap.size O t q _ hS.t hsm
      have hal : (t.leave q).2 = alones t.l q t.l.length := (alones_all t.l q).symm
      have hof0 := leave_of (q := q) hsm
      have htw := leave_twice (q := q) hsm
      obtain ⟨t1, ht1⟩ : ∃ t1, (t.leave q).1 = t1 := ⟨_, rfl⟩
      rw [ht1, hal] at ha1
      rw [ht1] at hsm1 hof0 htw
      have HT1 := Lib.hid ht1
      have HSM := Lib.hid hsm
      have HSM1 := Lib.hid hsm1
      clear ht1 hal hsm hsm1
      obtain ⟨al, hal⟩ : ∃ al, alones t.l q t.l.length = al := ⟨_, rfl⟩
      rw [hal] at ha1
      have HAL := Lib.hid hal
      have hall := alones_le t.l q t.l.length
      rw [hal] at hall
      clear hal
      have HS := Lib.hid hS
      clear hS
      go_wp2_with fail
      refine ha1.mono ?_
      rintro e w4 ⟨v, O1, rfl, r4, t4, n4, o4, p4⟩
      have hS1 := HS.out.turn1 t4 n4 o4
      obtain ⟨_, A1, c1, rfl, _, _⟩ := row_ints r4
      have hof := of_calls w1.heap.size w1.heap.size O1 t1 q w4 hS1.t HSM1.out
      rw [hof0] at hof
      have R4 := Lib.hid r4
      have HS1 := Lib.hid hS1
      have P4 := Lib.hid p4
      clear ha1 hof0 r4 t4 n4 o4 hS1 p4 HS
      go_wp2_with fail
      refine hof.mono ?_
      rintro e w5 ⟨v, rfl, r5, x5⟩
      obtain ⟨A5, c5, e5, _⟩ := own_shape r5
      have e5' : v = .slice A5 0 c5 := e5
      subst e5'
      have hS2 := HS1.out.step x5
      have hl2 := leave_calls w1.heap.size w1.heap.size O1 t1 q w5 hS2.t HSM1.out
      rw [htw] at hl2
      replace R4 := Lib.hid (ownsRow_ext R4.out x5)
      have HS2 := Lib.hid hS2
      clear hof r5 e5 htw HS1 hS2 x5
      go_wp2_with fail
      refine hl2.mono ?_
      rintro e w6 ⟨v, O2, rfl, r6, t6, n6, o6, p6⟩
      obtain ⟨A6, c6, e6, _⟩ := own_shape r6
      have e6' : v = .slice A6 0 c6 := e6
      subst e6'
      have hS3 := HS2.out.turn1 t6 n6 o6
      replace R4 := Lib.hid (n6.row R4.out P4.out)
      have hall1 := all_calls w1.heap.size w1.heap.size O2 t1 w6 hS3.t HSM1.out
      have HS3 := Lib.hid hS3
      clear hl2 r6 t6 n6 o6 p6 e6 HS2 hS3 P4
      go_wp2_with fail
      refine hall1.mono ?_
      rintro e w7 ⟨v, rfl, r7, x7⟩
      have hS4 := HS3.out.step x7
      have r4 := ownsRow_ext R4.out x7
      obtain ⟨A7, c7, rfl, _⟩ := own_shape r7
      have hlen1 : t1.l.length = t.l.length := by rw [← HT1.out]; exact leave_len
      rw [hlen1] at r7 ⊢
      obtain ⟨lv, hlr⟩ : ∃ lv, RTabL w1.heap.size w7 xb lv C t := hS4.r
      obtain ⟨b0, A8, c8, rfl, hrow⟩ := hlr.rowk
      obtain ⟨_, A1', c1', e1, _, hal⟩ := row_ints r4
      injection e1 with e1 e2 e3
      subst e1 e3
      clear e2
      have hnow : ∀ k (hk : k < t.l.length), ∃ g, A7 = some ⟨g, 0, none⟩ ∧ w7.rangeAt g (k * 14) (headOf t.l[k]) := fun k hk => by
        rcases r7.2 with ⟨z1, z2⟩ | ⟨g, cap, cur, z1, _⟩
        · omega
        · have hA : A7 = some ⟨g, 0, none⟩ := by injection z1
          subst hA
          refine ⟨g, rfl, fun j u hu => ?_⟩
          have hj : j < 14 := (List.getElem?_eq_some_iff.1 hu).1
          have hk1 : k < t1.l.length := by omega
          rw [r7.cellAt _ (by omega), heads_get _ _ _ hk1 hj, ← hu]
          have : t1.l[k] = (t.l[k].quit q).1 := by
            have := leave_get (q := q) hk
            simp only [HT1.out] at this
            exact this
          rw [this, headOf_quit]
      have HT := Lib.hid hS4.t
      have HX := Lib.hid hS4.ext
      have HNW := Lib.hid hnow
      have HRW := Lib.hid hrow
      have HAL2 := Lib.hid hal
      clear hall1 r7 x7 hS4 HS3 R4 r4 hlr hnow hrow hal
      go_wp2
      go_loopw [11, 66] (fun n i wr => ∃ k : Nat, k ≤ t.l.length ∧ i = .int .i64 k ∧ n = .int .i64 (alones t.l q k).length ∧ Ext w7 wr) (fun _ i _ => t.l.length - (intOf i).toNat)
      case atStart => exact ⟨0, Nat.zero_le _, rfl, rfl, Ext.refl _⟩
      case round =>
        obtain ⟨k, hk, rfl, rfl, hx⟩ := hrel
        by_cases hlt : k < t.l.length
        · obtain ⟨g7, rfl, hr7⟩ := HNW.out k hlt
          obtain ⟨g8, A2, c2, rfl, hr8, hri⟩ := HRW.out k hlt
          replace b0 := hx.cell b0
          have hfi := HSM.out.2.2.2.2 _ (List.getElem_mem hlt)
          have hwho := leave_who (q := q) HSM.out hlt
          rw [HT1.out] at hwho
          have hsucc := alones_succ (q := q) hlt
          have hget := fun h => alones_get (q := q) hlt h
          rw [quit_flag hfi.2.1] at hsucc hget
          have hale := alones_le t.l q k
          rw [HAL.out] at hget
          obtain ⟨f, hf⟩ : ∃ f, t.l[k] = f := ⟨_, rfl⟩
          rw [hf] at hr7 hr8 hri hfi hwho hsucc hget
          have hra7 : wr.rangeAt g7 (k * 14) [.int .i64 f.id, .string f.obj, .int .i64 f.fr, .int .i64 f.to, .string f.mt, .bool f.mw, .string f.nt, .bool f.nw, .int .i64 f.en, .int .i64 f.sa, .int .i64 f.mo, .int .i64 f.ge, .int .i64 f.pl, .bool f.he] := fun j u hu => hx.cell (hr7 j u hu)
          have hth7 : (wr.alloc (.cells #[.int .i64 0, .string ⟨#[]⟩, .int .i64 0, .int .i64 0, .string ⟨#[]⟩, .bool false, .string ⟨#[]⟩, .bool false, .int .i64 0, .int .i64 0, .int .i64 0, .int .i64 0, .int .i64 0, .bool false] 30)).there wr.heap.size 0 14 := there_of_block (heap_alloc_new wr _) rfl
          have hc7 := World.rangeAt_setCells_same _ wr.heap.size 0 (#[.int .i64 f.id, .string f.obj, .int .i64 f.fr, .int .i64 f.to, .string f.mt, .bool f.mw, .string f.nt, .bool f.nw, .int .i64 f.en, .int .i64 f.sa, .int .i64 f.mo, .int .i64 f.ge, .int .i64 f.pl, .bool f.he] : Array Value).toList hth7
          have hx7 : Ext wr ((wr.alloc (.cells #[.int .i64 0, .string ⟨#[]⟩, .int .i64 0, .int .i64 0, .string ⟨#[]⟩, .bool false, .string ⟨#[]⟩, .bool false, .int .i64 0, .int .i64 0, .int .i64 0, .int .i64 0, .int .i64 0, .bool false] 30)).setCells wr.heap.size 0 (#[.int .i64 f.id, .string f.obj, .int .i64 f.fr, .int .i64 f.to, .string f.mt, .bool f.mw, .string f.nt, .bool f.nw, .int .i64 f.en, .int .i64 f.sa, .int .i64 f.mo, .int .i64 f.ge, .int .i64 f.pl, .bool f.he] : Array Value).toList) := ext_setCells ((Ext.refl wr).alloc _) (Nat.le_refl _)
          have HS := Lib.hid hsucc
          have HG := Lib.hid hget
          have HW := Lib.hid hwho
          have HXR := Lib.hid hx
          have hwl := hfi.1
          clear hf hr7 hx hwho hsucc hget hfi
          go_upto_region 23 with (first | (refine wpList_load_mid rfl 30 _ rfl g7 (k * 14) (by rfl) _ _ hra7 Try.underlying30 rfl size30 ?_) | (refine wpList_store_mid rfl 30 _ _ rfl wr.heap.size 0 #[.int .i64 f.id, .string f.obj, .int .i64 f.fr, .int .i64 f.to, .string f.mt, .bool f.mw, .string f.nt, .bool f.nw, .int .i64 f.en, .int .i64 f.sa, .int .i64 f.mo, .int .i64 f.ge, .int .i64 f.pl, .bool f.he] rfl rfl hth7 size30 (by simp [Value.oneCell']) ?_))
          generalize (wr.alloc (.cells #[.int .i64 0, .string ⟨#[]⟩, .int .i64 0, .int .i64 0, .string ⟨#[]⟩, .bool false, .string ⟨#[]⟩, .bool false, .int .i64 0, .int .i64 0, .int .i64 0, .int .i64 0, .int .i64 0, .bool false] 30)).setCells wr.heap.size 0 (#[.int .i64 f.id, .string f.obj, .int .i64 f.fr, .int .i64 f.to, .string f.mt, .bool f.mw, .string f.nt, .bool f.nw, .int .i64 f.en, .int .i64 f.sa, .int .i64 f.mo, .int .i64 f.ge, .int .i64 f.pl, .bool f.he] : Array Value).toList = wy at *
          generalize hca : wr.heap.size = ca at *
          clear hca hra7 hth7
          replace b0 := hx7.cell b0
          have HXY := Lib.hid (HXR.out.trans hx7)
          have hra8 : wy.rangeAt g8 (k * 16) [.int .i64 f.id, .string f.obj, .int .i64 f.fr, .int .i64 f.to, .string f.mt, .bool f.mw, .string f.nt, .bool f.nw, .int .i64 f.en, .int .i64 f.sa, .int .i64 f.mo, .int .i64 f.ge, .int .i64 f.pl, .int .i64 f.stop, .int .i64 (heI f), .slice A2 f.who.length c2] := fun j u hu => HXY.out.cell (hr8 j u hu)
          have hth8 : (wy.alloc (.cells #[.int .i64 0, .string ⟨#[]⟩, .int .i64 0, .int .i64 0, .string ⟨#[]⟩, .bool false, .string ⟨#[]⟩, .bool false, .int .i64 0, .int .i64 0, .int .i64 0, .int .i64 0, .int .i64 0, .int .i64 0, .int .i64 0, .slice none 0 0] 57)).there wy.heap.size 0 16 := there_of_block (heap_alloc_new wy _) rfl
          have hc8 := World.rangeAt_setCells_same _ wy.heap.size 0 (#[.int .i64 f.id, .string f.obj, .int .i64 f.fr, .int .i64 f.to, .string f.mt, .bool f.mw, .string f.nt, .bool f.nw, .int .i64 f.en, .int .i64 f.sa, .int .i64 f.mo, .int .i64 f.ge, .int .i64 f.pl, .int .i64 f.stop, .int .i64 (heI f), .slice A2 f.who.length c2] : Array Value).toList hth8
          have hx8 : Ext wy ((wy.alloc (.cells #[.int .i64 0, .string ⟨#[]⟩, .int .i64 0, .int .i64 0, .string ⟨#[]⟩, .bool false, .string ⟨#[]⟩, .bool false, .int .i64 0, .int .i64 0, .int .i64 0, .int .i64 0, .int .i64 0, .int .i64 0, .int .i64 0, .slice none 0 0] 57)).setCells wy.heap.size 0 (#[.int .i64 f.id, .string f.obj, .int .i64 f.fr, .int .i64 f.to, .string f.mt, .bool f.mw, .string f.nt, .bool f.nw, .int .i64 f.en, .int .i64 f.sa, .int .i64 f.mo, .int .i64 f.ge, .int .i64 f.pl, .int .i64 f.stop, .int .i64 (heI f), .slice A2 f.who.length c2] : Array Value).toList) := ext_setCells ((Ext.refl wy).alloc _) (Nat.le_refl _)
          clear hr8 HXR hx7
          go_upto_region 24 with (first | (refine wpList_load_mid rfl 57 _ rfl g8 (k * 16) (by rfl) _ _ hra8 Try.underlying57 rfl size57 ?_) | (refine wpList_store_mid rfl 57 _ _ rfl wy.heap.size 0 #[.int .i64 f.id, .string f.obj, .int .i64 f.fr, .int .i64 f.to, .string f.mt, .bool f.mw, .string f.nt, .bool f.nw, .int .i64 f.en, .int .i64 f.sa, .int .i64 f.mo, .int .i64 f.ge, .int .i64 f.pl, .int .i64 f.stop, .int .i64 (heI f), .slice A2 f.who.length c2] rfl rfl hth8 size57 (by simp [Value.oneCell']) ?_))
          generalize (wy.alloc (.cells #[.int .i64 0, .string ⟨#[]⟩, .int .i64 0, .int .i64 0, .string ⟨#[]⟩, .bool false, .string ⟨#[]⟩, .bool false, .int .i64 0, .int .i64 0, .int .i64 0, .int .i64 0, .int .i64 0, .int .i64 0, .int .i64 0, .slice none 0 0] 57)).setCells wy.heap.size 0 (#[.int .i64 f.id, .string f.obj, .int .i64 f.fr, .int .i64 f.to, .string f.mt, .bool f.mw, .string f.nt, .bool f.nw, .int .i64 f.en, .int .i64 f.sa, .int .i64 f.mo, .int .i64 f.ge, .int .i64 f.pl, .int .i64 f.stop, .int .i64 (heI f), .slice A2 f.who.length c2] : Array Value).toList = wz at *
          generalize hca : wy.heap.size = cb at *
          clear hca hra8 hth8
          have hc7' : wz.rangeAt ca 0 [.int .i64 f.id, .string f.obj, .int .i64 f.fr, .int .i64 f.to, .string f.mt, .bool f.mw, .string f.nt, .bool f.nw, .int .i64 f.en, .int .i64 f.sa, .int .i64 f.mo, .int .i64 f.ge, .int .i64 f.pl, .bool f.he] := fun j u hu => hx8.cell (hc7 j u hu)
          have HXZ := Lib.hid (HXY.out.trans hx8)
          have c15 : wz.cell? ⟨cb, 15, none⟩ = some (.slice A2 f.who.length c2) := hc8 15 _ rfl
          have c0 : wz.cell? ⟨ca, 0, none⟩ = some (.int .i64 f.id) := hc7' 0 _ rfl
          have hriz : RowI wz A2 f.who := fun j hj => by
            obtain ⟨g, e, h⟩ := hri j hj
            exact ⟨g, e, HXZ.out.cell h⟩
          have HC7 := Lib.hid hc7'
          have HC8 := Lib.hid (show wz.rangeAt cb 0 [.int .i64 f.id, .string f.obj, .int .i64 f.fr, .int .i64 f.to, .string f.mt, .bool f.mw, .string f.nt, .bool f.nw, .int .i64 f.en, .int .i64 f.sa, .int .i64 f.mo, .int .i64 f.ge, .int .i64 f.pl, .int .i64 f.stop, .int .i64 (heI f), .slice A2 f.who.length c2] from hc8)
          clear hc7 hc7' hc8 HXY hx8 hri b0
          obtain ⟨L, hL⟩ : ∃ L, f.who = L := ⟨_, rfl⟩
          have HO0 := Lib.hid (show others f q = L.filter (· != q) by unfold others; rw [hL])
          have HL := Lib.hid hL
          rw [hL] at hriz c15 hwl
          clear hL
          obtain ⟨m, hm⟩ : ∃ m, (alones t.l q k).length = m := ⟨_, rfl⟩
          rw [hm] at HG hale
          have HM := Lib.hid hm
          have hm' := hm
          clear hm
          go_wp2
          clear hm'
          go_loopw [15, 81] (fun o j wr' => ∃ j' : Nat, j' ≤ L.length ∧ j = .int .i64 j' ∧ wr'.ownsRow wz.heap.size 3 1 o ((L.take j').filter (· != q)).length (((L.take j').filter (· != q)).map (Value.int .i64)) ∧ Ext wz wr') (fun _ j _ => L.length - (intOf j).toNat)
          case atStart => exact ⟨0, Nat.zero_le _, rfl, World.ownsRow_nil _ _ _ _, Ext.refl _⟩
          case round =>
            obtain ⟨j', hj, rfl, hown, hx2⟩ := hrel
            by_cases hlt2 : j' < L.length
            · obtain ⟨g2, rfl, hc⟩ := hriz j' hlt2
              replace hc := hx2.cell hc
              have htk := rest_take (q := q) hlt2
              have hol : ((L.take j').filter (· != q)).length ≤ L.length := Nat.le_trans (List.length_filter_le _ _) (by simp; omega)
              obtain ⟨y, hy⟩ : ∃ y, L[j'] = y := ⟨_, rfl⟩
              rw [hy] at hc htk
              obtain ⟨rs, hrs⟩ : ∃ rs, (L.take j').filter (· != q) = rs := ⟨_, rfl⟩
              rw [hrs] at htk hown hol
              have HX2 := Lib.hid hx2
              have hsz2 := hx2.size
              obtain ⟨A3, c3, rfl, _⟩ := own_shape hown
              clear hy hrs hx2
              by_cases e1 : y = q
              · rw [if_pos e1] at htk
                have e2 : (y == q) = true := by simp [e1]
                have e3 : decide (y = q) = true := by simp [e1]
                have e4 : (y != q) = false := by simp [e1]
                have HTK := Lib.hid htk
                clear htk e1
                go_wp2
                go_roundw
                case rel => exact ⟨j' + 1, by omega, by go_num, by rw [HTK.out]; exact hown, HX2.out⟩
                case measure => simp [intOf] <;> omega
              · rw [if_neg e1] at htk
                have e2 : (y == q) = false := by simp [e1]
                have e3 : decide (y = q) = false := by simp [e1]
                have e4 : (y != q) = true := by simp [e1]
                have HTK := Lib.hid htk
                clear htk e1
                go_wp2_with (at_builtin; refine wpList_append_new _ rfl _ _ 22 rfl wz.heap.size 3 _ 1 8 Try.underlying22 info3 rfl (by omega) _ rs.length _ rfl hown 1 1 _ rfl _ rfl rfl (by simp [Value.oneCell']) (by simp [maxLen]; omega) (by omega) hsz2 ?_; intro v1 wq hown2 hm2)
                have HH := Lib.hid (ext_moved HX2.out hown hm2)
                go_roundw
                case rel => exact ⟨j' + 1, by omega, by go_num, by rw [HTK.out]; simpa using hown2, HH.out⟩
                case measure => simp [intOf] <;> omega
            · obtain rfl : j' = L.length := by omega
              rw [List.take_length, ← HO0.out] at hown
              obtain ⟨F, hF⟩ : ∃ F, others f q = F := ⟨_, rfl⟩
              rw [hF] at hown
              obtain ⟨_, A9, c9, rfl, _, hri9⟩ := row_ints hown
              have hFl : F.length ≤ 1000000 := by
                rw [← hF]; unfold others
                have := List.length_filter_le (fun x => x != q) f.who
                rw [HL.out] at this ⊢
                omega
              have HF := Lib.hid hF
              have H7 := Lib.hid (show wr.rangeAt ca 0 [.int .i64 f.id, .string f.obj, .int .i64 f.fr, .int .i64 f.to, .string f.mt, .bool f.mw, .string f.nt, .bool f.nw, .int .i64 f.en, .int .i64 f.sa, .int .i64 f.mo, .int .i64 f.ge, .int .i64 f.pl, .bool f.he] from fun j u hu => hx2.cell (HC7.out j u hu))
              have H8 := Lib.hid (show wr.rangeAt cb 0 [.int .i64 f.id, .string f.obj, .int .i64 f.fr, .int .i64 f.to, .string f.mt, .bool f.mw, .string f.nt, .bool f.nw, .int .i64 f.en, .int .i64 f.sa, .int .i64 f.mo, .int .i64 f.ge, .int .i64 f.pl, .int .i64 f.stop, .int .i64 (heI f), .slice A2 f.who.length c2] from fun j u hu => hx2.cell (HC8.out j u hu))
              replace c0 := hx2.cell c0
              replace c15 := hx2.cell c15
              have HRI := Lib.hid hri9
              have HXW := Lib.hid (HXZ.out.trans hx2)
              clear hF hown hx2 hri9 hriz
              go_wp2_with (first | (refine wpList_load_mid rfl 30 _ rfl ca 0 (by rfl) _ _ H7.out Try.underlying30 rfl size30 ?_) | (refine wpList_load_mid rfl 57 _ rfl cb 0 (by rfl) _ _ H8.out Try.underlying57 rfl size57 ?_))
              refine (same_calls f A2 f.who.length c2 wr).mono ?_
              rintro e wa ⟨rfl, xa⟩
              have hwc := who_calls w1.heap.size w1.heap.size O2 t1 f.id wa (HT.out.ext (HXW.out.trans xa)) HSM1.out
              rw [HW.out, HF.out] at hwc
              replace c0 := xa.cell c0
              replace c15 := xa.cell c15
              have HXA := Lib.hid (HXW.out.trans xa)
              have HRI2 := Lib.hid (show RowI wa A9 F from fun k hk => by
                obtain ⟨g, e, h⟩ := HRI.out k hk
                exact ⟨g, e, xa.cell h⟩)
              clear xa H7 H8
              go_wp2_with fail
              refine hwc.mono ?_
              rintro e wb ⟨v, rfl, rb, xb2⟩
              obtain ⟨_, Ab, cb', rfl, _, hrib⟩ := row_ints rb
              have hints := ints_calls Ab A9 cb' c9 F F wb hrib (fun k hk => by
                obtain ⟨g, e, h⟩ := HRI2.out k hk
                exact ⟨g, e, xb2.cell h⟩) hFl
              replace c0 := xb2.cell c0
              replace c15 := xb2.cell c15
              have HXB := Lib.hid (HXA.out.trans xb2)
              clear hwc rb hrib xb2
              go_wp2_with fail
              refine hints.mono ?_
              rintro e wc ⟨rfl, xc⟩
              replace c0 := xc.cell c0
              replace c15 := xc.cell c15
              have hxc := HXB.out.trans xc
              have HAL3 := Lib.hid (show RowI wc A1 al from fun k hk => by
                obtain ⟨g, e, h⟩ := HAL2.out k hk
                exact ⟨g, e, hxc.cell h⟩)
              have HXC := Lib.hid hxc
              have ed : decide (F = F) = true := by simp
              clear hints xc hxc
              rw [HF.out, HL.out] at HS HG
              generalize hlf : F.length = lf at *
              clear hlf
              generalize hll : L.length = ll at *
              clear hll
              have w1' : IntKind.i64.wrap ((m : Int) + 1) = (m : Int) + 1 := IntWalk.i64_in _ (by omega)
              rcases Nat.eq_zero_or_pos ll with rfl | hz
              · have hS2 := HS.out
                simp only [Nat.lt_irrefl, decide_false, Bool.false_and, Bool.false_eq_true, if_false] at hS2
                have HS2 := Lib.hid hS2
                clear hS2
                go_wp2
                go_roundw
                case rel => exact ⟨k + 1, by omega, by go_num, by rw [HS2.out, HM.out], HXC.out⟩
                case measure => simp [intOf] <;> omega
              · have hzi : (0 : Int) < (ll : Int) := by omega
                by_cases hz2 : lf = 0
                · subst hz2
                  have hS2 := HS.out
                  simp only [hz, decide_true, Bool.and_self, if_true] at hS2
                  obtain ⟨hn, hg⟩ := HG.out (by simp [hz])
                  obtain ⟨ga, rfl, hca⟩ := HAL3.out m hn
                  rw [hg] at hca
                  have HS2 := Lib.hid hS2
                  have hn1 : ¬ ((al.length : Int) ≤ (m : Int)) := by omega
                  have hn2 : ¬ (al.length ≤ m) := by omega
                  have hn3 : ((m : Int) < (al.length : Int)) := by omega
                  have hn4 : decide (al.length ≤ m) = false := by simp [hn2]
                  have hn5 : decide ((al.length : Int) ≤ (m : Int)) = false := by simp [hn1]
                  clear hS2 hg
                  go_wp2_with fail
                  go_quiet (fail)
                  go_wp2
                  go_roundw
                  case rel => exact ⟨k + 1, by omega, by go_num, by rw [HS2.out]; simp [HM.out], HXC.out.drewN _⟩
                  case measure => simp [intOf] <;> omega
                · have z2i : ¬ ((lf : Int) = 0) := by omega
                  have z3' : ((lf : Int) == 0) = false := by simpa using hz2
                  have hS2 := HS.out
                  simp only [hz2, decide_false, Bool.and_false, Bool.false_eq_true, if_false] at hS2
                  have HS2 := Lib.hid hS2
                  clear hS2
                  go_wp2
                  go_roundw
                  case rel => exact ⟨k + 1, by omega, by go_num, by rw [HS2.out, HM.out], HXC.out⟩
                  case measure => simp [intOf] <;> omega
        · obtain rfl : k = t.l.length := by omega
          rw [HAL.out]
          have HXF := Lib.hid ((HX.out.trans hx))
          clear hx
          go_wp2_with fail
          refine (awake_calls _).mono ?_
          rintro e w9 ⟨rfl, x9⟩
          go_wp2
          go_ret
          exact ⟨by simp, (hx1.trans HXF.out).trans x9⟩
end Go.Proofs.Ytaanbgagdanalaa
