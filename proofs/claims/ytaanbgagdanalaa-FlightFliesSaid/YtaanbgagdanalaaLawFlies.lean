/- The walk of FlightFlies. -/
import Derived.Test.YtaanbgagdanalaaFlp
import Derived.Test.YtaanbgagdanalaaRfly
import Derived.Test.YtaanbgagdanalaaSpl
import Derived.Test.YtaanbgagdanalaaOpen
namespace Go.Proofs.Ytaanbgagdanalaa.Rg
open Go.RowKit

set_option maxHeartbeats 4000000 in
set_option maxRecDepth 100000 in
set_option pp.deepTerms true in
set_option pp.maxSteps 10000000 in
theorem lawFlies_calls (A : Option Addr) (c : Nat) (l : List Op) (en x : Int) (w : World) (hr : Ops w A l ∧ l.length ≤ maxLen) :
    Calls Try.prog 8 #[.slice A l.length c, .int .i64 en, .int .i64 x] w fun e w' => e = .returned (.bool true) ∧ Ext w w' := by
  obtain ⟨hr, hm⟩ := hr
  go_enter Try.func8, Try.ntmps8
  go_wp2_with fail
  refine (small_calls A c l w hr hm).mono ?_
  rintro e w1 ⟨b, rfl, hb, hx1⟩
  cases b
  · clear hb
    go_wp2_with fail
    refine (awake_calls _).mono ?_
    rintro e w2 ⟨rfl, hx⟩
    go_wp2
    go_ret
    exact ⟨rfl, hx1.trans hx⟩
  have hlen : l.length ≤ 60 := hb rfl
  replace hr := hr.ext hx1
  clear hb hm
  go_wp2_with fail
  refine (new_calls w1).mono ?_
  rintro e w2 ⟨rfl, h2⟩
  have HS0 := Lib.hid (Stage.first h2)
  clear h2
  go_wp2
  generalize w2.heap.size = xb at *
  generalize w2.alloc (.cells #[.slice none 0 0, .int .i64 0] 51) = w3 at *
  go_loopw [26] (fun i wr => ∃ (k : Nat) (O C : List Nat), k ≤ l.length ∧ i = .int .i64 k ∧ Stage w1 wr w1.heap.size O (runs l k) xb C (runs l k) []) (fun i _ => l.length - (intOf i).toNat)
  case atStart => exact ⟨0, _, _, Nat.zero_le _, rfl, HS0.out⟩
  case round =>
    obtain ⟨k, O, C, hk, rfl, hS⟩ := hrel
    by_cases hlt : k < l.length
    · obtain ⟨hkk, g, og, rfl, hro⟩ := hr k hlt
      have hup := runs_upto l k hk
      have hst := runs_succ hlt
      obtain ⟨a, ha⟩ : ∃ a, l[k] = a := ⟨_, rfl⟩
      rw [ha] at hro hkk hst
      have hra : wr.rangeAt g (og + k * 21) [.int .u8 a.kind, .int .i64 a.f.id, .string a.f.obj, .int .i64 a.f.fr, .int .i64 a.f.to, .string a.f.mt, .bool a.f.mw, .string a.f.nt, .bool a.f.nw, .int .i64 a.f.en, .int .i64 a.f.sa, .int .i64 a.f.mo, .int .i64 a.f.ge, .int .i64 a.f.pl, .bool a.f.he, .int .i64 a.id, .int .i64 a.who, .int .i64 a.en, .int .i64 a.n, .int .i64 a.to, .string a.obj] := fun j u hu => hS.ext.cell (hro j u hu)
      have ht : (wr.alloc (.cells #[.int .u8 0, .int .i64 0, .string ⟨#[]⟩, .int .i64 0, .int .i64 0, .string ⟨#[]⟩, .bool false, .string ⟨#[]⟩, .bool false, .int .i64 0, .int .i64 0, .int .i64 0, .int .i64 0, .int .i64 0, .bool false, .int .i64 0, .int .i64 0, .int .i64 0, .int .i64 0, .int .i64 0, .string ⟨#[]⟩] 53)).there wr.heap.size 0 21 := there_of_block (heap_alloc_new wr _) rfl
      have HC := Lib.hid (hS.copy #[.int .u8 0, .int .i64 0, .string ⟨#[]⟩, .int .i64 0, .int .i64 0, .string ⟨#[]⟩, .bool false, .string ⟨#[]⟩, .bool false, .int .i64 0, .int .i64 0, .int .i64 0, .int .i64 0, .int .i64 0, .bool false, .int .i64 0, .int .i64 0, .int .i64 0, .int .i64 0, .int .i64 0, .string ⟨#[]⟩] 53 (#[.int .u8 a.kind, .int .i64 a.f.id, .string a.f.obj, .int .i64 a.f.fr, .int .i64 a.f.to, .string a.f.mt, .bool a.f.mw, .string a.f.nt, .bool a.f.nw, .int .i64 a.f.en, .int .i64 a.f.sa, .int .i64 a.f.mo, .int .i64 a.f.ge, .int .i64 a.f.pl, .bool a.f.he, .int .i64 a.id, .int .i64 a.who, .int .i64 a.en, .int .i64 a.n, .int .i64 a.to, .string a.obj] : Array Value).toList rfl)
      have HR := Lib.hid hst
      have HSM := Lib.hid (hup.small (by omega))
      obtain ⟨t, ht0⟩ : ∃ t, runs l k = t := ⟨_, rfl⟩
      rw [ht0] at HR HSM HC
      clear hro hst hup ha hr ht0 hS HS0
      go_upto_region 10 with (first | (refine wpList_load_mid rfl 53 _ rfl g (og + k * 21) (by rfl) _ _ hra Try.underlying53 rfl size53 ?_) | (refine wpList_store_mid rfl 53 _ _ rfl wr.heap.size 0 #[.int .u8 a.kind, .int .i64 a.f.id, .string a.f.obj, .int .i64 a.f.fr, .int .i64 a.f.to, .string a.f.mt, .bool a.f.mw, .string a.f.nt, .bool a.f.nw, .int .i64 a.f.en, .int .i64 a.f.sa, .int .i64 a.f.mo, .int .i64 a.f.ge, .int .i64 a.f.pl, .bool a.f.he, .int .i64 a.id, .int .i64 a.who, .int .i64 a.en, .int .i64 a.n, .int .i64 a.to, .string a.obj] rfl rfl ht size53 (by simp [Value.oneCell']) ?_))
      generalize (wr.alloc (.cells #[.int .u8 0, .int .i64 0, .string ⟨#[]⟩, .int .i64 0, .int .i64 0, .string ⟨#[]⟩, .bool false, .string ⟨#[]⟩, .bool false, .int .i64 0, .int .i64 0, .int .i64 0, .int .i64 0, .int .i64 0, .bool false, .int .i64 0, .int .i64 0, .int .i64 0, .int .i64 0, .int .i64 0, .string ⟨#[]⟩] 53)).setCells wr.heap.size 0 (#[.int .u8 a.kind, .int .i64 a.f.id, .string a.f.obj, .int .i64 a.f.fr, .int .i64 a.f.to, .string a.f.mt, .bool a.f.mw, .string a.f.nt, .bool a.f.nw, .int .i64 a.f.en, .int .i64 a.f.sa, .int .i64 a.f.mo, .int .i64 a.f.ge, .int .i64 a.f.pl, .bool a.f.he, .int .i64 a.id, .int .i64 a.who, .int .i64 a.en, .int .i64 a.n, .int .i64 a.to, .string a.obj] : Array Value).toList = wx at *
      generalize hcb : wr.heap.size = cb at *
      clear hcb
      have hD := Lib.hid (do_calls w1 w1.heap.size xb O C t ((cb, (#[.int .u8 a.kind, .int .i64 a.f.id, .string a.f.obj, .int .i64 a.f.fr, .int .i64 a.f.to, .string a.f.mt, .bool a.f.mw, .string a.f.nt, .bool a.f.nw, .int .i64 a.f.en, .int .i64 a.f.sa, .int .i64 a.f.mo, .int .i64 a.f.ge, .int .i64 a.f.pl, .bool a.f.he, .int .i64 a.id, .int .i64 a.who, .int .i64 a.en, .int .i64 a.n, .int .i64 a.to, .string a.obj] : Array Value).toList) :: []) a)
      have HCR := Lib.hid (show wx.rangeAt cb 0 [.int .u8 a.kind, .int .i64 a.f.id, .string a.f.obj, .int .i64 a.f.fr, .int .i64 a.f.to, .string a.f.mt, .bool a.f.mw, .string a.f.nt, .bool a.f.nw, .int .i64 a.f.en, .int .i64 a.f.sa, .int .i64 a.f.mo, .int .i64 a.f.ge, .int .i64 a.f.pl, .bool a.f.he, .int .i64 a.id, .int .i64 a.who, .int .i64 a.en, .int .i64 a.n, .int .i64 a.to, .string a.obj] from (HC.out.at_ _ (List.mem_cons_self ..)).2.2.2)
      go_wp2_with (refine wpList_load_mid rfl 53 _ rfl cb 0 (by rfl) _ _ HCR.out Try.underlying53 rfl size53 ?_)
      refine (hD.out wx HC.out HSM.out hkk).mono ?_
      rintro e w4 ⟨rfl, O', C', h4⟩
      have H4 := Lib.hid h4
      clear h4 hD HC HCR
      go_wp2
      go_roundw
      case rel => exact ⟨k + 1, _, _, by omega, by go_num, by rw [HR.out]; exact H4.out.less⟩
      case measure => simp [intOf] <;> omega
    · obtain rfl : k = l.length := by omega
      have hup := runs_upto l l.length (Nat.le_refl _)
      have hfr := runs_fr l l.length (Nat.le_refl _)
      have hsm := hup.small (by omega)
      have hsf := serves_flies hup hfr en x
      have hid := served_id hup en x
      have hok := flies_right hup hfr en
      have hnl := hup.1
      obtain ⟨t, ht⟩ : ∃ t, runs l l.length = t := ⟨_, rfl⟩
      rw [ht] at hS hsm hsf hid hok hnl
      have HOK := Lib.hid hok
      have HS := Lib.hid hS
      have HSM := Lib.hid hsm
      clear ht hup hfr hr HS0 hS hsm hok
      have hcl : (ofS (comL t en)).length ≤ 1000 := by
        have := of_length (comL t en)
        have := com_len t en
        omega
      have hF := flying_calls w1.heap.size w1.heap.size O t en wr HS.out.t HSM.out
      have hN := norm_of (comL t en)
      go_wp2_with fail
      refine hF.mono ?_
      rintro e w4 ⟨A4, c4, rfl, s4, n4, x4⟩
      have hSS : Hid (∀ W, Ext w4 W → Stage w1 W w1.heap.size O t xb C t []) := Lib.hid fun W hx => (HS.out.step x4).step hx
      have hSA : Hid (∀ W, Ext w4 W → SAt W A4 (ofS (comL t en))) := Lib.hid fun W hx => s4.out.ext hx
      have x04 := HS.out.ext.trans x4
      clear hF s4 n4 x4 HS
      obtain ⟨L, hL⟩ : ∃ L, ofS (comL t en) = L := ⟨_, rfl⟩
      obtain ⟨q, hq⟩ : ∃ q, srvF t en x = q := ⟨_, rfl⟩
      have hV := fun W (hx : Ext w4 W) => serves_calls w1.heap.size w1.heap.size O t en x W ((hSS.out W hx).t) HSM.out
      have hVR := fun W (hx : Ext w4 W) lv (h : RTabL w1.heap.size W xb lv C t) => servesR_calls w1.heap.size xb lv C t en x W h HSM.out HOK.out
      have hFR := fun W (_ : Ext w4 W) lv (h : RTabL w1.heap.size W xb lv C t) => flyingR_calls w1.heap.size xb lv C t en W h HSM.out
      have hHA := fun W (hx : Ext w4 W) => sethas_calls A4 c4 (ofS (comL t en)) x W (hSA.out W hx) hN (by omega)
      have hLV : ∀ W, Ext w4 W → ∃ lv, RTabL w1.heap.size W xb lv C t := fun W hx => by
        obtain ⟨lv, ys, h1, h2, h3⟩ := (hSS.out W hx).r
        exact ⟨lv, ys, h1, h2, h3⟩
      rw [← hsf] at hHA
      rw [hL] at hFR hHA hcl hN hSA
      rw [hq] at hV hVR hid hHA
      have HV := Lib.hid hV
      have HVR := Lib.hid hVR
      have HFR := Lib.hid hFR
      have HHA := Lib.hid hHA
      have HLV := Lib.hid hLV
      rw [hL]
      clear hV hVR hFR hHA hLV hL hq hsf HOK HSM hSS hN hlt hk hnl
      generalize idO q = qi at *
      generalize q.isSome = qb at *
      go_upto_region 14 with (fail)
      have x5 : Ext w4 (w4.alloc (.cells #[.slice A4 L.length c4] 74)) := (Ext.refl w4).alloc _
      have b5 : (w4.alloc (.cells #[.slice A4 L.length c4] 74)).cell? ⟨w4.heap.size, 0, none⟩ = some (.slice A4 L.length c4) := by simp
      generalize (w4.alloc (.cells #[.slice A4 L.length c4] 74)) = w5 at *
      generalize w4.heap.size = sb at *
      go_wp2_with fail
      refine (HV.out w5 x5).mono ?_
      rintro e w6 ⟨rfl, x6⟩
      have x46 := x5.trans x6
      obtain ⟨lv6, hl6⟩ := HLV.out w6 x46
      have HL6 := Lib.hid hl6
      have b6 := x6.cell b5
      clear hl6 HV x6 x5 b5
      go_wp2_with fail
      refine (HVR.out w6 x46 lv6 HL6.out).mono ?_
      rintro e w7 ⟨rfl, x7⟩
      have x47 := x46.trans x7
      have b7 := x7.cell b6
      clear HL6 HVR x46 x7 b6
      have HSP := Lib.hid (spans_calls A4 c4 L w7 (hSA.out w7 x47) (by omega))
      by_cases hqi : qi = 0
      · have hqb : qb = false := by rw [hid, hqi]; rfl
        subst hqi hqb
        clear hid
        go_wp2_with fail
        refine HSP.out.mono ?_
        rintro e w8 ⟨v8, rfl, r8, x8⟩
        obtain ⟨A8, c8, rfl, _⟩ := own_shape r8
        have S8 := Lib.hid (sat_of_own r8)
        have x48 := x47.trans x8
        have b8 := x8.cell b7
        obtain ⟨lv8, hl8⟩ := HLV.out w8 x48
        have HL8 := Lib.hid hl8
        clear r8 x8 b7 hl8 HSP x47
        go_wp2_with fail
        refine (HFR.out w8 x48 lv8 HL8.out).mono ?_
        rintro e w9 ⟨A9, c9, rfl, s9, x9⟩
        have HCP := Lib.hid (same_spans_calls A8 A9 c8 c9 L L w9 (S8.out.ext x9) s9.out (by omega) (by omega))
        have x49 := x48.trans x9
        have b9 := x9.cell b8
        clear s9 x9 b8 x48 S8 HFR
        go_wp2_with fail
        refine HCP.out.mono ?_
        simp only [decide_true]
        rintro e w10 ⟨rfl, x10⟩
        have x410 := x49.trans x10
        have b10 := x10.cell b9
        have HH := Lib.hid (HHA.out w10 x410)
        clear x49 x10 b9 HHA HCP HLV hSA
        go_wp2_with fail
        refine HH.out.mono ?_
        rintro e w11 ⟨rfl, x11⟩
        have x411 := x410.trans x11
        clear x410 x11 b10 HH
        go_wp2_with fail
        refine (awake_calls _).mono ?_
        rintro e w12 ⟨rfl, x12⟩
        go_wp2
        go_ret
        exact ⟨rfl, hx1.trans (x04.trans (x411.trans x12))⟩
      · have hqb : qb = true := by rw [hid]; simpa using hqi
        have hq1 : (qi != 0) = true := by simpa using hqi
        have hq2 : (qi == 0) = false := by simpa using hqi
        subst hqb
        clear hid hqi
        go_wp2_with fail
        refine HSP.out.mono ?_
        rintro e w8 ⟨v8, rfl, r8, x8⟩
        obtain ⟨A8, c8, rfl, _⟩ := own_shape r8
        have S8 := Lib.hid (sat_of_own r8)
        have x48 := x47.trans x8
        have b8 := x8.cell b7
        obtain ⟨lv8, hl8⟩ := HLV.out w8 x48
        have HL8 := Lib.hid hl8
        clear r8 x8 b7 hl8 HSP x47
        go_wp2_with fail
        refine (HFR.out w8 x48 lv8 HL8.out).mono ?_
        rintro e w9 ⟨A9, c9, rfl, s9, x9⟩
        have HCP := Lib.hid (same_spans_calls A8 A9 c8 c9 L L w9 (S8.out.ext x9) s9.out (by omega) (by omega))
        have x49 := x48.trans x9
        have b9 := x9.cell b8
        clear s9 x9 b8 x48 S8 HFR
        go_wp2_with fail
        refine HCP.out.mono ?_
        simp only [decide_true]
        rintro e w10 ⟨rfl, x10⟩
        have x410 := x49.trans x10
        have b10 := x10.cell b9
        have HH := Lib.hid (HHA.out w10 x410)
        clear x49 x10 b9 HHA HCP HLV hSA
        go_wp2_with fail
        refine HH.out.mono ?_
        rintro e w11 ⟨rfl, x11⟩
        have x411 := x410.trans x11
        clear x410 x11 b10 HH
        go_wp2_with fail
        refine (awake_calls _).mono ?_
        rintro e w12 ⟨rfl, x12⟩
        go_wp2
        go_ret
        exact ⟨rfl, hx1.trans (x04.trans (x411.trans x12))⟩

end Go.Proofs.Ytaanbgagdanalaa.Rg
