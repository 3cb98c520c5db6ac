/- The contracts of the reference's Come, Flying and Serves. -/
import Derived.Test.YtaanbgagdanalaaFly
import Derived.Test.YtaanbgagdanalaaRNums
import Derived.Test.YtaanbgagdanalaaRgRefD
namespace Go.Proofs.Ytaanbgagdanalaa.Rg
open Go.RowKit

def comR (f : Fl) : Sp := if f.he then ⟨f.pl, f.stop⟩ else if f.en = 0 then ⟨0, 0⟩ else ⟨f.fr, f.to⟩
theorem comR_eq {f : Fl} {en : Int} (h : ofEn en f = true) : comR f = com f := by
  unfold ofEn at h
  simp at h
  have h1 : f.en ≠ 0 := by omega
  have h2 : 0 < f.en := by omega
  unfold comR com
  cases f.he <;> simp [h1, h2]
set_option maxHeartbeats 2000000 in
set_option maxRecDepth 100000 in
theorem come_calls (f : Fl) (A2 : Option Addr) (c2 : Nat) (w : World) :
    Calls Try.prog 58 #[.agg #[.int .i64 f.id, .string f.obj, .int .i64 f.fr, .int .i64 f.to, .string f.mt, .bool f.mw, .string f.nt, .bool f.nw, .int .i64 f.en, .int .i64 f.sa, .int .i64 f.mo, .int .i64 f.ge, .int .i64 f.pl, .int .i64 f.stop, .int .i64 (heI f), .slice A2 f.who.length c2]] w fun e w' => e = .returned (.agg #[.int .i64 (comR f).f, .int .i64 (comR f).t]) ∧ Ext w w' := by
  cases hhe : f.he
  · have e1 : heI f = 0 := by simp [heI, hhe]
    rw [e1]
    by_cases hen : f.en = 0
    · have hc : comR f = ⟨0, 0⟩ := by simp [comR, hhe, hen]
      rw [hc, hen]
      go_enter Try.func58, Try.ntmps58
      go_wp2
      refine bodyPost_ret (v := .agg #[.int .i64 0, .int .i64 0]) (by simp [results, Try.results58, go_sem]) rfl ⟨rfl, ?_⟩
      exact ((Ext.refl w).alloc _).alloc _
    · have hc : comR f = ⟨f.fr, f.to⟩ := by simp [comR, hhe, hen]
      rw [hc]
      have h3 : (f.en == 0) = false := beq_eq_false_iff_ne.2 hen
      have h4 : decide (f.en = 0) = false := decide_eq_false hen
      go_enter Try.func58, Try.ntmps58
      go_wp2
      refine bodyPost_ret (v := .agg #[.int .i64 f.fr, .int .i64 f.to]) (by simp [results, Try.results58, go_sem]) rfl ⟨rfl, ?_⟩
      exact ((Ext.refl w).alloc _).alloc _
  · have e1 : heI f = 1 := by simp [heI, hhe]
    rw [e1]
    have hc : comR f = ⟨f.pl, f.stop⟩ := by simp [comR, hhe]
    rw [hc]
    go_enter Try.func58, Try.ntmps58
    go_wp2
    refine bodyPost_ret (v := .agg #[.int .i64 f.pl, .int .i64 f.stop]) (by simp [results, Try.results58, go_sem]) rfl ⟨rfl, ?_⟩
    exact ((Ext.refl w).alloc _).alloc _

set_option maxHeartbeats 2000000 in
set_option maxRecDepth 100000 in
theorem flyingR_calls (N tb : Nat) (lv : Value) (O : List Nat) (t : Tab) (en : Int) (w : World) (h : RTabL N w tb lv O t) (hs : Small t) :
    Calls Try.prog 38 #[.pointer (some ⟨tb, 0, none⟩), .int .i64 en] w (SPost w (ofS (comL t en))) := by
  obtain ⟨c0, A, c, rfl, hrow⟩ := h.rowk
  obtain ⟨s1, _, _, _, _⟩ := hs
  obtain ⟨l, last⟩ := t
  dsimp only at c0 hrow s1
  have hcd : comL ⟨l, last⟩ en = (l.filter (ofEn en)).map com := rfl
  rw [hcd]
  clear hcd h
  go_enter Try.func38, Try.ntmps38
  go_wp2
  go_loopw [5, 13] (fun out i wr => ∃ k : Nat, k ≤ l.length ∧ i = .int .i64 k ∧ wr.ownsRow w.heap.size 24 2 out (((l.take k).filter (ofEn en)).map com).length (spans (((l.take k).filter (ofEn en)).map com)) ∧ Ext w wr) (fun _ i _ => l.length - (intOf i).toNat)
  case atStart => exact ⟨0, Nat.zero_le _, rfl, World.ownsRow_nil _ _ _ _, Ext.refl _⟩
  case round =>
    obtain ⟨k, hk, rfl, hown, hx⟩ := hrel
    by_cases hlt : k < l.length
    · obtain ⟨g, A2, c2, rfl, hro, hri⟩ := hrow k hlt
      replace hro := hro.ext hx
      have hstep := map_snoc_filter l k en hlt
      have hlen : (((l.take k).filter (ofEn en)).map com).length ≤ 1000 := by
        rw [List.length_map]
        refine Nat.le_trans (List.length_filter_le _ _) ?_
        simp; omega
      obtain ⟨f, hff⟩ : ∃ f, l[k] = f := ⟨_, rfl⟩
      rw [hff] at hro hstep
      have q0 : wr.cell? ⟨g, k * 16, none⟩ = some (.int .i64 f.id) := hro 0 _ rfl
      have q1 : wr.cell? ⟨g, k * 16 + 1, none⟩ = some (.string f.obj) := hro 1 _ rfl
      have q2 : wr.cell? ⟨g, k * 16 + 2, none⟩ = some (.int .i64 f.fr) := hro 2 _ rfl
      have q3 : wr.cell? ⟨g, k * 16 + 3, none⟩ = some (.int .i64 f.to) := hro 3 _ rfl
      have q4 : wr.cell? ⟨g, k * 16 + 4, none⟩ = some (.string f.mt) := hro 4 _ rfl
      have q5 : wr.cell? ⟨g, k * 16 + 5, none⟩ = some (.bool f.mw) := hro 5 _ rfl
      have q6 : wr.cell? ⟨g, k * 16 + 6, none⟩ = some (.string f.nt) := hro 6 _ rfl
      have q7 : wr.cell? ⟨g, k * 16 + 7, none⟩ = some (.bool f.nw) := hro 7 _ rfl
      have q8 : wr.cell? ⟨g, k * 16 + 8, none⟩ = some (.int .i64 f.en) := hro 8 _ rfl
      have q9 : wr.cell? ⟨g, k * 16 + 9, none⟩ = some (.int .i64 f.sa) := hro 9 _ rfl
      have q10 : wr.cell? ⟨g, k * 16 + 10, none⟩ = some (.int .i64 f.mo) := hro 10 _ rfl
      have q11 : wr.cell? ⟨g, k * 16 + 11, none⟩ = some (.int .i64 f.ge) := hro 11 _ rfl
      have q12 : wr.cell? ⟨g, k * 16 + 12, none⟩ = some (.int .i64 f.pl) := hro 12 _ rfl
      have q13 : wr.cell? ⟨g, k * 16 + 13, none⟩ = some (.int .i64 f.stop) := hro 13 _ rfl
      have q14 : wr.cell? ⟨g, k * 16 + 14, none⟩ = some (.int .i64 (heI f)) := hro 14 _ rfl
      have q15 : wr.cell? ⟨g, k * 16 + 15, none⟩ = some (.slice A2 f.who.length c2) := hro 15 _ rfl
      have HS := Lib.hid hstep
      clear hff hstep hri hrow hro
      obtain ⟨L, hL⟩ : ∃ L, ((l.take k).filter (ofEn en)).map com = L := ⟨_, rfl⟩
      rw [hL] at hown hlen
      have HL := Lib.hid hL
      clear hL
      obtain ⟨A3, c3, rfl, _⟩ := own_shape hown
      have hxb : Ext wr (wr.alloc (.cells #[.int .i64 f.id, .string f.obj, .int .i64 f.fr, .int .i64 f.to, .string f.mt, .bool f.mw, .string f.nt, .bool f.nw, .int .i64 f.en, .int .i64 f.sa, .int .i64 f.mo, .int .i64 f.ge, .int .i64 f.pl, .int .i64 f.stop, .int .i64 (heI f), .slice A2 f.who.length c2] 57)) := (Ext.refl wr).alloc _
      have d0 : (wr.alloc (.cells #[.int .i64 f.id, .string f.obj, .int .i64 f.fr, .int .i64 f.to, .string f.mt, .bool f.mw, .string f.nt, .bool f.nw, .int .i64 f.en, .int .i64 f.sa, .int .i64 f.mo, .int .i64 f.ge, .int .i64 f.pl, .int .i64 f.stop, .int .i64 (heI f), .slice A2 f.who.length c2] 57)).cell? ⟨wr.heap.size, 0, none⟩ = some (.int .i64 f.id) := by simp
      have d1 : (wr.alloc (.cells #[.int .i64 f.id, .string f.obj, .int .i64 f.fr, .int .i64 f.to, .string f.mt, .bool f.mw, .string f.nt, .bool f.nw, .int .i64 f.en, .int .i64 f.sa, .int .i64 f.mo, .int .i64 f.ge, .int .i64 f.pl, .int .i64 f.stop, .int .i64 (heI f), .slice A2 f.who.length c2] 57)).cell? ⟨wr.heap.size, 1, none⟩ = some (.string f.obj) := by simp
      have d2 : (wr.alloc (.cells #[.int .i64 f.id, .string f.obj, .int .i64 f.fr, .int .i64 f.to, .string f.mt, .bool f.mw, .string f.nt, .bool f.nw, .int .i64 f.en, .int .i64 f.sa, .int .i64 f.mo, .int .i64 f.ge, .int .i64 f.pl, .int .i64 f.stop, .int .i64 (heI f), .slice A2 f.who.length c2] 57)).cell? ⟨wr.heap.size, 2, none⟩ = some (.int .i64 f.fr) := by simp
      have d3 : (wr.alloc (.cells #[.int .i64 f.id, .string f.obj, .int .i64 f.fr, .int .i64 f.to, .string f.mt, .bool f.mw, .string f.nt, .bool f.nw, .int .i64 f.en, .int .i64 f.sa, .int .i64 f.mo, .int .i64 f.ge, .int .i64 f.pl, .int .i64 f.stop, .int .i64 (heI f), .slice A2 f.who.length c2] 57)).cell? ⟨wr.heap.size, 3, none⟩ = some (.int .i64 f.to) := by simp
      have d4 : (wr.alloc (.cells #[.int .i64 f.id, .string f.obj, .int .i64 f.fr, .int .i64 f.to, .string f.mt, .bool f.mw, .string f.nt, .bool f.nw, .int .i64 f.en, .int .i64 f.sa, .int .i64 f.mo, .int .i64 f.ge, .int .i64 f.pl, .int .i64 f.stop, .int .i64 (heI f), .slice A2 f.who.length c2] 57)).cell? ⟨wr.heap.size, 4, none⟩ = some (.string f.mt) := by simp
      have d5 : (wr.alloc (.cells #[.int .i64 f.id, .string f.obj, .int .i64 f.fr, .int .i64 f.to, .string f.mt, .bool f.mw, .string f.nt, .bool f.nw, .int .i64 f.en, .int .i64 f.sa, .int .i64 f.mo, .int .i64 f.ge, .int .i64 f.pl, .int .i64 f.stop, .int .i64 (heI f), .slice A2 f.who.length c2] 57)).cell? ⟨wr.heap.size, 5, none⟩ = some (.bool f.mw) := by simp
      have d6 : (wr.alloc (.cells #[.int .i64 f.id, .string f.obj, .int .i64 f.fr, .int .i64 f.to, .string f.mt, .bool f.mw, .string f.nt, .bool f.nw, .int .i64 f.en, .int .i64 f.sa, .int .i64 f.mo, .int .i64 f.ge, .int .i64 f.pl, .int .i64 f.stop, .int .i64 (heI f), .slice A2 f.who.length c2] 57)).cell? ⟨wr.heap.size, 6, none⟩ = some (.string f.nt) := by simp
      have d7 : (wr.alloc (.cells #[.int .i64 f.id, .string f.obj, .int .i64 f.fr, .int .i64 f.to, .string f.mt, .bool f.mw, .string f.nt, .bool f.nw, .int .i64 f.en, .int .i64 f.sa, .int .i64 f.mo, .int .i64 f.ge, .int .i64 f.pl, .int .i64 f.stop, .int .i64 (heI f), .slice A2 f.who.length c2] 57)).cell? ⟨wr.heap.size, 7, none⟩ = some (.bool f.nw) := by simp
      have d8 : (wr.alloc (.cells #[.int .i64 f.id, .string f.obj, .int .i64 f.fr, .int .i64 f.to, .string f.mt, .bool f.mw, .string f.nt, .bool f.nw, .int .i64 f.en, .int .i64 f.sa, .int .i64 f.mo, .int .i64 f.ge, .int .i64 f.pl, .int .i64 f.stop, .int .i64 (heI f), .slice A2 f.who.length c2] 57)).cell? ⟨wr.heap.size, 8, none⟩ = some (.int .i64 f.en) := by simp
      have d9 : (wr.alloc (.cells #[.int .i64 f.id, .string f.obj, .int .i64 f.fr, .int .i64 f.to, .string f.mt, .bool f.mw, .string f.nt, .bool f.nw, .int .i64 f.en, .int .i64 f.sa, .int .i64 f.mo, .int .i64 f.ge, .int .i64 f.pl, .int .i64 f.stop, .int .i64 (heI f), .slice A2 f.who.length c2] 57)).cell? ⟨wr.heap.size, 9, none⟩ = some (.int .i64 f.sa) := by simp
      have d10 : (wr.alloc (.cells #[.int .i64 f.id, .string f.obj, .int .i64 f.fr, .int .i64 f.to, .string f.mt, .bool f.mw, .string f.nt, .bool f.nw, .int .i64 f.en, .int .i64 f.sa, .int .i64 f.mo, .int .i64 f.ge, .int .i64 f.pl, .int .i64 f.stop, .int .i64 (heI f), .slice A2 f.who.length c2] 57)).cell? ⟨wr.heap.size, 10, none⟩ = some (.int .i64 f.mo) := by simp
      have d11 : (wr.alloc (.cells #[.int .i64 f.id, .string f.obj, .int .i64 f.fr, .int .i64 f.to, .string f.mt, .bool f.mw, .string f.nt, .bool f.nw, .int .i64 f.en, .int .i64 f.sa, .int .i64 f.mo, .int .i64 f.ge, .int .i64 f.pl, .int .i64 f.stop, .int .i64 (heI f), .slice A2 f.who.length c2] 57)).cell? ⟨wr.heap.size, 11, none⟩ = some (.int .i64 f.ge) := by simp
      have d12 : (wr.alloc (.cells #[.int .i64 f.id, .string f.obj, .int .i64 f.fr, .int .i64 f.to, .string f.mt, .bool f.mw, .string f.nt, .bool f.nw, .int .i64 f.en, .int .i64 f.sa, .int .i64 f.mo, .int .i64 f.ge, .int .i64 f.pl, .int .i64 f.stop, .int .i64 (heI f), .slice A2 f.who.length c2] 57)).cell? ⟨wr.heap.size, 12, none⟩ = some (.int .i64 f.pl) := by simp
      have d13 : (wr.alloc (.cells #[.int .i64 f.id, .string f.obj, .int .i64 f.fr, .int .i64 f.to, .string f.mt, .bool f.mw, .string f.nt, .bool f.nw, .int .i64 f.en, .int .i64 f.sa, .int .i64 f.mo, .int .i64 f.ge, .int .i64 f.pl, .int .i64 f.stop, .int .i64 (heI f), .slice A2 f.who.length c2] 57)).cell? ⟨wr.heap.size, 13, none⟩ = some (.int .i64 f.stop) := by simp
      have d14 : (wr.alloc (.cells #[.int .i64 f.id, .string f.obj, .int .i64 f.fr, .int .i64 f.to, .string f.mt, .bool f.mw, .string f.nt, .bool f.nw, .int .i64 f.en, .int .i64 f.sa, .int .i64 f.mo, .int .i64 f.ge, .int .i64 f.pl, .int .i64 f.stop, .int .i64 (heI f), .slice A2 f.who.length c2] 57)).cell? ⟨wr.heap.size, 14, none⟩ = some (.int .i64 (heI f)) := by simp
      have d15 : (wr.alloc (.cells #[.int .i64 f.id, .string f.obj, .int .i64 f.fr, .int .i64 f.to, .string f.mt, .bool f.mw, .string f.nt, .bool f.nw, .int .i64 f.en, .int .i64 f.sa, .int .i64 f.mo, .int .i64 f.ge, .int .i64 f.pl, .int .i64 f.stop, .int .i64 (heI f), .slice A2 f.who.length c2] 57)).cell? ⟨wr.heap.size, 15, none⟩ = some (.slice A2 f.who.length c2) := by simp
      have hx2 := hx.trans hxb
      have hown1 := ownsRow_ext hown hxb
      clear hown
      cases hm : ofEn en f
      · have HM : Hid ((((l.take (k + 1)).filter (ofEn en)).map com) = L) := Lib.hid (by rw [HS.out, hm, HL.out]; simp)
        have hq : ¬ (1 ≤ en) ∨ ¬ (f.en = en) := by
          unfold ofEn at hm
          by_cases h1 : 1 ≤ en
          · right; intro h2; simp [h1, h2] at hm
          · exact .inl h1
        clear hm HS HL
        by_cases h1 : 1 ≤ en
        · have h2 : ¬ (f.en = en) := hq.resolve_left (fun h => h h1)
          have h3 : (f.en == en) = false := beq_eq_false_iff_ne.2 h2
          have h4 : decide (1 ≤ en) = true := decide_eq_true h1
          clear hq h1 h2
          go_wp2
          go_roundw
          case rel =>
            refine ⟨k + 1, by omega, by go_num, ?_, hx2⟩
            rw [HM.out]
            exact hown1
          case measure => simp [intOf] <;> omega
        · have h4 : decide (1 ≤ en) = false := decide_eq_false h1
          clear hq h1
          go_wp2
          go_roundw
          case rel =>
            refine ⟨k + 1, by omega, by go_num, ?_, hx2⟩
            rw [HM.out]
            exact hown1
          case measure => simp [intOf] <;> omega
      · have HM : Hid ((((l.take (k + 1)).filter (ofEn en)).map com) = L ++ [comR f]) := Lib.hid (by rw [HS.out, hm, HL.out, comR_eq hm]; simp)
        have h1 : decide (1 ≤ en) = true ∧ (f.en == en) = true := by unfold ofEn at hm; simpa using hm
        obtain ⟨h4, h3⟩ := h1
        have HC := Lib.hid (fun W => come_calls f A2 c2 W)
        clear hm HS HL
        generalize comR f = q at *
        go_wp2_with fail
        refine (HC.out _).mono ?_
        rintro e w2 ⟨rfl, hx3⟩
        have hown2 := ownsRow_ext hown1 hx3
        have hx12 := hx2.trans hx3
        have hsz2 := hx12.size
        clear hown1 d0 d1 d2 d3 d4 d5 d6 d7 d8 d9 d10 d11 d12 d13 d14 d15 q0 q1 q2 q3 q4 q5 q6 q7 q8 q9 q10 q11 q12 q13 q14 q15
        go_wp2_with (at_builtin; refine wpList_append_new _ rfl _ _ 72 rfl w.heap.size 24 _ 2 16 Try.underlying72 infoSpan rfl (by omega) _ L.length (spans L) rfl hown2 1 1 _ rfl _ rfl rfl (by simp [Value.oneCell']) (by simp [maxLen]; omega) (by omega) hsz2 ?_; intro v1 w3 hown3 hm2)
        have hx4 := ext_moved hx12 hown2 hm2
        go_roundw
        case rel =>
          refine ⟨k + 1, by omega, by go_num, ?_, hx4⟩
          rw [HM.out, spans_append, spans_one, List.length_append]
          exact hown3
        case measure => simp [intOf] <;> omega
    · obtain rfl : k = l.length := by omega
      rw [List.take_length] at hown
      have hlen : ((l.filter (ofEn en)).map com).length ≤ 1000 := by
        rw [List.length_map]
        exact Nat.le_trans (List.length_filter_le _ _) s1
      obtain ⟨L, hL⟩ : ∃ L, (l.filter (ofEn en)).map com = L := ⟨_, rfl⟩
      rw [hL] at hown hlen
      have HL := Lib.hid hL
      obtain ⟨A3, c3, rfl, _⟩ := own_shape hown
      have HO := Lib.hid (refOf_calls A3 c3 L wr (sat_of_own hown) (by omega))
      clear hown hL hrow
      go_wp2_with fail
      refine HO.out.mono ?_
      rintro e w2 ⟨A9, c9, rfl, HS9, hx9⟩
      go_wp2
      go_ret
      exact ⟨A9, c9, by rw [HL.out]; rfl, by rw [HL.out]; exact HS9, hx.trans hx9⟩

set_option maxHeartbeats 2000000 in
set_option maxRecDepth 100000 in
theorem servesR_calls (N tb : Nat) (lv : Value) (O : List Nat) (t : Tab) (en x : Int) (w : World) (h : RTabL N w tb lv O t) (hs : Small t) (hok : ∀ f ∈ t.l, ofEn en f = true → ∀ y, (com f).f ≤ y → y < (com f).t → rightB (com f).f (com f).t = true) :
    Calls Try.prog 36 #[.pointer (some ⟨tb, 0, none⟩), .int .i64 en, .int .i64 x] w fun e w' => e = .returned (.int .i64 (idO (srvF t en x))) ∧ Ext w w' := by
  obtain ⟨c0, A, c, rfl, hrow⟩ := h.rowk
  obtain ⟨s1, _, _, _, _⟩ := hs
  obtain ⟨l, last⟩ := t
  dsimp only at c0 hrow s1 hok
  have hcd : srvF ⟨l, last⟩ en x = l.find? fun f => ofEn en f && hasB (com f) x := rfl
  rw [hcd]
  obtain ⟨R, hR⟩ : ∃ R, (l.find? fun f => ofEn en f && hasB (com f) x) = R := ⟨_, rfl⟩
  rw [hR]
  have HR := Lib.hid hR
  have HOK := Lib.hid hok
  clear hR hcd h hok
  go_enter Try.func36, Try.ntmps36
  go_wp2
  go_loopw [15] (fun i wr => ∃ k : Nat, k ≤ l.length ∧ i = .int .i64 k ∧ Hid (R = (l.drop k).find? fun f => ofEn en f && hasB (com f) x) ∧ Ext w wr) (fun i _ => l.length - (intOf i).toNat)
  case atStart => exact ⟨0, Nat.zero_le _, rfl, Lib.hid (by rw [← HR.out]; rfl), Ext.refl _⟩
  case round =>
    obtain ⟨k, hk, rfl, HQ, hx⟩ := hrel
    by_cases hlt : k < l.length
    · obtain ⟨g, A2, c2, rfl, hro, hri⟩ := hrow k hlt
      replace hro := hro.ext hx
      have hstep : R = if ofEn en l[k] && hasB (com l[k]) x then some l[k] else (l.drop (k + 1)).find? fun f => ofEn en f && hasB (com f) x := by
        rw [HQ.out, List.drop_eq_getElem_cons hlt, List.find?_cons]
        split <;> simp_all
      have hrb := HOK.out l[k] (List.getElem_mem hlt)
      obtain ⟨f, hff⟩ : ∃ f, l[k] = f := ⟨_, rfl⟩
      rw [hff] at hro hstep hrb
      have q0 : wr.cell? ⟨g, k * 16, none⟩ = some (.int .i64 f.id) := hro 0 _ rfl
      have q1 : wr.cell? ⟨g, k * 16 + 1, none⟩ = some (.string f.obj) := hro 1 _ rfl
      have q2 : wr.cell? ⟨g, k * 16 + 2, none⟩ = some (.int .i64 f.fr) := hro 2 _ rfl
      have q3 : wr.cell? ⟨g, k * 16 + 3, none⟩ = some (.int .i64 f.to) := hro 3 _ rfl
      have q4 : wr.cell? ⟨g, k * 16 + 4, none⟩ = some (.string f.mt) := hro 4 _ rfl
      have q5 : wr.cell? ⟨g, k * 16 + 5, none⟩ = some (.bool f.mw) := hro 5 _ rfl
      have q6 : wr.cell? ⟨g, k * 16 + 6, none⟩ = some (.string f.nt) := hro 6 _ rfl
      have q7 : wr.cell? ⟨g, k * 16 + 7, none⟩ = some (.bool f.nw) := hro 7 _ rfl
      have q8 : wr.cell? ⟨g, k * 16 + 8, none⟩ = some (.int .i64 f.en) := hro 8 _ rfl
      have q9 : wr.cell? ⟨g, k * 16 + 9, none⟩ = some (.int .i64 f.sa) := hro 9 _ rfl
      have q10 : wr.cell? ⟨g, k * 16 + 10, none⟩ = some (.int .i64 f.mo) := hro 10 _ rfl
      have q11 : wr.cell? ⟨g, k * 16 + 11, none⟩ = some (.int .i64 f.ge) := hro 11 _ rfl
      have q12 : wr.cell? ⟨g, k * 16 + 12, none⟩ = some (.int .i64 f.pl) := hro 12 _ rfl
      have q13 : wr.cell? ⟨g, k * 16 + 13, none⟩ = some (.int .i64 f.stop) := hro 13 _ rfl
      have q14 : wr.cell? ⟨g, k * 16 + 14, none⟩ = some (.int .i64 (heI f)) := hro 14 _ rfl
      have q15 : wr.cell? ⟨g, k * 16 + 15, none⟩ = some (.slice A2 f.who.length c2) := hro 15 _ rfl
      have HS := Lib.hid hstep
      have HRB := Lib.hid hrb
      clear hff hstep hri hrow hro HQ hrb
      have hxb : Ext wr (wr.alloc (.cells #[.int .i64 f.id, .string f.obj, .int .i64 f.fr, .int .i64 f.to, .string f.mt, .bool f.mw, .string f.nt, .bool f.nw, .int .i64 f.en, .int .i64 f.sa, .int .i64 f.mo, .int .i64 f.ge, .int .i64 f.pl, .int .i64 f.stop, .int .i64 (heI f), .slice A2 f.who.length c2] 57)) := (Ext.refl wr).alloc _
      have d0 : (wr.alloc (.cells #[.int .i64 f.id, .string f.obj, .int .i64 f.fr, .int .i64 f.to, .string f.mt, .bool f.mw, .string f.nt, .bool f.nw, .int .i64 f.en, .int .i64 f.sa, .int .i64 f.mo, .int .i64 f.ge, .int .i64 f.pl, .int .i64 f.stop, .int .i64 (heI f), .slice A2 f.who.length c2] 57)).cell? ⟨wr.heap.size, 0, none⟩ = some (.int .i64 f.id) := by simp
      have d1 : (wr.alloc (.cells #[.int .i64 f.id, .string f.obj, .int .i64 f.fr, .int .i64 f.to, .string f.mt, .bool f.mw, .string f.nt, .bool f.nw, .int .i64 f.en, .int .i64 f.sa, .int .i64 f.mo, .int .i64 f.ge, .int .i64 f.pl, .int .i64 f.stop, .int .i64 (heI f), .slice A2 f.who.length c2] 57)).cell? ⟨wr.heap.size, 1, none⟩ = some (.string f.obj) := by simp
      have d2 : (wr.alloc (.cells #[.int .i64 f.id, .string f.obj, .int .i64 f.fr, .int .i64 f.to, .string f.mt, .bool f.mw, .string f.nt, .bool f.nw, .int .i64 f.en, .int .i64 f.sa, .int .i64 f.mo, .int .i64 f.ge, .int .i64 f.pl, .int .i64 f.stop, .int .i64 (heI f), .slice A2 f.who.length c2] 57)).cell? ⟨wr.heap.size, 2, none⟩ = some (.int .i64 f.fr) := by simp
      have d3 : (wr.alloc (.cells #[.int .i64 f.id, .string f.obj, .int .i64 f.fr, .int .i64 f.to, .string f.mt, .bool f.mw, .string f.nt, .bool f.nw, .int .i64 f.en, .int .i64 f.sa, .int .i64 f.mo, .int .i64 f.ge, .int .i64 f.pl, .int .i64 f.stop, .int .i64 (heI f), .slice A2 f.who.length c2] 57)).cell? ⟨wr.heap.size, 3, none⟩ = some (.int .i64 f.to) := by simp
      have d4 : (wr.alloc (.cells #[.int .i64 f.id, .string f.obj, .int .i64 f.fr, .int .i64 f.to, .string f.mt, .bool f.mw, .string f.nt, .bool f.nw, .int .i64 f.en, .int .i64 f.sa, .int .i64 f.mo, .int .i64 f.ge, .int .i64 f.pl, .int .i64 f.stop, .int .i64 (heI f), .slice A2 f.who.length c2] 57)).cell? ⟨wr.heap.size, 4, none⟩ = some (.string f.mt) := by simp
      have d5 : (wr.alloc (.cells #[.int .i64 f.id, .string f.obj, .int .i64 f.fr, .int .i64 f.to, .string f.mt, .bool f.mw, .string f.nt, .bool f.nw, .int .i64 f.en, .int .i64 f.sa, .int .i64 f.mo, .int .i64 f.ge, .int .i64 f.pl, .int .i64 f.stop, .int .i64 (heI f), .slice A2 f.who.length c2] 57)).cell? ⟨wr.heap.size, 5, none⟩ = some (.bool f.mw) := by simp
      have d6 : (wr.alloc (.cells #[.int .i64 f.id, .string f.obj, .int .i64 f.fr, .int .i64 f.to, .string f.mt, .bool f.mw, .string f.nt, .bool f.nw, .int .i64 f.en, .int .i64 f.sa, .int .i64 f.mo, .int .i64 f.ge, .int .i64 f.pl, .int .i64 f.stop, .int .i64 (heI f), .slice A2 f.who.length c2] 57)).cell? ⟨wr.heap.size, 6, none⟩ = some (.string f.nt) := by simp
      have d7 : (wr.alloc (.cells #[.int .i64 f.id, .string f.obj, .int .i64 f.fr, .int .i64 f.to, .string f.mt, .bool f.mw, .string f.nt, .bool f.nw, .int .i64 f.en, .int .i64 f.sa, .int .i64 f.mo, .int .i64 f.ge, .int .i64 f.pl, .int .i64 f.stop, .int .i64 (heI f), .slice A2 f.who.length c2] 57)).cell? ⟨wr.heap.size, 7, none⟩ = some (.bool f.nw) := by simp
      have d8 : (wr.alloc (.cells #[.int .i64 f.id, .string f.obj, .int .i64 f.fr, .int .i64 f.to, .string f.mt, .bool f.mw, .string f.nt, .bool f.nw, .int .i64 f.en, .int .i64 f.sa, .int .i64 f.mo, .int .i64 f.ge, .int .i64 f.pl, .int .i64 f.stop, .int .i64 (heI f), .slice A2 f.who.length c2] 57)).cell? ⟨wr.heap.size, 8, none⟩ = some (.int .i64 f.en) := by simp
      have d9 : (wr.alloc (.cells #[.int .i64 f.id, .string f.obj, .int .i64 f.fr, .int .i64 f.to, .string f.mt, .bool f.mw, .string f.nt, .bool f.nw, .int .i64 f.en, .int .i64 f.sa, .int .i64 f.mo, .int .i64 f.ge, .int .i64 f.pl, .int .i64 f.stop, .int .i64 (heI f), .slice A2 f.who.length c2] 57)).cell? ⟨wr.heap.size, 9, none⟩ = some (.int .i64 f.sa) := by simp
      have d10 : (wr.alloc (.cells #[.int .i64 f.id, .string f.obj, .int .i64 f.fr, .int .i64 f.to, .string f.mt, .bool f.mw, .string f.nt, .bool f.nw, .int .i64 f.en, .int .i64 f.sa, .int .i64 f.mo, .int .i64 f.ge, .int .i64 f.pl, .int .i64 f.stop, .int .i64 (heI f), .slice A2 f.who.length c2] 57)).cell? ⟨wr.heap.size, 10, none⟩ = some (.int .i64 f.mo) := by simp
      have d11 : (wr.alloc (.cells #[.int .i64 f.id, .string f.obj, .int .i64 f.fr, .int .i64 f.to, .string f.mt, .bool f.mw, .string f.nt, .bool f.nw, .int .i64 f.en, .int .i64 f.sa, .int .i64 f.mo, .int .i64 f.ge, .int .i64 f.pl, .int .i64 f.stop, .int .i64 (heI f), .slice A2 f.who.length c2] 57)).cell? ⟨wr.heap.size, 11, none⟩ = some (.int .i64 f.ge) := by simp
      have d12 : (wr.alloc (.cells #[.int .i64 f.id, .string f.obj, .int .i64 f.fr, .int .i64 f.to, .string f.mt, .bool f.mw, .string f.nt, .bool f.nw, .int .i64 f.en, .int .i64 f.sa, .int .i64 f.mo, .int .i64 f.ge, .int .i64 f.pl, .int .i64 f.stop, .int .i64 (heI f), .slice A2 f.who.length c2] 57)).cell? ⟨wr.heap.size, 12, none⟩ = some (.int .i64 f.pl) := by simp
      have d13 : (wr.alloc (.cells #[.int .i64 f.id, .string f.obj, .int .i64 f.fr, .int .i64 f.to, .string f.mt, .bool f.mw, .string f.nt, .bool f.nw, .int .i64 f.en, .int .i64 f.sa, .int .i64 f.mo, .int .i64 f.ge, .int .i64 f.pl, .int .i64 f.stop, .int .i64 (heI f), .slice A2 f.who.length c2] 57)).cell? ⟨wr.heap.size, 13, none⟩ = some (.int .i64 f.stop) := by simp
      have d14 : (wr.alloc (.cells #[.int .i64 f.id, .string f.obj, .int .i64 f.fr, .int .i64 f.to, .string f.mt, .bool f.mw, .string f.nt, .bool f.nw, .int .i64 f.en, .int .i64 f.sa, .int .i64 f.mo, .int .i64 f.ge, .int .i64 f.pl, .int .i64 f.stop, .int .i64 (heI f), .slice A2 f.who.length c2] 57)).cell? ⟨wr.heap.size, 14, none⟩ = some (.int .i64 (heI f)) := by simp
      have d15 : (wr.alloc (.cells #[.int .i64 f.id, .string f.obj, .int .i64 f.fr, .int .i64 f.to, .string f.mt, .bool f.mw, .string f.nt, .bool f.nw, .int .i64 f.en, .int .i64 f.sa, .int .i64 f.mo, .int .i64 f.ge, .int .i64 f.pl, .int .i64 f.stop, .int .i64 (heI f), .slice A2 f.who.length c2] 57)).cell? ⟨wr.heap.size, 15, none⟩ = some (.slice A2 f.who.length c2) := by simp
      have HC := Lib.hid (fun W => come_calls f A2 c2 W)
      have hx2 := hx.trans hxb
      obtain ⟨q, hq⟩ : ∃ q, comR f = q := ⟨_, rfl⟩
      rw [hq] at HC
      have HQQ := Lib.hid hq
      clear hq hxb
      go_wp2_with fail
      generalize (wr.alloc (.cells #[.int .i64 f.id, .string f.obj, .int .i64 f.fr, .int .i64 f.to, .string f.mt, .bool f.mw, .string f.nt, .bool f.nw, .int .i64 f.en, .int .i64 f.sa, .int .i64 f.mo, .int .i64 f.ge, .int .i64 f.pl, .int .i64 f.stop, .int .i64 (heI f), .slice A2 f.who.length c2] 57)) = wb at *
      generalize wr.heap.size = nb at *
      refine (HC.out _).mono ?_
      rintro e w2 ⟨rfl, hx3⟩
      have hx23 : Ext w2 (w2.alloc (.cells #[.int .i64 q.f, .int .i64 q.t] 24)) := (Ext.refl w2).alloc _
      have e0 : (w2.alloc (.cells #[.int .i64 q.f, .int .i64 q.t] 24)).cell? ⟨w2.heap.size, 0, none⟩ = some (.int .i64 q.f) := by simp
      have e1 : (w2.alloc (.cells #[.int .i64 q.f, .int .i64 q.t] 24)).cell? ⟨w2.heap.size, 1, none⟩ = some (.int .i64 q.t) := by simp
      replace d0 := hx23.cell (hx3.cell d0)
      replace d8 := hx23.cell (hx3.cell d8)
      have hx4 := (hx2.trans hx3).trans hx23
      clear d1 d2 d3 d4 d5 d6 d7 d9 d10 d11 d12 d13 d14 d15 q0 q1 q2 q3 q4 q5 q6 q7 q8 q9 q10 q11 q12 q13 q14 q15 HC hx23 hx3 hx2
      cases hm : ofEn en f
      · have HM : Hid (R = (l.drop (k + 1)).find? fun f => ofEn en f && hasB (com f) x) := Lib.hid (by rw [HS.out, hm]; rfl)
        have hq : ¬ (1 ≤ en) ∨ ¬ (f.en = en) := by
          unfold ofEn at hm
          by_cases h1 : 1 ≤ en
          · right; intro h2; simp [h1, h2] at hm
          · exact .inl h1
        clear hm HS
        by_cases h1 : 1 ≤ en
        · have h2 : ¬ (f.en = en) := hq.resolve_left (fun h => h h1)
          have h3 : (f.en == en) = false := beq_eq_false_iff_ne.2 h2
          have h4 : decide (1 ≤ en) = true := decide_eq_true h1
          clear hq h1 h2
          go_wp2
          go_roundw
          case rel => exact ⟨k + 1, by omega, by go_num, HM, hx4⟩
          case measure => simp [intOf] <;> omega
        · have h4 : decide (1 ≤ en) = false := decide_eq_false h1
          clear hq h1
          go_wp2
          go_roundw
          case rel => exact ⟨k + 1, by omega, by go_num, HM, hx4⟩
          case measure => simp [intOf] <;> omega
      · have hce := comR_eq hm
        have hqc : com f = q := by rw [← hce]; exact HQQ.out
        have HM : Hid (R = if hasB q x then some f else (l.drop (k + 1)).find? fun f => ofEn en f && hasB (com f) x) := Lib.hid (by rw [HS.out, hm, hqc]; rfl)
        have hbq : hasB q x = (decide (q.f ≤ x) && decide (x < q.t)) := by
          unfold hasB
          cases a1 : decide (q.f ≤ x)
          · simp
          · cases a2 : decide (x < q.t)
            · simp
            · have := HRB.out hm x (by rw [hqc]; simpa using a1) (by rw [hqc]; simpa using a2)
              rw [hqc] at this
              rw [this]; rfl
        rw [hbq] at HM
        have h1 : decide (1 ≤ en) = true ∧ (f.en == en) = true := by unfold ofEn at hm; simpa using hm
        obtain ⟨h4, h3⟩ := h1
        clear hm HS hce hqc hbq HQQ HRB
        by_cases b1 : q.f ≤ x
        · by_cases b2 : x < q.t
          · have HM2 : Hid (R = some f) := Lib.hid (by rw [HM.out]; simp [b1, b2])
            have b3 : decide (q.f ≤ x) = true := decide_eq_true b1
            have b4 : decide (x < q.t) = true := decide_eq_true b2
            clear HM
            go_wp2
            go_ret
            exact ⟨by rw [HM2.out]; rfl, hx4⟩
          · have HM2 : Hid (R = (l.drop (k + 1)).find? fun f => ofEn en f && hasB (com f) x) := Lib.hid (by rw [HM.out]; simp [b2])
            have b3 : decide (q.f ≤ x) = true := decide_eq_true b1
            have b4 : decide (x < q.t) = false := decide_eq_false b2
            clear HM
            go_wp2
            go_roundw
            case rel => exact ⟨k + 1, by omega, by go_num, HM2, hx4⟩
            case measure => simp [intOf] <;> omega
        · have HM2 : Hid (R = (l.drop (k + 1)).find? fun f => ofEn en f && hasB (com f) x) := Lib.hid (by rw [HM.out]; simp [b1])
          have b3 : decide (q.f ≤ x) = false := decide_eq_false b1
          clear HM
          go_wp2
          go_roundw
          case rel => exact ⟨k + 1, by omega, by go_num, HM2, hx4⟩
          case measure => simp [intOf] <;> omega
    · obtain rfl : k = l.length := by omega
      have HM : Hid (R = none) := Lib.hid (by rw [HQ.out, List.drop_length]; rfl)
      clear HQ
      go_wp2
      go_ret
      exact ⟨by rw [HM.out]; rfl, hx⟩
end Go.Proofs.Ytaanbgagdanalaa.Rg
