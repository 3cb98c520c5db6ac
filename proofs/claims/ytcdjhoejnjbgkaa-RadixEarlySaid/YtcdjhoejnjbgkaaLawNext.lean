/- RadixNext: the walk. -/
import Derived.Test.YtcdjhoejnjbgkaaRound
namespace Go.Proofs.Ytcdjhoejnjbgkaa
open Go.RowKit

/-- Where the search for the next number begins. -/
def atN (L : List Pr) : Nat → Nat
  | 0 => 0
  | j + 1 => (((L[j]?).map (·.k)).getD 0 + 1) % 2 ^ 64
theorem atN_from {L : List Pr} (hu : Up L) (hl : ∀ e ∈ L, e.k < 2 ^ 64) {j : Nat} (hj : j < L.length) : fromL (atN L j) L = L.drop j := by
  cases j with
  | zero => rw [List.drop_zero]; unfold fromL; rw [List.filter_eq_self]; intro a _; simp [atN]
  | succ j =>
    have h1 : (L[j]'(by omega)).k < L[j + 1].k := List.pairwise_iff_getElem.1 hu j (j + 1) (by omega) hj (by omega)
    have h2 := hl _ (List.getElem_mem hj)
    have e : atN L (j + 1) = (L[j]'(by omega)).k + 1 := by
      simp only [atN, List.getElem?_eq_getElem (show j < L.length by omega), Option.map_some, Option.getD_some]
      omega
    have key : ∀ q, fromL q L = fromL q (L.take (j + 1)) ++ fromL q (L.drop (j + 1)) := fun q => by rw [← fromL_append, List.take_append_drop]
    rw [e, key]
    have ha : fromL ((L[j]'(by omega)).k + 1) (L.take (j + 1)) = [] := by
      unfold fromL
      rw [List.filter_eq_nil_iff]
      intro a ha
      obtain ⟨i, hi, rfl⟩ := List.mem_iff_getElem.1 ha
      simp only [List.length_take] at hi
      rw [List.getElem_take]
      have : L[i].k ≤ (L[j]'(by omega)).k := by
        rcases Nat.lt_or_ge i j with h | h
        · exact Nat.le_of_lt (List.pairwise_iff_getElem.1 hu i j (by omega) (by omega) h)
        · have : i = j := by omega
          subst this; exact Nat.le_refl _
      simp; omega
    have hb : fromL ((L[j]'(by omega)).k + 1) (L.drop (j + 1)) = L.drop (j + 1) := by
      unfold fromL
      rw [List.filter_eq_self]
      intro a ha
      obtain ⟨i, hi, rfl⟩ := List.mem_iff_getElem.1 ha
      simp only [List.length_drop] at hi
      rw [List.getElem_drop]
      have := List.pairwise_iff_getElem.1 hu j (j + 1 + i) (by omega) (by omega) (by omega)
      simp; omega
    rw [ha, hb, List.nil_append]
theorem from_okO {k : Nat} {t : Option Nd} (h : Nd.oWF t) : fromO k t = fromL k (Nd.oL t) := by
  cases t with
  | none => rfl
  | some t => exact from_ok h
theorem upO {t : Option Nd} (h : Nd.oWF t) : Up (Nd.oL t) ∧ ∀ e ∈ Nd.oL t, e.k < 2 ^ 64 := by
  cases t with
  | none => exact ⟨List.Pairwise.nil, fun e he => by simp [Nd.oL] at he⟩
  | some t => exact ⟨Nd.up h, Nd.low h⟩

set_option maxHeartbeats 4000000 in
set_option maxRecDepth 100000 in
theorem lawNext_calls (A : Option Addr) (c : Nat) (l : List Ac) (k : Nat) (w : World) (ha : Acts w A l) :
    Calls Try.prog 5 #[.slice A l.length c, .int .u64 k] w fun e w' => e = .returned (.bool true) ∧ Ext w w' := by
  have hlow := ha.low
  go_enter Try.func5, Try.ntmps5
  go_wp2_with fail
  refine (St.awake_calls _).mono ?_
  rintro e w1 ⟨rfl, hx⟩
  replace ha := ha.ext hx
  by_cases hl : 60 < l.length
  · go_wp2_with fail
    refine (St.awake_calls _).mono ?_
    rintro e w2 ⟨rfl, hx2⟩
    go_wp2
    go_ret
    exact ⟨rfl, hx.trans hx2⟩
  · have hB : Both w1 w1.heap.size none (.slice none 0 0) (w1.alloc (.cells #[.pointer none] 27)) :=
      ⟨none, heap_alloc_new w1 _, Nat.le_refl _, rfl, ⟨none, 0, rfl, fun k hk => by simp [Nd.oL] at hk⟩, (Ext.refl _).alloc _⟩
    go_wp2
    generalize hM : w1.heap.size = M at *
    generalize w1.alloc (.cells #[.pointer none] 27) = wi at *
    clear hM
    go_loopw [6, 29] (fun v i wr => ∃ n : Nat, n ≤ l.length ∧ i = .int .i64 n ∧ Both w1 M (runO (l.take n)) v wr) (fun _ i _ => l.length - (intOf i).toNat)
    case atStart => exact ⟨0, Nat.zero_le _, rfl, hB⟩
    case round =>
      obtain ⟨n, hn, rfl, hB'⟩ := hrel
      clear hB
      by_cases hlt : n < l.length
      · obtain ⟨p, hM, hM0, hat, hrd, hx1⟩ := hB'
        obtain ⟨ab, ao, rfl, a0, a1, a2, hk⟩ := ha.ext hx1 n hlt
        have hwf := runO_wf (low_take hlow n)
        have hln := runO_len (low_take hlow n)
        have hlen : (l.take n).length ≤ n := List.length_take_le _ _
        have hst := runO_take hlt
        generalize l[n] = a at *
        generalize runO (l.take n) = t at *
        obtain ⟨A2, c2, rfl, hrow⟩ := hrd
        have m0 : wr.cell? ⟨M, 0, none⟩ = some (.pointer p) := by rw [cell_of_row _ _ 0 _ _ _ hM]; rfl
        have hMl := (Array.getElem?_eq_some_iff.1 hM).1
        have HS := Lib.hid hst
        clear hst
        go_upto_region 8 with (fail)
        have hxb : Ext wr (wr.alloc (.cells #[.int .i64 a.kind, .int .u64 (a.k : Int), .int .i64 a.v] 30)) := (Ext.refl _).alloc _
        have hab := heap_alloc_new wr (.cells #[.int .i64 a.kind, .int .u64 (a.k : Int), .int .i64 a.v] 30)
        generalize wr.heap.size = ah at *
        generalize wr.alloc (.cells #[.int .i64 a.kind, .int .u64 (a.k : Int), .int .i64 a.v] 30) = wb at *
        have hdr := hxb.trans (show Ext wb wb.drew from (Ext.refl _).drew)
        have HM := hdr.block hM
        have AT := hat.ext hdr
        have RD := hrow.ext hdr
        have HX := hx1.trans hdr
        have b0 : wb.drew.cell? ⟨ah, 0, none⟩ = some (.int .i64 a.kind) := by rw [cell_of_row wb.drew ah 0 _ _ _ hab]; rfl
        have b1 : wb.drew.cell? ⟨ah, 1, none⟩ = some (.int .u64 (a.k : Int)) := by rw [cell_of_row wb.drew ah 1 _ _ _ hab]; rfl
        have b2 : wb.drew.cell? ⟨ah, 2, none⟩ = some (.int .i64 a.v) := by rw [cell_of_row wb.drew ah 2 _ _ _ hab]; rfl
        have m1 := (cell_ptr HM).1
        have m2 := (cell_ptr HM).2
        clear hM hat hrow hx1 hab hdr hxb a0 a1 a2 m0 ha
        go_region_with (first
          | (go_at_call 11
             refine (do_lit p t a _ ⟨AT, hwf, by omega⟩ hk).mono ?_
             rintro e wn ⟨q, rfl, HD, hx⟩
             replace RD := RD.ext hx
             replace HX := HX.trans hx
             replace HM := hx.block HM
             replace b0 := hx.cell b0
             replace b1 := hx.cell b1
             replace b2 := hx.cell b2
             clear hx AT m1 m2)
          | (go_at_call 12
             refine (want_lit A2 c2 _ a _ RD (by omega)).mono ?_
             rintro e wn ⟨v, rfl, HW, hx⟩
             replace HD := HD.ext hx
             replace HX := HX.trans hx
             replace HM := hx.block HM
             replace b0 := hx.cell b0
             replace b1 := hx.cell b1
             replace b2 := hx.cell b2
             have m1 := (cell_ptr HM).1
             have m2 := (cell_ptr HM).2
             clear hx RD))
        all_goals
          go_wp2_with fail
          go_roundw
          case rel => exact ⟨n + 1, by omega, by go_num, by rw [HS.out]; exact both_set HM hM0 HD (by rw [(doO_ok hk hwf).2]; exact HW) HX⟩
          case measure => simp [intOf] <;> omega
      · obtain rfl : n = l.length := by omega
        obtain ⟨p, hM, hM0, hat, hrd, hx1⟩ := hB'
        rw [List.take_length] at hat hrd
        have hwf := runO_wf hlow
        have hln := runO_len hlow
        generalize runO l = t at *
        replace hx := hx.trans hx1
        obtain ⟨A2, c2, rfl, hrow⟩ := hrd
        have m1 := (cell_ptr hM).1
        have hup := upO hwf
        have hnx := hide (fun W (h : AtO W p t) => next_calls p t k W h hwf)
        rw [from_okO hwf] at hnx
        clear hx1
        have h5 := hide (unhide hnx _ hat)
        go_wp2_with fail
        refine (unhide h5).mono ?_
        rintro e w3 ⟨rfl, hx3⟩
        replace hM := hx3.block hM
        replace hrow := hrow.ext hx3
        replace hat := hat.ext hx3
        replace hx := hx.trans hx3
        clear hx3 m1 hnx h5
        generalize hL : Nd.oL t = L at *
        have HL := Lib.hid hL
        have HU := Lib.hid hup
        have hfl := fromL_length k L
        clear hup hL
        have hrf := hide (from_ref A2 c2 L k w3 hrow (by omega))
        generalize hfg : fromL k L = F at *
        clear hfg
        cases F with
        | nil =>
          simp only [nextV]
          go_wp2_with fail
          refine (unhide hrf).mono ?_
          rintro e w4 ⟨v4, rfl, hown4, hx4⟩
          obtain ⟨A4, c4, rfl, _⟩ := own_shape hown4
          replace hM := hx4.block hM
          replace hrow := hrow.ext hx4
          replace hat := hat.ext hx4
          clear hrf hown4
          go_wp2
          have hx0 : Ext w3 w4 := hx4
          go_loopw [13, 82] (fun s i wr => ∃ j : Nat, j ≤ L.length ∧ i = .int .i64 j ∧ s = .int .u64 (atN L j : Int) ∧ Ext w4 wr) (fun _ i _ => L.length - (intOf i).toNat)
          case atStart => exact ⟨0, Nat.zero_le _, rfl, rfl, Ext.refl _⟩
          case round =>
            obtain ⟨j, hj, rfl, rfl, hxr⟩ := hrel
            by_cases hjl : j < L.length
            · obtain ⟨b, rfl, p0, p1⟩ := hrow.ext hxr j hjl
              have hf2 := atN_from HU.out.1 HU.out.2 hjl
              have hst : atN L (j + 1) = (L[j].k + 1) % 2 ^ 64 := by simp [atN, hjl]
              have hdr : L.drop j = L[j] :: L.drop (j + 1) := List.drop_eq_getElem_cons hjl
              rw [hdr] at hf2
              have hm := (cell_ptr (hxr.block hM)).1
              have hk := HU.out.2 _ (List.getElem_mem hjl)
              have hnx := hide (fun W (h : AtO W p t) => next_calls p t (atN L j) W h hwf)
              rw [from_okO hwf] at hnx
              rw [HL.out] at hnx
              rw [hf2] at hnx
              generalize L[j] = x at *
              have hw : IntKind.u64.wrap ((x.k : Int) + 1) = (((x.k + 1) % 2 ^ 64 : Nat) : Int) := by
                simp [IntKind.wrap, IntKind.signed, IntKind.bits]
              have HS := Lib.hid hst
              have hxa : Ext wr (wr.alloc (.cells #[.int .u64 (x.k : Int), .int .i64 x.v] 37)) := (Ext.refl _).alloc _
              have hmM := (Array.getElem?_eq_some_iff.1 (hxr.block hM)).1
              have h5 := unhide hnx _ (hat.ext (hxr.trans hxa))
              have H5 := hide h5
              clear hst hf2 hdr hnx h5
              go_wp2_with fail
              refine (unhide H5).mono ?_
              rintro e w5 ⟨rfl, hx5⟩
              have q0 : w5.cell? ⟨wr.heap.size, 0, none⟩ = some (.int .u64 (x.k : Int)) := hx5.cell (by simp)
              have q1 : w5.cell? ⟨wr.heap.size, 1, none⟩ = some (.int .i64 x.v) := hx5.cell (by simp)
              have hx6 := hxr.trans (hxa.trans hx5)
              clear hx5 hxa hm
              simp only [nextV]
              go_wp2
              go_roundw
              case rel => exact ⟨j + 1, by omega, by go_num, by rw [HS.out]; simp, hx6⟩
              case measure => simp [intOf] <;> omega
            · obtain rfl : j = L.length := by omega
              go_wp2
              go_ret
              exact ⟨rfl, (hx.trans hx0).trans hxr⟩
        | cons f0 F =>
          simp only [nextV]
          go_wp2_with fail
          refine (unhide hrf).mono ?_
          rintro e w4 ⟨v4, rfl, hown4, hx4⟩
          obtain ⟨A4, c4, rfl, _⟩ := own_shape hown4
          obtain ⟨b4, e4, f4a, f4b⟩ := rowP_own hown4 0 (by simp)
          cases e4
          simp only [List.getElem_cons_zero, Nat.zero_mul, Nat.zero_add] at f4a f4b
          replace hM := hx4.block hM
          replace hrow := hrow.ext hx4
          replace hat := hat.ext hx4
          have hlp : (0 : Int) < ((f0 :: F).length : Int) := by simp
          have hlp2 : 0 < (f0 :: F).length := by simp
          clear hrf hown4
          generalize (f0 :: F).length = nF at *
          go_wp2
          have hx0 : Ext w3 w4 := hx4
          go_loopw [13, 82] (fun s i wr => ∃ j : Nat, j ≤ L.length ∧ i = .int .i64 j ∧ s = .int .u64 (atN L j : Int) ∧ Ext w4 wr) (fun _ i _ => L.length - (intOf i).toNat)
          case atStart => exact ⟨0, Nat.zero_le _, rfl, rfl, Ext.refl _⟩
          case round =>
            obtain ⟨j, hj, rfl, rfl, hxr⟩ := hrel
            by_cases hjl : j < L.length
            · obtain ⟨b, rfl, p0, p1⟩ := hrow.ext hxr j hjl
              have hf2 := atN_from HU.out.1 HU.out.2 hjl
              have hst : atN L (j + 1) = (L[j].k + 1) % 2 ^ 64 := by simp [atN, hjl]
              have hdr : L.drop j = L[j] :: L.drop (j + 1) := List.drop_eq_getElem_cons hjl
              rw [hdr] at hf2
              have hm := (cell_ptr (hxr.block hM)).1
              have hk := HU.out.2 _ (List.getElem_mem hjl)
              have hnx := hide (fun W (h : AtO W p t) => next_calls p t (atN L j) W h hwf)
              rw [from_okO hwf] at hnx
              rw [HL.out] at hnx
              rw [hf2] at hnx
              generalize L[j] = x at *
              have hw : IntKind.u64.wrap ((x.k : Int) + 1) = (((x.k + 1) % 2 ^ 64 : Nat) : Int) := by
                simp [IntKind.wrap, IntKind.signed, IntKind.bits]
              have HS := Lib.hid hst
              have hxa : Ext wr (wr.alloc (.cells #[.int .u64 (x.k : Int), .int .i64 x.v] 37)) := (Ext.refl _).alloc _
              have hmM := (Array.getElem?_eq_some_iff.1 (hxr.block hM)).1
              have h5 := unhide hnx _ (hat.ext (hxr.trans hxa))
              have H5 := hide h5
              clear hst hf2 hdr hnx h5
              go_wp2_with fail
              refine (unhide H5).mono ?_
              rintro e w5 ⟨rfl, hx5⟩
              have q0 : w5.cell? ⟨wr.heap.size, 0, none⟩ = some (.int .u64 (x.k : Int)) := hx5.cell (by simp)
              have q1 : w5.cell? ⟨wr.heap.size, 1, none⟩ = some (.int .i64 x.v) := hx5.cell (by simp)
              have hx6 := hxr.trans (hxa.trans hx5)
              clear hx5 hxa hm
              simp only [nextV]
              go_wp2
              go_roundw
              case rel => exact ⟨j + 1, by omega, by go_num, by rw [HS.out]; simp, hx6⟩
              case measure => simp [intOf] <;> omega
            · obtain rfl : j = L.length := by omega
              go_wp2
              go_ret
              exact ⟨rfl, (hx.trans hx0).trans hxr⟩
end Go.Proofs.Ytcdjhoejnjbgkaa
