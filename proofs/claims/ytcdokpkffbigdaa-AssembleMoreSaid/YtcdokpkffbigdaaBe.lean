/- What a body needs; the reference's At, Left, Need. -/
import Derived.Test.YtcdokpkffbigdaaBd
namespace Go.Proofs.Ytcdokpkffbigdaa
open Go.RowKit

theorem need_snoc (L : List Pt) (k : Nat) (h : k < L.length) : needS (L.take (k + 1)) = needS (L.take k) ++ if L[k].s == [] then [⟨L[k].f, L[k].t⟩] else [] := by
  rw [List.take_succ_eq_append_getElem h]
  unfold needS
  rw [List.filter_append, List.map_append]
  by_cases hg : L[k].s = [] <;> simp [hg]
theorem need_length (L : List Pt) : (needS L).length ≤ L.length := by
  unfold needS
  rw [List.length_map]
  exact List.length_filter_le _ _

set_option maxHeartbeats 2000000 in
set_option maxRecDepth 100000 in
theorem need_calls (lo hi pb : Nat) (L : List Pt) (n : Int) (w : World) (h : BodyAt lo hi w pb L n) (hl : L.length ≤ 1000) :
    Calls Try.prog 31 #[.pointer (some ⟨pb, 0, none⟩)] w (SetPost w (ofS (needS L))) := by
  have hx0 : Ext w (w.alloc (.cells #[.slice none 0 0] 34)) := (Ext.refl w).alloc _
  obtain ⟨A, c, h1, _, _, _, hL⟩ := h.ext hx0
  have c1 : (w.alloc (.cells #[.slice none 0 0] 34)).cell? ⟨pb, 0, none⟩ = some (.slice A L.length c) := by rw [cell_of_row _ _ _ _ _ _ h1]; rfl
  have HL := Lib.hid hL.pat
  have hpw : pb < w.heap.size := by obtain ⟨_, _, h1, _⟩ := h; exact (Array.getElem?_eq_some_iff.1 h1).1
  clear hL h1
  go_enter Try.func31, Try.ntmps31
  have c0 : (w.alloc (.cells #[.slice none 0 0] 34)).cell? ⟨w.heap.size, 0, none⟩ = some (.slice none 0 0) := by simp
  have f0 : (w.alloc (.cells #[.slice none 0 0] 34)).frozen? ⟨w.heap.size, 0, none⟩ = false := by simp [go_sem]
  have z0 : w.heap.size < (w.alloc (.cells #[.slice none 0 0] 34)).heap.size := by simp
  go_wp2
  generalize (w.alloc (.cells #[.slice none 0 0] 34)) = w1 at *
  clear c1
  go_loopw [14, 3] (fun i v wr => ∃ k : Nat, k ≤ L.length ∧ i = .int .i64 k ∧ wr.ownsRow w1.heap.size 37 2 v (needS (L.take k)).length (spans (needS (L.take k))) ∧ Ext w1 wr) (fun i _ _ => L.length - (intOf i).toNat)
  case atStart => exact ⟨0, Nat.zero_le _, rfl, World.ownsRow_nil _ _ _ _, Ext.refl w1⟩
  case round =>
    obtain ⟨k, hk, rfl, hown, hx⟩ := hrel
    by_cases hlt : k < L.length
    · obtain ⟨b, o, rfl, p0, p1, p2⟩ := HL.out.ext hx k hlt
      have hts := need_snoc L k hlt
      have hlen := need_length (L.take k)
      rw [List.length_take] at hlen
      generalize L[k] = p at *
      rcases p with ⟨s, f, t⟩
      simp only at p0 p1 p2
      generalize needS (L.take k) = N at *
      have HT := Lib.hid hts
      clear hts
      obtain ⟨V, cv, rfl, _⟩ := own_shape hown
      cases e1 : (s == [])
      · rw [e1] at HT
        go_wp2
        go_roundw
        case rel => exact ⟨k + 1, hlt, by go_num, by rw [HT.out]; simpa using ownsRow_ext hown ((Ext.refl _).alloc _), hx.alloc _⟩
        case measure => simp [intOf]; omega
      · rw [e1] at HT
        have hx2 := hx.alloc (.cells #[.string ⟨s.toArray⟩, .int .i64 f, .int .i64 t] 40)
        have hown1 := ownsRow_ext hown ((Ext.refl wr).alloc (.cells #[.string ⟨s.toArray⟩, .int .i64 f, .int .i64 t] 40))
        have hb2 := hx2.size
        go_wp2_with (at_builtin; refine wpList_append_new _ rfl _ _ 32 rfl w1.heap.size 37 _ 2 16 Try.underlying32 infoSpan rfl (by omega) _ _ _ rfl hown1 1 1 _ (by simp) _ rfl rfl (by simp [Value.oneCell']) (by simp [maxLen]; omega) (by omega) hb2 ?_; intro v3 w3 hown2 hm)
        have hx4 := ext_moved hx2 hown1 hm
        go_roundw
        case rel => exact ⟨k + 1, hlt, by go_num, by rw [HT.out, if_pos rfl, spans_append, spans_one, List.length_append]; exact hown2, hx4⟩
        case measure => simp [intOf]; omega
    · obtain rfl : k = L.length := by omega
      rw [List.take_length] at hown
      obtain ⟨V, cv, rfl, _⟩ := own_shape hown
      have hlen := need_length L
      have hSA := sat_of_own hown
      have k0 := hx.cell c0
      have z1 := Nat.lt_of_lt_of_le z0 hx.size
      have kf := (hx.frozen (p := ⟨w.heap.size, 0, none⟩) (by simpa using z0)).trans f0
      have hx3 := hx0.trans hx
      have HO := Lib.hid (of_calls V cv (needS L) wr hSA (by omega))
      clear hown hSA
      generalize ofS (needS L) = R at *
      generalize (needS L).length = nn at *
      go_wp2_with fail
      refine HO.out.mono ?_
      rintro e w2 ⟨A5, c5, rfl, hR, hN, hx5⟩
      have k3 := hx5.cell k0
      have kg : w2.frozen? ⟨w.heap.size, 0, none⟩ = false := (hx5.frozen (by exact z1)).trans kf
      have z2 := Nat.lt_of_lt_of_le z1 hx5.size
      clear k0 kf HO
      go_wp2
      refine bodyPost_ret (v := .agg #[.slice A5 R.length c5]) (by simp [results, Try.results31, go_sem, k3]) rfl ⟨A5, c5, rfl, Lib.hid ?_, Lib.hid ?_, ?_⟩
      · refine fun k hk => ?_
        obtain ⟨b, o, e1, p0, p1⟩ := hR.out k hk
        have hb := hN.out b o e1
        have := hx3.size
        have hne : b ≠ w.heap.size := by omega
        exact ⟨b, o, e1, (World.cell?_setCell_other _ _ _ _ (fun e2 => hne (congrArg Addr.block e2).symm)).trans p0, (World.cell?_setCell_other _ _ _ _ (fun e2 => hne (congrArg Addr.block e2).symm)).trans p1⟩
      · exact fun b o e => Nat.le_trans hx3.size (hN.out b o e)
      · exact (hx3.trans hx5).setCell (Nat.le_refl _) _

set_option maxHeartbeats 2000000 in
set_option maxRecDepth 100000 in
theorem rneed_calls (A : Option Addr) (c : Nat) (L : List Pt) (n : Int) (w : World) (h : PAt w A L) (hl : L.length ≤ 1000) :
    Calls Try.prog 46 #[.agg #[.slice A L.length c, .int .i64 n]] w (SPost w (ofS (needS L))) := by
  have hx0 : Ext w (w.alloc (.cells #[.slice A L.length c, .int .i64 n] 51)) := (Ext.refl w).alloc _
  have HL := Lib.hid (h.ext hx0)
  clear h
  go_enter Try.func46, Try.ntmps46
  go_wp2
  generalize (w.alloc (.cells #[.slice A L.length c, .int .i64 n] 51)) = w1 at *
  go_loopw [9, 3] (fun i v wr => ∃ k : Nat, k ≤ L.length ∧ i = .int .i64 k ∧ wr.ownsRow w1.heap.size 37 2 v (needS (L.take k)).length (spans (needS (L.take k))) ∧ Ext w1 wr) (fun i _ _ => L.length - (intOf i).toNat)
  case atStart => exact ⟨0, Nat.zero_le _, rfl, World.ownsRow_nil _ _ _ _, Ext.refl w1⟩
  case round =>
    obtain ⟨k, hk, rfl, hown, hx⟩ := hrel
    by_cases hlt : k < L.length
    · obtain ⟨b, o, rfl, p0, p1, p2⟩ := HL.out.ext hx k hlt
      have hts := need_snoc L k hlt
      have hlen := need_length (L.take k)
      rw [List.length_take] at hlen
      generalize L[k] = p at *
      rcases p with ⟨s, f, t⟩
      simp only at p0 p1 p2
      generalize needS (L.take k) = N at *
      have HT := Lib.hid hts
      clear hts
      obtain ⟨V, cv, rfl, _⟩ := own_shape hown
      cases e1 : (s == [])
      · rw [e1] at HT
        go_wp2
        go_roundw
        case rel => exact ⟨k + 1, hlt, by go_num, by rw [HT.out]; simpa using ownsRow_ext hown ((Ext.refl _).alloc _), hx.alloc _⟩
        case measure => simp [intOf]; omega
      · rw [e1] at HT
        have hx2 := hx.alloc (.cells #[.string ⟨s.toArray⟩, .int .i64 f, .int .i64 t] 40)
        have hown1 := ownsRow_ext hown ((Ext.refl wr).alloc (.cells #[.string ⟨s.toArray⟩, .int .i64 f, .int .i64 t] 40))
        have hb2 := hx2.size
        go_wp2_with (at_builtin; refine wpList_append_new _ rfl _ _ 32 rfl w1.heap.size 37 _ 2 16 Try.underlying32 infoSpan rfl (by omega) _ _ _ rfl hown1 1 1 _ (by simp) _ rfl rfl (by simp [Value.oneCell']) (by simp [maxLen]; omega) (by omega) hb2 ?_; intro v3 w3 hown2 hm)
        have hx4 := ext_moved hx2 hown1 hm
        go_roundw
        case rel => exact ⟨k + 1, hlt, by go_num, by rw [HT.out, if_pos rfl, spans_append, spans_one, List.length_append]; exact hown2, hx4⟩
        case measure => simp [intOf]; omega
    · obtain rfl : k = L.length := by omega
      rw [List.take_length] at hown
      obtain ⟨V, cv, rfl, _⟩ := own_shape hown
      have hlen := need_length L
      have hSA := sat_of_own hown
      have HO := Lib.hid (refOf_calls V cv (needS L) wr hSA (by omega))
      have hx3 := hx0.trans hx
      clear hown hSA
      generalize ofS (needS L) = R at *
      generalize (needS L).length = nn at *
      go_wp2_with fail
      refine HO.out.mono ?_
      rintro e w2 ⟨A5, c5, rfl, hR, hx5⟩
      go_wp2
      go_ret
      exact ⟨A5, c5, rfl, hR, hx3.trans hx5⟩

set_option maxHeartbeats 1000000 in
set_option maxRecDepth 100000 in
theorem rat_calls (A : Option Addr) (c : Nat) (L : List Pt) (n : Int) (w : World) (h : PAt w A L) (hl : L.length ≤ 1000000) : Calls Try.prog 44 #[.agg #[.slice A L.length c, .int .i64 n]] w fun e w' => e = .returned (.tuple #[.int .i64 (atS L).1, .bool (atS L).2]) ∧ Ext w w' := by
  have hx0 : Ext w (w.alloc (.cells #[.slice A L.length c, .int .i64 n] 51)) := (Ext.refl w).alloc _
  have HL := Lib.hid (h.ext hx0)
  clear h
  go_enter Try.func44, Try.ntmps44
  go_wp2
  generalize (w.alloc (.cells #[.slice A L.length c, .int .i64 n] 51)) = w1 at *
  go_loopw [9] (fun i wr => ∃ k : Nat, k ≤ L.length ∧ i = .int .i64 k ∧ atS L = atS (L.drop k) ∧ Ext w1 wr) (fun i _ => L.length - (intOf i).toNat)
  case atStart => exact ⟨0, Nat.zero_le _, rfl, rfl, Ext.refl _⟩
  case round =>
    obtain ⟨k, hk, rfl, hat, hx⟩ := hrel
    by_cases hlt : k < L.length
    · obtain ⟨b, o, rfl, p0, p1, p2⟩ := HL.out.ext hx k hlt
      have hd : L.drop k = L[k] :: L.drop (k + 1) := List.drop_eq_getElem_cons hlt
      rw [hd] at hat
      generalize L[k] = p at *
      rcases p with ⟨s, f, t⟩
      simp only at p0 p1 p2
      cases e1 : (s == [])
      · have hs : ¬ s = [] := by simpa using e1
        have HT : Hid (atS L = atS (L.drop (k + 1))) := Lib.hid (hat.trans (by simp [atS, hs]))
        clear hat hd hs
        go_wp2
        go_roundw
        case rel => exact ⟨k + 1, hlt, by go_num, HT.out, hx.alloc _⟩
        case measure => simp [intOf]; omega
      · have hs : s = [] := by simpa using e1
        have HT : Hid (atS L = (f, true)) := Lib.hid (hat.trans (by simp [atS, hs]))
        clear hat hd hs
        go_wp2
        go_ret2
        exact ⟨by rw [HT.out]; rfl, hx0.trans (hx.alloc _)⟩
    · obtain rfl : k = L.length := by omega
      have HT : Hid (atS L = (0, false)) := Lib.hid (hat.trans (by simp [atS]))
      clear hat
      go_wp2
      go_ret2
      exact ⟨by rw [HT.out]; rfl, hx0.trans hx⟩

set_option maxHeartbeats 2000000 in
set_option maxRecDepth 100000 in
theorem rleft_calls (A : Option Addr) (c : Nat) (L : List Pt) (n : Int) (w : World) (h : PAt w A L) (hok : LOk L) : Calls Try.prog 47 #[.agg #[.slice A L.length c, .int .i64 n]] w fun e w' => e = .returned (.int .i64 (leftS L)) ∧ Ext w w' := by
  have hx0 : Ext w (w.alloc (.cells #[.slice A L.length c, .int .i64 n] 51)) := (Ext.refl w).alloc _
  have HL := Lib.hid (h.ext hx0)
  have hlen := hok.len
  have HOK := Lib.hid hok
  clear h hok
  go_enter Try.func47, Try.ntmps47
  go_wp2
  generalize (w.alloc (.cells #[.slice A L.length c, .int .i64 n] 51)) = w1 at *
  go_loopw [9, 3] (fun i s wr => ∃ k : Nat, k ≤ L.length ∧ i = .int .i64 k ∧ s = .int .i64 (sumS (L.take k)) ∧ Hid (∀ p ∈ L.take k, p.open_ = false) ∧ Ext w1 wr) (fun i _ _ => L.length - (intOf i).toNat)
  case atStart => exact ⟨0, Nat.zero_le _, rfl, rfl, Lib.hid (by simp), Ext.refl _⟩
  case round =>
    obtain ⟨k, hk, rfl, rfl, ho, hx⟩ := hrel
    by_cases hlt : k < L.length
    · obtain ⟨b, o, rfl, p0, p1, p2⟩ := HL.out.ext hx k hlt
      have ht : L.take (k + 1) = L.take k ++ [L[k]] := List.take_succ_eq_append_getElem hlt
      have hmem := List.getElem_mem hlt
      have hS := sumS_take HOK.out k hk ho.out
      generalize L[k] = p at *
      have hz := fun h => HOK.out.size hmem (p := p) h
      have hsn := sumS_snoc (L.take k) p
      rw [← ht] at hsn
      have hopen : p.open_ = true → L.any Pt.open_ = true := fun h => List.any_eq_true.2 ⟨p, hmem, h⟩
      have hoo : p.open_ = false → ∀ q ∈ L.take (k + 1), q.open_ = false := fun h q hq => by
        rw [ht] at hq
        rcases List.mem_append.1 hq with hq | hq
        · exact ho.out q hq
        · rw [List.mem_singleton.1 hq]; exact h
      have HEA := Lib.hid (HOK.out.each p hmem)
      rcases p with ⟨s, f, t⟩
      simp only at p0 p1 p2
      have HOPEN := Lib.hid hopen
      have HOO := Lib.hid hoo
      have HSN := Lib.hid hsn
      have HZ := Lib.hid hz
      clear hopen hoo hsn hz ht hmem
      generalize sumS (L.take k) = sm at *
      cases e1 : (s == [])
      · have hs : ¬ s = [] := by simpa using e1
        have e2 : Pt.open_ ⟨s, f, t⟩ = false := by simp [Pt.open_, e1]
        have hz := HZ.out e2
        simp only [Pt.size, if_neg hs] at hz
        have HS := Lib.hid hs
        have HE2 := Lib.hid e2
        clear hs e2
        go_wp2
        go_roundw
        case rel => exact ⟨k + 1, hlt, by go_num, by rw [HSN.out]; simp only [Pt.size, if_neg HS.out], Lib.hid (HOO.out HE2.out), hx.alloc _⟩
        case measure => simp [intOf]; omega
      · have hs : s = [] := by simpa using e1
        have hE := HEA.out.2 hs
        simp only at hE
        cases e3 : decide (t = 4611686018427387904)
        · have e4 : ¬ t = 4611686018427387904 := by simpa using e3
          have e2 : Pt.open_ ⟨s, f, t⟩ = false := by simp [Pt.open_, e4]
          have hz := HZ.out e2
          simp only [Pt.size, if_pos hs] at hz
          have HS := Lib.hid hs
          have HE2 := Lib.hid e2
          have hr1 : sm + (t - f) = sm + t - f := by omega
          clear hs e2 e3
          go_wp2
          go_roundw
          case rel => exact ⟨k + 1, hlt, by go_num, by rw [HSN.out]; simp only [Pt.size, if_pos HS.out]; rw [hr1], Lib.hid (HOO.out HE2.out), hx.alloc _⟩
          case measure => simp [intOf]; omega
        · have e4 : t = 4611686018427387904 := by simpa using e3
          have e2 : Pt.open_ ⟨s, f, t⟩ = true := by simp [Pt.open_, e4, e1]
          have HA := Lib.hid (HOPEN.out e2)
          clear hs e2 e3 hE HZ HSN HOO HOPEN HEA
          go_wp2
          go_ret
          exact ⟨by unfold leftS; rw [if_pos HA.out]; rfl, hx0.trans (hx.alloc _)⟩
    · obtain rfl : k = L.length := by omega
      rw [List.take_length] at ho ⊢
      have hl : leftS L = sumS L := by
        unfold leftS
        rw [if_neg]
        intro h
        obtain ⟨p, hp, h⟩ := List.any_eq_true.1 h
        rw [ho.out p hp] at h
        cases h
      have HLS := Lib.hid hl
      clear hl
      generalize sumS L = sm at *
      go_wp2
      go_ret
      exact ⟨by rw [HLS.out]; rfl, hx0.trans hx⟩
end Go.Proofs.Ytcdokpkffbigdaa
