/- The contracts of the document's Drop and Forget. -/
import Derived.Test.YtgcplndmhlideaaGreatRput
namespace Go.Proofs.YtgcplndmhlideaaGreat
open Go.RowKit

theorem dropS_take {L : List Sl} {k : Nat} (h : k < L.length) (v n : Int) : dropS (L.take (k + 1)) v n = dropS (L.take k) v n ++ (if isN v n L[k] then [] else [L[k]]) := by
  unfold dropS
  rw [List.take_succ_eq_append_getElem h, List.filter_append]
  cases hq : isN v n L[k] <;> simp [hq]
theorem forgS_take {L : List Sl} {k : Nat} (h : k < L.length) (v : Int) : forgS (L.take (k + 1)) v = forgS (L.take k) v ++ (if L[k].v = v then [] else [L[k]]) := by
  unfold forgS
  rw [List.take_succ_eq_append_getElem h, List.filter_append]
  by_cases hq : L[k].v = v <;> simp [hq]
theorem dropS_len (L : List Sl) (v n : Int) : (dropS L v n).length ≤ L.length := List.length_filter_le _ _
theorem forgS_len (L : List Sl) (v : Int) : (forgS L v).length ≤ L.length := List.length_filter_le _ _
theorem dropS_lt {L : List Sl} {v n : Int} : decide ((dropS L v n).length < L.length) = (getS L v n).isSome := by
  rw [Bool.eq_iff_iff, decide_eq_true_eq]
  constructor
  · intro h
    cases hg : getS L v n with
    | some s => rfl
    | none =>
      have e : dropS L v n = L := List.filter_eq_self.2 fun s hs => by
        have := getS_none.1 hg s hs
        cases hq : isN v n s with
        | false => rfl
        | true => exact absurd (isN_iff.1 hq) this
      rw [e] at h; omega
  · intro h
    obtain ⟨s, hs⟩ := Option.isSome_iff_exists.1 h
    obtain ⟨a, b, c⟩ := getS_some hs
    unfold dropS
    refine Nat.lt_of_le_of_ne (List.length_filter_le _ _) fun e => ?_
    have := List.length_filter_eq_length_iff.1 e s a
    rw [isN_iff.2 ⟨b, c⟩] at this
    cases this

theorem forg_bound {L : List Sl} (h : ∀ s ∈ L, 0 ≤ s.b ∧ s.b ≤ 1048576) (k : Nat) (v : Int) (hk : k ≤ L.length) : 0 ≤ sumS ((L.take k).filter fun s => decide (s.v = v)) ∧ sumS ((L.take k).filter fun s => decide (s.v = v)) ≤ k * 1048576 := by
  induction k with
  | zero => simp [sumS]
  | succ k ih =>
    have := ih (by omega)
    have hb := h L[k] (List.getElem_mem _)
    rw [List.take_succ_eq_append_getElem (by omega), List.filter_append, sumS_append]
    by_cases hq : L[k].v = v <;> simp [hq, sumS] at this ⊢ <;> omega
set_option maxHeartbeats 2000000 in
set_option maxRecDepth 100000 in
theorem rdrop_calls (u c : Int) (A : Option Addr) (cp N : Nat) (L : List Sl) (v n : Int) (w : World) (h : RowS w N (.slice A L.length cp) L) (hN : N ≤ w.heap.size) (hl : L.length ≤ 1000) :
    Calls Tryz.prog 24 #[.agg #[.int .i64 u, .int .i64 c, .slice A L.length cp], .agg #[.int .i64 v, .int .i64 n]] w (RPost w N u c (dropS L v n) (.bool (getS L v n).isSome)) := by
  have hx0 : Ext w (((w.alloc (.cells #[.int .i64 u, .int .i64 c, .slice A L.length cp] 27)).alloc (.cells #[.int .i64 v, .int .i64 n] 58)).alloc (.cells #[.int .i64 0, .int .i64 0, .slice none 0 0] 27)) := (((Ext.refl w).alloc _).alloc _).alloc _
  have bm : (((w.alloc (.cells #[.int .i64 u, .int .i64 c, .slice A L.length cp] 27)).alloc (.cells #[.int .i64 v, .int .i64 n] 58)).alloc (.cells #[.int .i64 0, .int .i64 0, .slice none 0 0] 27)).heap[w.heap.size]? = some (.cells #[.int .i64 u, .int .i64 c, .slice A L.length cp] 27 (0, 0)) := (((Ext.refl _).alloc _).alloc _).block (heap_alloc_new w _)
  have bn : (((w.alloc (.cells #[.int .i64 u, .int .i64 c, .slice A L.length cp] 27)).alloc (.cells #[.int .i64 v, .int .i64 n] 58)).alloc (.cells #[.int .i64 0, .int .i64 0, .slice none 0 0] 27)).heap[w.heap.size + 1]? = some (.cells #[.int .i64 v, .int .i64 n] 58 (0, 0)) := ((Ext.refl _).alloc _).block (heap_new1 w _ _)
  have bz : (((w.alloc (.cells #[.int .i64 u, .int .i64 c, .slice A L.length cp] 27)).alloc (.cells #[.int .i64 v, .int .i64 n] 58)).alloc (.cells #[.int .i64 0, .int .i64 0, .slice none 0 0] 27)).heap[w.heap.size + 1 + 1]? = some (.cells #[.int .i64 0, .int .i64 0, .slice none 0 0] 27 (0, 0)) := by
    have := heap_new1 (w.alloc (.cells #[.int .i64 u, .int .i64 c, .slice A L.length cp] 27)) (.cells #[.int .i64 v, .int .i64 n] 58) (.cells #[.int .i64 0, .int .i64 0, .slice none 0 0] 27)
    simpa using this
  have m2 := cell_blk bm 2 rfl
  have hr := h.ext hx0
  obtain ⟨_, hrow⟩ := hr.at_
  have HBM := Lib.hid bm
  have HBZ := Lib.hid bz
  have HBN := Lib.hid bn
  clear h hr bm bz bn
  go_enter Tryz.func24, Tryz.ntmps24
  go_upto_region 2 with (fail)
  generalize (((w.alloc (.cells #[.int .i64 u, .int .i64 c, .slice A L.length cp] 27)).alloc (.cells #[.int .i64 v, .int .i64 n] 58)).alloc (.cells #[.int .i64 0, .int .i64 0, .slice none 0 0] 27)) = W at *
  go_wp2
  go_loopw [6, 13] (fun lv i wr => ∃ k : Nat, k ≤ L.length ∧ i = .int .i64 k ∧ RowS wr W.heap.size lv (dropS (L.take k) v n) ∧ Ext W wr) (fun _ i _ => L.length - (intOf i).toNat)
  case atStart => exact ⟨0, Nat.zero_le _, rfl, RowS.nil _ _, Ext.refl _⟩
  case round =>
    obtain ⟨k, hk, rfl, hown, hx⟩ := hrel
    by_cases hlt : k < L.length
    · obtain ⟨b, rfl, p0, p1, p2, p3⟩ := hrow k hlt
      replace p0 := hx.cell p0
      replace p1 := hx.cell p1
      replace p2 := hx.cell p2
      replace p3 := hx.cell p3
      have hstep := dropS_take hlt v n
      have hll : (dropS (L.take k) v n).length ≤ 1000 := Nat.le_trans (dropS_len _ _ _) (by simp; omega)
      obtain ⟨s, hs⟩ : ∃ s, L[k] = s := ⟨_, rfl⟩
      rw [hs] at p0 p1 p2 p3 hstep
      obtain ⟨sv, sn, sb, sc⟩ := s
      dsimp only at p0 p1 p2 p3 hstep
      obtain ⟨M, hM⟩ : ∃ M, (dropS (L.take k) v n) = M := ⟨_, rfl⟩
      rw [hM] at hown hstep hll
      have HS := Lib.hid hstep
      have hsz := hx0.size
      have hsz2 := hx.size
      have hxa : Ext wr (wr.alloc (.cells #[.int .i64 sv, .int .i64 sn, .int .i64 sb, .int .i64 sc] 84)) := (Ext.refl wr).alloc _
      have hown1 := hown.ext hxa
      obtain ⟨A3, c3, rfl, _⟩ := own_shape hown
      have HXA := Lib.hid (hx.trans hxa)
      have hq := fun w => neqName sv sn v n w
      have hg := guardName
      have nb1 := hxa.block (hx.block HBN.out)
      have m0 := cell_blk nb1 0 rfl
      have m1 := cell_blk nb1 1 rfl
      have his : isN v n ⟨sv, sn, sb, sc⟩ = (sv == v && sn == n) := by
        rw [Bool.eq_iff_iff, isN_iff]; simp
      rw [his] at HS
      clear hs hstep hrow hM nb1 his hown hx hxa
      cases hb : (sv == v && sn == n)
      · rw [hb] at hq
        have HM : Hid (dropS (L.take (k + 1)) v n = M ++ [⟨sv, sn, sb, sc⟩]) := Lib.hid (by rw [HS.out, hb]; rfl)
        clear HS hb
        have hown2 : (wr.alloc (.cells #[.int .i64 sv, .int .i64 sn, .int .i64 sb, .int .i64 sc] 84)).ownsRow W.heap.size 84 4 (.slice A3 M.length c3) M.length (slsV M) := hown1
        clear hown1
        go_wp2_with (at_builtin; refine wpList_append_new _ rfl _ _ 25 rfl W.heap.size 84 _ 4 32 Tryz.underlying25 infoSl rfl (by omega) _ M.length (slsV M) rfl hown2 1 1 (wr.heap.size + 1) (by simp) _ (by rfl) (by rfl) (by simp [Value.oneCell']) (by simp [maxLen]; omega) (by omega) HXA.out.size ?_; intro v1 w3 hown3 hm3)
        have hx4 := ext_moved HXA.out hown2 hm3
        go_roundw
        case rel =>
          refine ⟨k + 1, by omega, by go_num, ?_, hx4⟩
          rw [HM.out]
          unfold RowS
          rw [slsV_append, slsV_one, List.length_append]
          exact hown3
        case measure => simp [intOf] <;> omega
      · rw [hb] at hq
        have HM : Hid (dropS (L.take (k + 1)) v n = M) := Lib.hid (by rw [HS.out, hb]; simp)
        clear HS hb
        go_wp2
        go_roundw
        case rel => exact ⟨k + 1, by omega, by go_num, by rw [HM.out]; exact hown1, HXA.out⟩
        case measure => simp [intOf] <;> omega
    · obtain rfl : k = L.length := by omega
      rw [List.take_length] at hown
      obtain ⟨A3, c3, rfl, _⟩ := own_shape hown
      have bm := hx.block HBM.out
      have bz := hx.block HBZ.out
      have m2 := cell_blk bm 2 rfl
      have y2 := frozen_blk bm 2
      have hlt2 := dropS_lt (L := L) (v := v) (n := n)
      have hli : decide (((dropS L v n).length : Int) < (L.length : Int)) = decide ((dropS L v n).length < L.length) := by rw [Bool.eq_iff_iff]; simp
      rw [hlt2] at hli
      obtain ⟨R, hR⟩ : ∃ R, (getS L v n).isSome = R := ⟨_, rfl⟩
      rw [hR] at hli ⊢
      have HRR := Lib.hid hR
      clear hlt2 hR
      obtain ⟨D, hD⟩ : ∃ D, (dropS L v n) = D := ⟨_, rfl⟩
      rw [hD] at hown hli ⊢
      have HDD := Lib.hid hD
      clear hD hrow
      obtain ⟨n9, hn9⟩ : ∃ n9, D.length = n9 := ⟨_, rfl⟩
      rw [hn9] at hown hli ⊢
      have hli2 : decide (n9 < L.length) = R := by rw [← hli, Bool.eq_iff_iff]; simp
      have HXW := hx0.trans hx
      go_upto_region 10 with (fail)
      have bm9 := heap_setCell_same wr w.heap.size 2 _ _ (.slice A3 n9 c3) bm
      have bz9 := (Below.heap_setCell wr ⟨w.heap.size, 2, none⟩ (.slice A3 n9 c3) (w.heap.size + 1 + 1) (by show w.heap.size + 1 + 1 ≠ w.heap.size; omega)).trans bz
      have HRW := Lib.hid (hown.set bm (by decide) 2 (.slice A3 n9 c3))
      have HXX := Lib.hid (HXW.setCell (p := ⟨w.heap.size, 2, none⟩) (Nat.le_refl _) (.slice A3 n9 c3))
      clear bm bz m2 y2 hown hx HXW
      have hsz := hx0.size
      clear hx0
      generalize wr.setCell ⟨w.heap.size, 2, none⟩ (.slice A3 n9 c3) = w10 at *
      replace bm9 : w10.heap[w.heap.size]? = some (.cells #[.int .i64 u, .int .i64 c, .slice A3 n9 c3] 27 (0, 0)) := bm9
      have m0 := cell_blk bm9 0 rfl
      have m1 := cell_blk bm9 1 rfl
      have m2 := cell_blk bm9 2 rfl
      have z0 := cell_blk bz9 0 rfl
      have z1 := cell_blk bz9 1 rfl
      have z2 := cell_blk bz9 2 rfl
      have y0 := frozen_blk bz9 0
      have y1 := frozen_blk bz9 1
      have y2 := frozen_blk bz9 2
      have hf3 := set3_cells bz9 (.int .i64 u) (.int .i64 c) (.slice A3 n9 c3)
      have HRF := Lib.hid (HRW.out.set3 bz9 (by decide) (.int .i64 u) (.int .i64 c) (.slice A3 n9 c3))
      have HXF := Lib.hid (HXX.out.set3 (b := w.heap.size + 1 + 1) (by omega) (.int .i64 u) (.int .i64 c) (.slice A3 n9 c3))
      clear bm9 bz9 HRW HXX
      go_wp2
      have k0 := cell_blk hf3 0 rfl
      have k1 := cell_blk hf3 1 rfl
      have k2 := cell_blk hf3 2 rfl
      refine bodyPost_ret (v := .tuple #[.agg #[.int .i64 u, .int .i64 c, .slice A3 n9 c3], .bool R]) (by simp [results, Tryz.results24, go_sem, k0, k1, k2, hli2]) rfl ?_
      exact ⟨_, by rw [HRR.out], by rw [HDD.out]; exact HRF.out.less (by omega), HXF.out⟩
set_option maxHeartbeats 2000000 in
set_option maxRecDepth 100000 in
theorem rforg_calls (u c : Int) (A : Option Addr) (cp N : Nat) (L : List Sl) (v : Int) (w : World) (h : RowS w N (.slice A L.length cp) L) (hN : N ≤ w.heap.size) (hl : L.length ≤ 1000) (hb : ∀ s ∈ L, 0 ≤ s.b ∧ s.b ≤ 1048576) :
    Calls Tryz.prog 25 #[.agg #[.int .i64 u, .int .i64 c, .slice A L.length cp], .int .i64 v] w (RPost w N u c (forgS L v) (.int .i64 (sumS (L.filter fun s => decide (s.v = v))))) := by
  have hx0 : Ext w ((w.alloc (.cells #[.int .i64 u, .int .i64 c, .slice A L.length cp] 27)).alloc (.cells #[.int .i64 0, .int .i64 0, .slice none 0 0] 27)) := ((Ext.refl w).alloc _).alloc _
  have bm : ((w.alloc (.cells #[.int .i64 u, .int .i64 c, .slice A L.length cp] 27)).alloc (.cells #[.int .i64 0, .int .i64 0, .slice none 0 0] 27)).heap[w.heap.size]? = some (.cells #[.int .i64 u, .int .i64 c, .slice A L.length cp] 27 (0, 0)) := ((Ext.refl _).alloc _).block (heap_alloc_new w _)
  have bz : ((w.alloc (.cells #[.int .i64 u, .int .i64 c, .slice A L.length cp] 27)).alloc (.cells #[.int .i64 0, .int .i64 0, .slice none 0 0] 27)).heap[w.heap.size + 1]? = some (.cells #[.int .i64 0, .int .i64 0, .slice none 0 0] 27 (0, 0)) := by
    have := heap_new1 w (.cells #[.int .i64 u, .int .i64 c, .slice A L.length cp] 27) (.cells #[.int .i64 0, .int .i64 0, .slice none 0 0] 27)
    simpa using this
  have m2 := cell_blk bm 2 rfl
  have hr := h.ext hx0
  obtain ⟨_, hrow⟩ := hr.at_
  have HBM := Lib.hid bm
  have HBZ := Lib.hid bz
  have HBB := Lib.hid hb
  clear h hr bm bz hb
  go_enter Tryz.func25, Tryz.ntmps25
  go_upto_region 3 with (fail)
  generalize ((w.alloc (.cells #[.int .i64 u, .int .i64 c, .slice A L.length cp] 27)).alloc (.cells #[.int .i64 0, .int .i64 0, .slice none 0 0] 27)) = W at *
  go_wp2
  go_loopw [6, 7, 13] (fun lv s i wr => ∃ k : Nat, k ≤ L.length ∧ i = .int .i64 k ∧ s = .int .i64 (sumS ((L.take k).filter fun s => decide (s.v = v))) ∧ RowS wr W.heap.size lv (forgS (L.take k) v) ∧ Ext W wr) (fun _ _ i _ => L.length - (intOf i).toNat)
  case atStart => exact ⟨0, Nat.zero_le _, rfl, rfl, RowS.nil _ _, Ext.refl _⟩
  case round =>
    obtain ⟨k, hk, rfl, rfl, hown, hx⟩ := hrel
    by_cases hlt : k < L.length
    · obtain ⟨b, rfl, p0, p1, p2, p3⟩ := hrow k hlt
      replace p0 := hx.cell p0
      replace p1 := hx.cell p1
      replace p2 := hx.cell p2
      replace p3 := hx.cell p3
      have hstep := forgS_take hlt v
      have hll : (forgS (L.take k) v).length ≤ 1000 := Nat.le_trans (forgS_len _ _) (by simp; omega)
      have hsb := forg_bound HBB.out k v hk
      have hsb2 := forg_bound HBB.out (k + 1) v (by omega)
      have hss : sumS ((L.take (k + 1)).filter fun s => decide (s.v = v)) = sumS ((L.take k).filter fun s => decide (s.v = v)) + (if L[k].v = v then L[k].b else 0) := by
        rw [List.take_succ_eq_append_getElem hlt, List.filter_append, sumS_append]
        by_cases hq : L[k].v = v <;> simp [hq, sumS]
      obtain ⟨S, hS⟩ : ∃ S, sumS ((L.take k).filter fun s => decide (s.v = v)) = S := ⟨_, rfl⟩
      obtain ⟨S', hS'⟩ : ∃ S', sumS ((L.take (k + 1)).filter fun s => decide (s.v = v)) = S' := ⟨_, rfl⟩
      rw [hS] at hsb hss
      rw [hS'] at hsb2 hss
      rw [hS]
      have HSS := Lib.hid hS'
      clear hS hS'
      obtain ⟨s, hs⟩ : ∃ s, L[k] = s := ⟨_, rfl⟩
      rw [hs] at p0 p1 p2 p3 hstep hss
      obtain ⟨sv, sn, sb, sc⟩ := s
      dsimp only at p0 p1 p2 p3 hstep hss
      obtain ⟨M, hM⟩ : ∃ M, (forgS (L.take k) v) = M := ⟨_, rfl⟩
      rw [hM] at hown hstep hll
      have HS := Lib.hid hstep
      have hsz := hx0.size
      have hsz2 := hx.size
      have hxa : Ext wr (wr.alloc (.cells #[.int .i64 sv, .int .i64 sn, .int .i64 sb, .int .i64 sc] 84)) := (Ext.refl wr).alloc _
      have hown1 := hown.ext hxa
      obtain ⟨A3, c3, rfl, _⟩ := own_shape hown
      have HXA := Lib.hid (hx.trans hxa)
      clear hs hstep hrow hM hown hx hxa
      by_cases hb : sv = v
      · have HM : Hid (forgS (L.take (k + 1)) v = M) := Lib.hid (by rw [HS.out, if_pos hb]; simp)
        rw [if_pos hb] at hss
        have hw : IntKind.i64.wrap (S + sb) = S' := by rw [IntWalk.i64_in _ (by omega)]; exact hss.symm
        subst hb
        clear HS hss hsb hsb2
        go_wp2
        go_roundw
        case rel => exact ⟨k + 1, by omega, by go_num, by rw [HSS.out], by rw [HM.out]; exact hown1, HXA.out⟩
        case measure => simp [intOf] <;> omega
      · have HM : Hid (forgS (L.take (k + 1)) v = M ++ [⟨sv, sn, sb, sc⟩]) := Lib.hid (by rw [HS.out, if_neg hb])
        rw [if_neg hb] at hss
        have hss' : S' = S := by omega
        subst hss'
        clear HS hss hsb hsb2
        have hown2 : (wr.alloc (.cells #[.int .i64 sv, .int .i64 sn, .int .i64 sb, .int .i64 sc] 84)).ownsRow W.heap.size 84 4 (.slice A3 M.length c3) M.length (slsV M) := hown1
        clear hown1
        go_wp2_with (at_builtin; refine wpList_append_new _ rfl _ _ 25 rfl W.heap.size 84 _ 4 32 Tryz.underlying25 infoSl rfl (by omega) _ M.length (slsV M) rfl hown2 1 1 (wr.heap.size + 1) (by simp) _ (by rfl) (by rfl) (by simp [Value.oneCell']) (by simp [maxLen]; omega) (by omega) HXA.out.size ?_; intro v1 w3 hown3 hm3)
        have hx4 := ext_moved HXA.out hown2 hm3
        go_roundw
        case rel =>
          refine ⟨k + 1, by omega, by go_num, by rw [HSS.out], ?_, hx4⟩
          rw [HM.out]
          unfold RowS
          rw [slsV_append, slsV_one, List.length_append]
          exact hown3
        case measure => simp [intOf] <;> omega
    · obtain rfl : k = L.length := by omega
      rw [List.take_length] at hown
      obtain ⟨A3, c3, rfl, _⟩ := own_shape hown
      have bm := hx.block HBM.out
      have bz := hx.block HBZ.out
      have m2 := cell_blk bm 2 rfl
      have y2 := frozen_blk bm 2
      rw [List.take_length]
      obtain ⟨R, hR⟩ : ∃ R, sumS (L.filter fun s => decide (s.v = v)) = R := ⟨_, rfl⟩
      rw [hR]
      have HRR := Lib.hid hR
      clear hR
      obtain ⟨D, hD⟩ : ∃ D, (forgS L v) = D := ⟨_, rfl⟩
      rw [hD] at hown ⊢
      have HDD := Lib.hid hD
      clear hD hrow
      obtain ⟨n9, hn9⟩ : ∃ n9, D.length = n9 := ⟨_, rfl⟩
      rw [hn9] at hown ⊢
      have HXW := hx0.trans hx
      go_upto_region 11 with (fail)
      have bm9 := heap_setCell_same wr w.heap.size 2 _ _ (.slice A3 n9 c3) bm
      have bz9 := (Below.heap_setCell wr ⟨w.heap.size, 2, none⟩ (.slice A3 n9 c3) (w.heap.size + 1) (by show w.heap.size + 1 ≠ w.heap.size; omega)).trans bz
      have HRW := Lib.hid (hown.set bm (by decide) 2 (.slice A3 n9 c3))
      have HXX := Lib.hid (HXW.setCell (p := ⟨w.heap.size, 2, none⟩) (Nat.le_refl _) (.slice A3 n9 c3))
      clear bm bz m2 y2 hown hx HXW
      have hsz := hx0.size
      clear hx0
      generalize wr.setCell ⟨w.heap.size, 2, none⟩ (.slice A3 n9 c3) = w10 at *
      replace bm9 : w10.heap[w.heap.size]? = some (.cells #[.int .i64 u, .int .i64 c, .slice A3 n9 c3] 27 (0, 0)) := bm9
      have m0 := cell_blk bm9 0 rfl
      have m1 := cell_blk bm9 1 rfl
      have m2 := cell_blk bm9 2 rfl
      have z0 := cell_blk bz9 0 rfl
      have z1 := cell_blk bz9 1 rfl
      have z2 := cell_blk bz9 2 rfl
      have y0 := frozen_blk bz9 0
      have y1 := frozen_blk bz9 1
      have y2 := frozen_blk bz9 2
      have hf3 := set3_cells bz9 (.int .i64 u) (.int .i64 c) (.slice A3 n9 c3)
      have HRF := Lib.hid (HRW.out.set3 bz9 (by decide) (.int .i64 u) (.int .i64 c) (.slice A3 n9 c3))
      have HXF := Lib.hid (HXX.out.set3 (b := w.heap.size + 1) (by omega) (.int .i64 u) (.int .i64 c) (.slice A3 n9 c3))
      clear bm9 bz9 HRW HXX
      go_wp2
      have k0 := cell_blk hf3 0 rfl
      have k1 := cell_blk hf3 1 rfl
      have k2 := cell_blk hf3 2 rfl
      refine bodyPost_ret (v := .tuple #[.agg #[.int .i64 u, .int .i64 c, .slice A3 n9 c3], .int .i64 R]) (by simp [results, Tryz.results25, go_sem, k0, k1, k2]) rfl ?_
      exact ⟨_, by rw [HRR.out], by rw [HDD.out]; exact HRF.out.less (by omega), HXF.out⟩
end Go.Proofs.YtgcplndmhlideaaGreat
