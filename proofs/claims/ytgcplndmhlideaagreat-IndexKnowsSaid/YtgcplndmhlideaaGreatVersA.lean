/- The contracts of the index's Versions, and of the document's. -/
import Derived.Test.YtgcplndmhlideaaGreatNosp
import Derived.Test.YtgcplndmhlideaaGreatWith
import Derived.Test.YtgcplndmhlideaaGreatRgRefCD
namespace Go.Proofs.YtgcplndmhlideaaGreat
open Go.RowKit
attribute [local go_sem] Oper.semAt_some

/-- The versions, as the document puts them together. -/
def versS (L : List Sl) : List Int := L.foldl (fun l s => withL l s.v) []
theorem vers_foldl (L : List Sl) (l : List Int) (h : UpI l) : UpI (L.foldl (fun l s => withL l s.v) l) ∧ ∀ m, m ∈ L.foldl (fun l s => withL l s.v) l ↔ m ∈ l ∨ ∃ s ∈ L, s.v = m := by
  induction L generalizing l with
  | nil => exact ⟨h, fun m => by simp⟩
  | cons s L ih =>
    simp only [List.foldl_cons]
    obtain ⟨a, b⟩ := ih _ (withL_up (n := s.v) h)
    refine ⟨a, fun m => ?_⟩
    rw [b, withL_mem h]
    constructor
    · rintro ((rfl | h) | ⟨t, ht, e⟩)
      · exact .inr ⟨s, List.mem_cons_self .., rfl⟩
      · exact .inl h
      · exact .inr ⟨t, List.mem_cons_of_mem _ ht, e⟩
    · rintro (h | ⟨t, ht, e⟩)
      · exact .inl (.inr h)
      · rcases List.mem_cons.1 ht with rfl | ht
        · exact .inl (.inl e.symm)
        · exact .inr ⟨t, ht, e⟩
theorem versS_snoc (L : List Sl) (s : Sl) : versS (L ++ [s]) = withL (versS L) s.v := by
  unfold versS
  rw [List.foldl_append]; rfl
theorem versS_len (L : List Sl) (k : Nat) (hk : k ≤ L.length) : (versS (L.take k)).length ≤ k := by
  induction k with
  | zero => simp [versS]
  | succ k ih =>
    have := ih (by omega)
    rw [List.take_succ_eq_append_getElem (by omega), versS_snoc]
    have h2 := withL_len (versS (L.take k)) L[k].v
    omega
/-- What the map of versions has for keys is what the document puts together. -/
theorem vers_keys {w : World} {u : Int} {x : Ix} {p : Option Addr} {lv : List (Pr Mp)} (hf : Fit u x) (hm : MpAt w p lv) (hv : Vers w lv x.L) : lv.map (fun e => (e.k : Int)) = versS x.L := by
  obtain ⟨a, b⟩ := vers_foldl x.L [] List.Pairwise.nil
  refine upI_ext ?_ a fun m => ?_
  · exact List.pairwise_map.2 (hm.up.imp fun h => by omega)
  · rw [show versS x.L = x.L.foldl (fun l s => withL l s.v) [] from rfl, b, List.mem_map]
    constructor
    · rintro ⟨e, he, rfl⟩
      obtain ⟨i, hi⟩ := List.exists_mem_of_ne_nil _ (hv.ne e he)
      obtain ⟨s, hs, h1, _⟩ := (mem_items hf.ok.dis hf.ok.n0 e.k i).1 hi
      exact .inr ⟨s, hs, h1⟩
    · rintro (h | ⟨s, hs, h1⟩)
      · cases h
      · obtain ⟨e, he, h2⟩ := hv.all s hs
        exact ⟨e, he, by omega⟩
def noM (e : Pr Mp) : Value := .int .i64 (IntKind.i64.wrap (e.k : Int))
theorem vers_vals {w : World} {u : Int} {x : Ix} {p : Option Addr} {lv : List (Pr Mp)} (hf : Fit u x) (hm : MpAt w p lv) (hv : Vers w lv x.L) : lv.map noM = ints (versS x.L) := by
  rw [← vers_keys hf hm hv]
  unfold ints
  rw [List.map_map]
  refine List.map_congr_left fun e he => ?_
  obtain ⟨i, hi⟩ := List.exists_mem_of_ne_nil _ (hv.ne e he)
  obtain ⟨s, hs, h1, _⟩ := (mem_items hf.ok.dis hf.ok.n0 e.k i).1 hi
  have := (hf.ok.ok s hs).2.1
  show Value.int .i64 (IntKind.i64.wrap (e.k : Int)) = .int .i64 (e.k : Int)
  rw [IntWalk.i64_in _ (by omega)]

set_option maxRecDepth 100000 in
set_option maxHeartbeats 2000000 in
theorem xvers_calls (xb : Nat) (u : Int) (x : Ix) (w : World) (h : IxAt w xb u x) (hf : Fit u x) :
    Calls Tryz.prog 7 #[.pointer (some ⟨xb, 0, none⟩)] w (NPost w (versS x.L)) := by
  obtain ⟨i0, hi, hz0, hz1, hz2⟩ := info_parts infoI
  obtain ⟨p, q, lv, hb, hmp, -, hvs⟩ := h
  have hkeys := vers_vals hf hmp hvs
  have hkl := congrArg List.length (vers_keys hf hmp hvs)
  rw [List.length_map] at hkl
  have hvl := versS_len x.L x.L.length (Nat.le_refl _)
  rw [List.take_length] at hvl
  have hlen : lv.length ≤ 1000 := by have := hf.len; omega
  obtain ⟨t, hp, hwf, hol⟩ := hmp
  have hfrom : Mp.fromO 0 t = lv := by
    rw [← hol]
    cases t with
    | none => rfl
    | some t =>
      show t.from 0 = _
      rw [from_ok hwf]
      exact List.filter_eq_self.2 fun e _ => by simp
  have HF := Lib.hid (And.intro hfrom hlen)
  have HK := Lib.hid (And.intro hkeys hkl)
  generalize versS x.L = VS at *
  have q0 := cell_blk hb 1 rfl
  have HP := Lib.hid hp
  have hxs : xb < w.heap.size := (Array.getElem?_eq_some_iff.1 hb).1
  clear hb hlen hfrom hol hp hf hvs hkeys hkl hvl
  refine (callsIn_wide (n := 5)).1 ?_
  refine callsIn_of_wp_marks Tryz.func7 rfl trivial ?_ rfl
  simp only [Tryz.ntmps7, List.size_toArray, List.length_cons, List.length_nil, Nat.reduceAdd, Nat.reduceSub, Array.replicate_succ, Array.replicate_zero, List.push_toArray, List.append_toArray, List.nil_append, List.cons_append]
  refine wpIn_wide.2 ?_
  have q1 : (w.alloc (.cells #[.slice none 0 0] 31)).cell? ⟨xb, 1, none⟩ = some (.pointer p) := ((Ext.refl w).alloc _).cell q0
  have HFF : Hid (∀ W, Calls Tryz.prog 26 #[.agg #[.pointer p]] W (Mp.FromPost W p 0)) := Lib.hid fun W => Mp.all_calls p W
  go_upto_region 4 with (fail)
  go_wp2_with fail
  refine (HFF.out _).mono ?_
  rintro e w1 ⟨_, rfl, ⟨bm, bk, rfl, hbm, hbk⟩, hx1⟩
  have bO := (show Boxed _ _ _ _ from hx1.block (Boxed.new w 31 (.slice none 0 0)))
  have hx0 : Ext w (w.alloc (.cells #[.slice none 0 0] 31)) := (Ext.refl w).alloc _
  have hB0 : Below w.heap.size w w1 := hx0.trans hx1
  have hs1 := hx1.size
  simp only [World.size_alloc] at hs1
  clear HFF
  go_wp2_with fail
  refine (wpIn_wide (n := 5)).1 ?_
  refine wpIn_rangeFunc_ownH rfl (by omega) (gf := 63) (lb := #[.pointer (some ⟨bm, 0, none⟩), .pointer (some ⟨bk, 0, none⟩)]) rfl trivial (enters_of Tryz.func63 (by kernel_rfl) rfl)
    (Mp.from_stops 0 w t p HP.out hwf bm bk _ w1 hB0 hbm hbk) belowK_t (belowK_b (by omega)) (Below.refl _ _) (fun _ => rfl)
    (fun pre W => (∃ v, Boxed W w.heap.size 31 v ∧ W.ownsRow w.heap.size 2 1 v pre.length (pre.map noM) ∧ True) ∧ Below w.heap.size w W)
    (fun _ _ _ => False)
    (OwnFrom.and (Own.from (holdsRow_own w.heap.size w.heap.size 31 2 1 (fun pre : List (Pr Mp) => pre.length) (fun pre => pre.map noM) (fun _ _ => True)) _) (ownFrom_below (Nat.le_refl _) (by omega)))
    (fun _ _ _ _ _ hs _ _ => hs)
    ⟨⟨_, bO, World.ownsRow_nil _ _ _ _, trivial⟩, hB0⟩
    (fun x a' W => a' = { tmps := #[.pointer (some ⟨xb, 0, none⟩), undef, .slice none 0 0, .pointer (some ⟨w.heap.size, 0, none⟩), .int .u64 (x.k : Int), .pointer (some ⟨xb, 0, none⟩), .bool false, .pointer (some ⟨xb, 0, none⟩), .pointer (some ⟨xb, 0, none⟩), .pointer (some ⟨xb, 1, none⟩), .agg #[.pointer p], .func (.func 63) #[] #[.pointer (some ⟨bm, 0, none⟩), .pointer (some ⟨bk, 0, none⟩)], .int .u64 (x.k : Int), .agg #[.pointer x.v], undef, undef, undef, undef, undef, undef], defers := [] })
    (fun x a' _ X Y row hs hg hr => hs)
    ?assign ?body ?done ?stop
  case assign =>
    rintro l pre x W K' hI hK
    gi_wp2
    exact hK _ _ (KeepsFrom.refl _ _) (Below.refl _ _) hI rfl
  case body =>
    rintro l pre x a' W hl _ ⟨⟨v, hv, hrow, _⟩, hB⟩ rfl hlt
    have hc := hv.cell
    have hlt2 : pre.length < 1000 := by have := HF.out; rw [this.1] at hlt; omega
    have e1 : (pre ++ [x]).map noM = pre.map noM ++ [.int .i64 (IntKind.i64.wrap (x.k : Int))] := by simp [noM]
    have HE := Lib.hid e1
    obtain ⟨z, hz⟩ : ∃ z, IntKind.i64.wrap (x.k : Int) = z := ⟨_, rfl⟩
    rw [hz] at HE
    clear hs1 bO hx1 hx0 hB0 hbm hbk hwf q0 q1 hlt e1
    gi_wp2_with (gi_at_builtin; refine wpListIn_append_own _ rfl _ _ 31 rfl w.heap.size 2 i0 (.int .i64 0) 1 8 Tryz.underlying31 hi hz0 hz1 hz2 rfl (by decide) _ _ _ rfl (hrow.alloc _) ⟨W.heap.size, 0, none⟩ 1 1 [.int .i64 z] rfl rfl (news1 _ _ _) (by simp [Value.oneCell']) (by unfold maxLen; omega) (by omega) (by have := hB.size; simp; omega) ?_; intro v' w1 hown' hgrow _; obtain ⟨g', cap', rfl⟩ := ownsRow_succ hown'; obtain ⟨hv1, hv2, hr2, hk2, hb2⟩ := hv.appended (by decide) hrow hB.size (by omega) hown' hgrow; have hc1 := hv1.cell; have hf1 := hv1.frozen)
    exact ⟨hk2.from _, hb2, ⟨_, hv2, by rw [HE.out]; simpa using hr2, trivial⟩, hB.trans hb2⟩
  case done =>
    rintro D ys W hD rfl ⟨⟨v, hv, hrow, _⟩, hB⟩ hK
    have hc := hv.cell
    rw [HF.out.1] at hrow
    rw [HK.out.1, HK.out.2] at hrow
    obtain ⟨A, c, rfl, hcc⟩ := own_shape hrow
    have HCC := Lib.hid hcc
    clear bO hx1 hx0 hB0 hbm hbk hwf q0 q1 hcc
    go_wp2
    refine ⟨by simp, .inl ⟨_, _, rfl, run_takeDeferred hK, ?_⟩⟩
    exact ⟨_, results_tmp rfl _ _ _, A, c, rfl, iat_of_own (ownsRow_putObj hrow _ hK rfl), HCC.out, hB.trans (belowK_b (w := w) (Nat.le_refl _) W D _ _ (by omega) hK rfl rfl)⟩
  case stop =>
    rintro D c pre W _ _ h _
    exact h.elim
end Go.Proofs.YtgcplndmhlideaaGreat

namespace Go.Proofs.YtgcplndmhlideaaGreat
open Go.RowKit

theorem own_less {w : World} {N N' : Nat} {e : TypeId} {size n : Nat} {v : Value} {xs : List Value} (h : w.ownsRow N e size v n xs) (hn : N' ≤ N) : w.ownsRow N' e size v n xs := by
  refine ⟨h.1, ?_⟩
  rcases h.2 with h2 | ⟨g, cap, cur, hv, hg, r⟩
  · exact .inl h2
  · exact .inr ⟨g, cap, cur, hv, by omega, r⟩
/-- A list of numbers of one's own. -/
def OwnPost (N : Nat) (w : World) (l : List Int) (e : Ending) (w' : World) : Prop := ∃ v, e = .returned v ∧ w'.ownsRow N 2 1 v l.length (ints l) ∧ Ext w w'

set_option maxHeartbeats 2000000 in
set_option maxRecDepth 100000 in
theorem with_own (N : Nat) (A : Option Addr) (c : Nat) (l : List Int) (n : Int) (w : World) (ho : w.ownsRow N 2 1 (.slice A l.length c) l.length (ints l)) (hN : N ≤ w.heap.size) (hl : l.length ≤ 1000) (hlc : l.length ≤ c) :
    Calls Tryz.prog 27 #[.slice A l.length c, .int .i64 n] w (OwnPost N w (withL l n)) := by
  have HO := Lib.hid ho
  have HNN := Lib.hid hN
  have HA := Lib.hid (iat_of_own ho)
  have HL := Lib.hid (And.intro hl hlc)
  clear ho hN hl hlc
  go_enter Tryz.func27, Tryz.ntmps27
  go_wp2
  go_loop [5] (fun i => ∃ k : Nat, k ≤ l.length ∧ i = .int .i64 k ∧ ∀ j (hj : j < l.length), j < k → l[j] < n) (fun i => l.length - (intOf i).toNat)
  case atStart => exact ⟨0, Nat.zero_le _, rfl, fun j hj h => absurd h (by omega)⟩
  case round =>
    obtain ⟨k, hk, rfl, hlow⟩ := hrel
    have HLO := Lib.hid hlow
    clear hlow
    by_cases hlt : k < l.length
    · obtain ⟨b, o, rfl, p0⟩ := HA.out k hlt
      obtain ⟨m, hm⟩ : ∃ m, l[k] = m := ⟨_, rfl⟩
      rw [hm] at p0
      have HM := Lib.hid hm
      clear hm
      by_cases hmn : m < n
      · have hl := HL.out.1
        go_wp2
        go_round
        case rel => exact ⟨k + 1, by omega, by go_num, fun j hj hjk => by
          rcases Nat.lt_or_ge j k with h1 | h1
          · exact HLO.out j hj h1
          · obtain rfl : j = k := by omega
            rw [HM.out]; exact hmn⟩
        case measure => simp [intOf]; omega
      · have hin : inN l n = k := inN_of hk HLO.out fun hj => by rw [HM.out]; exact hmn
        have HI := Lib.hid hin
        clear hin
        by_cases he : m = n
        · subst he
          have hw : withL l m = l := by
            unfold withL
            rw [HI.out, if_pos]
            rw [List.getElem?_eq_getElem hlt, HM.out]
          have HW := Lib.hid hw
          clear hw
          go_wp2
          go_ret
          exact ⟨_, rfl, by rw [HW.out]; exact HO.out, Ext.refl w⟩
        · have he2 : (m == n) = false := beq_eq_false_iff_ne.2 he
          have hw : withL l n = l.take k ++ n :: l.drop k := by
            unfold withL
            rw [HI.out, if_neg]
            rw [List.getElem?_eq_getElem hlt, HM.out]
            exact fun e => he (by cases e; rfl)
          have HW := Lib.hid hw
          clear hw he
          have hck : ¬ c = k := by have := HL.out.2; omega
          go_upto_region 6 with (fail)
          have hl := HL.out.1
          have hlc := HL.out.2
          have hx0 : Ext w (w.alloc (.cells #[] 2)) := (Ext.refl w).alloc _
          have hs0 := hx0.size
          have hown0 : (w.alloc (.cells #[] 2)).ownsRow w.heap.size 2 1 (.slice (some ⟨w.heap.size, 0, none⟩) 0 0) 0 [] := ⟨rfl, .inr ⟨w.heap.size, 0, #[], rfl, Nat.le_refl _, heap_alloc_new w _, Nat.le_refl _, by simp, rfl, rfl⟩⟩
          have hR1 := ((HA.out.take (k)).ext hx0).reads
          rw [List.length_take, Nat.min_eq_left (by omega)] at hR1
          have HR3 := Lib.hid (fun (W : World) (hW : Ext w W) => (HA.out.ext hW).reads.cut (k := k) (cap := c) (by omega) hlc)
          go_upto_region 7 with (at_builtin; go_loud (refine wpList_append_src _ rfl _ _ 31 rfl w.heap.size 2 _ 1 8 Tryz.underlying31 infoI rfl (by omega) _ 0 [] rfl hown0 _ _ _ _ _ rfl hR1 (ints_plain _) (by simp [maxLen]; omega) (by omega) (by omega) ?_); intro v1 w2 hown2 hm1; have hx2 := ext_moved hx0 hown0 hm1; rw [Nat.zero_add, List.nil_append] at hown2; obtain ⟨A1, c1, rfl, -⟩ := own_shape hown2)
          have hx3 := hx2.alloc (.cells #[.int .i64 n] 2)
          have hs3 := hx3.size
          have hown3 := hown2.alloc (.cells #[.int .i64 n] 2)
          have hR2 : Reads (w2.alloc (.cells #[.int .i64 n] 2)) (w2.heap.size + 1) 1 (some ⟨w2.heap.size, 0, none⟩) 1 [.int .i64 n] := ⟨rfl, fun _ => ⟨_, rfl, by show w2.heap.size < _; omega, news1 _ _ _⟩⟩
          clear hR1 hown0 hm1 hown2
          go_upto_region 8 with (at_builtin; go_loud (refine wpList_append_src _ rfl _ _ 31 rfl w.heap.size 2 _ 1 8 Tryz.underlying31 infoI rfl (by omega) _ (k) (ints (l.take (k))) rfl hown3 _ _ _ _ _ rfl hR2 (by simp [Value.oneCell']) (by simp [maxLen]; omega) (by omega) (by omega) ?_); intro v2 w4 hown4 hm2; have hx4 := ext_moved hx3 hown3 hm2; obtain ⟨A2, c2, rfl, -⟩ := own_shape hown4)
          have hs4 := hx4.size
          have hR3 := HR3.out w4 hx4
          rw [Nat.mul_one] at hR3
          rw [show (ints l).drop (k) = ints (l.drop (k)) by simp [ints]] at hR3
          have hlen : (withL l n).length = k + 1 + (l.length - k) := by rw [HW.out]; simp <;> omega
          have HLEN := Lib.hid hlen
          clear hlen
          rw [if_neg hck] at hR3
          simp only [Option.map_some, add_plain] at hR3
          go_wp2_with (at_builtin; go_loud (refine wpList_append_src _ rfl _ _ 31 rfl w.heap.size 2 _ 1 8 Tryz.underlying31 infoI rfl (by omega) _ (k + 1) (ints (l.take (k)) ++ ([.int .i64 n] : List Value)) rfl hown4 _ _ _ _ _ rfl hR3 (ints_plain _) (by simp [maxLen]; omega) (by omega) (by omega) ?_); intro v3 w5 hown5 hm3; have hx5 := ext_moved hx4 hown4 hm3; obtain ⟨A3, c3, rfl, hc3⟩ := own_shape hown5)
          go_ret
          rw [← HLEN.out] at hown5
          exact ⟨_, by rw [← HLEN.out], own_less (by rw [HLEN.out] at hown5 ⊢; rw [HW.out]; simpa [ints, List.append_assoc] using hown5) HNN.out, hx5⟩
    · obtain rfl : k = l.length := by omega
      have hin : inN l n = l.length := inN_of (Nat.le_refl _) HLO.out fun hj => absurd hj (by omega)
      have hw : withL l n = l.take l.length ++ n :: l.drop l.length := by
        unfold withL
        rw [hin, if_neg (by simp)]
      have HW := Lib.hid hw
      clear hw hin
      go_upto_region 6 with (fail)
      have hl := HL.out.1
      have hlc := HL.out.2
      have hx0 : Ext w (w.alloc (.cells #[] 2)) := (Ext.refl w).alloc _
      have hs0 := hx0.size
      have hown0 : (w.alloc (.cells #[] 2)).ownsRow w.heap.size 2 1 (.slice (some ⟨w.heap.size, 0, none⟩) 0 0) 0 [] := ⟨rfl, .inr ⟨w.heap.size, 0, #[], rfl, Nat.le_refl _, heap_alloc_new w _, Nat.le_refl _, by simp, rfl, rfl⟩⟩
      have hR1 := ((HA.out.take (l.length)).ext hx0).reads
      rw [List.length_take, Nat.min_eq_left (by omega)] at hR1
      have HR3 := Lib.hid (fun (W : World) (hW : Ext w W) => (HA.out.ext hW).reads.cut (k := l.length) (cap := c) (by omega) hlc)
      go_upto_region 7 with (at_builtin; go_loud (refine wpList_append_src _ rfl _ _ 31 rfl w.heap.size 2 _ 1 8 Tryz.underlying31 infoI rfl (by omega) _ 0 [] rfl hown0 _ _ _ _ _ rfl hR1 (ints_plain _) (by simp [maxLen]; omega) (by omega) (by omega) ?_); intro v1 w2 hown2 hm1; have hx2 := ext_moved hx0 hown0 hm1; rw [Nat.zero_add, List.nil_append] at hown2; obtain ⟨A1, c1, rfl, -⟩ := own_shape hown2)
      have hx3 := hx2.alloc (.cells #[.int .i64 n] 2)
      have hs3 := hx3.size
      have hown3 := hown2.alloc (.cells #[.int .i64 n] 2)
      have hR2 : Reads (w2.alloc (.cells #[.int .i64 n] 2)) (w2.heap.size + 1) 1 (some ⟨w2.heap.size, 0, none⟩) 1 [.int .i64 n] := ⟨rfl, fun _ => ⟨_, rfl, by show w2.heap.size < _; omega, news1 _ _ _⟩⟩
      clear hR1 hown0 hm1 hown2
      go_upto_region 8 with (at_builtin; go_loud (refine wpList_append_src _ rfl _ _ 31 rfl w.heap.size 2 _ 1 8 Tryz.underlying31 infoI rfl (by omega) _ (l.length) (ints (l.take (l.length))) rfl hown3 _ _ _ _ _ rfl hR2 (by simp [Value.oneCell']) (by simp [maxLen]; omega) (by omega) (by omega) ?_); intro v2 w4 hown4 hm2; have hx4 := ext_moved hx3 hown3 hm2; obtain ⟨A2, c2, rfl, -⟩ := own_shape hown4)
      have hs4 := hx4.size
      have hR3 := HR3.out w4 hx4
      rw [Nat.mul_one] at hR3
      rw [show (ints l).drop (l.length) = ints (l.drop (l.length)) by simp [ints]] at hR3
      have hlen : (withL l n).length = l.length + 1 + (l.length - l.length) := by rw [HW.out]; simp <;> omega
      have HLEN := Lib.hid hlen
      clear hlen
      clear hR3
      have hRN : ∀ A', Reads w4 w4.heap.size 1 A' 0 [] := fun A' => ⟨rfl, fun h => absurd h (by omega)⟩
      have hdr : ints (l.take l.length) ++ [.int .i64 n] ++ [] = ints (withL l n) := by rw [HW.out]; simp [ints]
      by_cases hck : c = l.length
      · go_wp2_with (at_builtin; go_loud (refine wpList_append_src _ rfl _ _ 31 rfl w.heap.size 2 _ 1 8 Tryz.underlying31 infoI rfl (by omega) _ (l.length + 1) (ints (l.take (l.length)) ++ ([.int .i64 n] : List Value)) rfl hown4 _ _ _ _ _ rfl (hRN _) (by simp) (by simp [maxLen]; omega) (by omega) (by omega) ?_); intro v3 w5 hown5 hm3; have hx5 := ext_moved hx4 hown4 hm3; obtain ⟨A3, c3, rfl, hc3⟩ := own_shape hown5)
        go_ret
        exact ⟨_, rfl, by rw [hdr] at hown5; rw [show (withL l n).length = l.length + 1 by rw [HLEN.out]; simp]; exact own_less hown5 HNN.out, hx5⟩
      · go_wp2_with (at_builtin; go_loud (refine wpList_append_src _ rfl _ _ 31 rfl w.heap.size 2 _ 1 8 Tryz.underlying31 infoI rfl (by omega) _ (l.length + 1) (ints (l.take (l.length)) ++ ([.int .i64 n] : List Value)) rfl hown4 _ _ _ _ _ rfl (hRN _) (by simp) (by simp [maxLen]; omega) (by omega) (by omega) ?_); intro v3 w5 hown5 hm3; have hx5 := ext_moved hx4 hown4 hm3; obtain ⟨A3, c3, rfl, hc3⟩ := own_shape hown5)
        go_ret
        exact ⟨_, rfl, by rw [hdr] at hown5; rw [show (withL l n).length = l.length + 1 by rw [HLEN.out]; simp]; exact own_less hown5 HNN.out, hx5⟩
end Go.Proofs.YtgcplndmhlideaaGreat

namespace Go.Proofs.YtgcplndmhlideaaGreat
open Go.RowKit

set_option maxHeartbeats 1000000 in
set_option maxRecDepth 100000 in
theorem rvers_calls (u c : Int) (A : Option Addr) (cp N : Nat) (L : List Sl) (w : World) (h : RowS w N (.slice A L.length cp) L) (hl : L.length ≤ 1000) :
    Calls Tryz.prog 8 #[.agg #[.int .i64 u, .int .i64 c, .slice A L.length cp]] w (OwnPost w.heap.size w (versS L)) := by
  have hx0 : Ext w (w.alloc (.cells #[.int .i64 u, .int .i64 c, .slice A L.length cp] 27)) := (Ext.refl w).alloc _
  obtain ⟨_, hrow⟩ := h.at_
  clear h
  go_enter Tryz.func8, Tryz.ntmps8
  go_wp2
  go_loopw [3, 9] (fun s i wr => ∃ k : Nat, k ≤ L.length ∧ i = .int .i64 k ∧ wr.ownsRow w.heap.size 2 1 s (versS (L.take k)).length (ints (versS (L.take k))) ∧ Ext w wr) (fun _ i _ => L.length - (intOf i).toNat)
  case atStart => exact ⟨0, Nat.zero_le _, rfl, World.ownsRow_nil _ _ _ _, hx0⟩
  case round =>
    obtain ⟨k, hk, rfl, hown, hx⟩ := hrel
    have hlen := versS_len L k hk
    by_cases hlt : k < L.length
    · obtain ⟨b, rfl, p0, p1, p2, p3⟩ := hrow k hlt
      have hx1 : Ext wr (wr.alloc (.cells #[.int .i64 L[k].v, .int .i64 L[k].n, .int .i64 L[k].b, .int .i64 L[k].c] 84)) := (Ext.refl wr).alloc _
      replace p0 : wr.cell? ⟨b, k * 4, none⟩ = some (.int .i64 L[k].v) := hx.cell p0
      replace p1 : wr.cell? ⟨b, k * 4 + 1, none⟩ = some (.int .i64 L[k].n) := hx.cell p1
      replace p2 : wr.cell? ⟨b, k * 4 + 2, none⟩ = some (.int .i64 L[k].b) := hx.cell p2
      replace p3 : wr.cell? ⟨b, k * 4 + 3, none⟩ = some (.int .i64 L[k].c) := hx.cell p3
      have e : versS (L.take (k + 1)) = withL (versS (L.take k)) L[k].v := by rw [List.take_succ_eq_append_getElem hlt, versS_snoc]
      generalize versS (L.take k) = l at *
      obtain ⟨A', c', rfl, hc⟩ := own_shape hown
      obtain ⟨s, hs⟩ : ∃ s, L[k] = s := ⟨_, rfl⟩
      rw [hs] at e hx1 p0 p1 p2 p3
      have HX := Lib.hid (hx.trans hx1)
      have HE := Lib.hid e
      have HW := Lib.hid (with_own w.heap.size A' c' l s.v _ (ownsRow_ext hown hx1) (hx.trans hx1).size (by omega) hc)
      clear hrow hown hc hs e
      go_wp2_with fail
      refine HW.out.mono ?_
      rintro e w2 ⟨v2, rfl, h1, h3⟩
      have HR := Lib.hid (And.intro h1 (HX.out.trans h3))
      clear h1 h3 p0 p1 p2 p3 hx1
      go_wp2
      go_roundw
      case rel => exact ⟨k + 1, by omega, by go_num, by rw [HE.out]; exact HR.out.1, HR.out.2⟩
      case measure => simp [intOf] <;> omega
    · obtain rfl : k = L.length := by omega
      rw [List.take_length] at *
      clear hrow
      go_wp2
      go_ret
      exact ⟨_, rfl, hown, hx⟩
end Go.Proofs.YtgcplndmhlideaaGreat

namespace Go.Proofs.YtgcplndmhlideaaGreat
open Go.RowKit

/-- A slice's bytes. -/
def spS (u : Int) (s : Sl) : Sp := ⟨s.n * u, s.n * u + s.b⟩
def spansS (L : List Sl) (u v : Int) : List Sp := (L.filter fun s => decide (s.v = v)).map (spS u)
theorem spansS_len (L : List Sl) (u v : Int) : (spansS L u v).length ≤ L.length := by
  unfold spansS
  rw [List.length_map]
  exact List.length_filter_le _ _
theorem spansS_snoc (L : List Sl) (s : Sl) (u v : Int) : spansS (L ++ [s]) u v = spansS L u v ++ (if s.v = v then [spS u s] else []) := by
  unfold spansS
  rw [List.filter_append, List.map_append]
  congr 1
  by_cases h : s.v = v <;> simp [h]
theorem sp_small {u : Int} {s : Sl} (h : SlOk u s) (hu0 : 1 ≤ u) (hu : u ≤ 1048576) : 0 ≤ s.n * u ∧ s.n * u ≤ 1152921504606846976 := by
  obtain ⟨_, _, h3, h4, _⟩ := h
  refine ⟨Int.mul_nonneg h3 (by omega), ?_⟩
  have := Int.mul_le_mul h4 hu (by omega) (by omega)
  omega
/-- Both sides' bytes are the same. -/
theorem has_eq {u : Int} {x : Ix} (hf : Fit u x) (v : Int) : ofS ((itemsOf x.L v).map (spW u)) = ofS (spansS x.L u v) := by
  refine norm_ext (norm_of _) (norm_of _) fun z => ?_
  rw [mem_of, mem_of]
  have key : ∀ (e : Pr It) (s : Sl), s ∈ x.L → s.n = e.k → e.v = ⟨s.b, s.c⟩ → spW u e = spS u s := fun e s hs h1 h2 => by
    have hok := hf.ok.ok s hs
    obtain ⟨a, b⟩ := sp_small hok hf.u0 hf.u1
    obtain ⟨_, _, h3, h4, h5, h6⟩ := hok
    have hu := hf.u1
    have e1 : spF u e = s.n * u := by
      unfold spF
      rw [← h1, IntWalk.i64_in s.n (by omega), IntWalk.i64_in _ (by omega)]
    unfold spW spS
    rw [e1, h2]
    show (⟨s.n * u, IntKind.i64.wrap (s.n * u + s.b)⟩ : Sp) = _
    rw [IntWalk.i64_in _ (by omega)]
  constructor
  · rintro ⟨q, hq, r⟩
    obtain ⟨e, he, rfl⟩ := List.mem_map.1 hq
    obtain ⟨s, hs, h0, h1, h2⟩ := (mem_items hf.ok.dis hf.ok.n0 v e).1 he
    rw [key e s hs h1 h2] at r
    exact ⟨spS u s, List.mem_map.2 ⟨s, List.mem_filter.2 ⟨hs, by simpa using h0⟩, rfl⟩, r⟩
  · rintro ⟨q, hq, r⟩
    obtain ⟨s, hs, rfl⟩ := List.mem_map.1 hq
    obtain ⟨hs, h0⟩ := List.mem_filter.1 hs
    have hn := hf.ok.n0 s hs
    have he : (⟨s.n.toNat, s.b, s.c⟩ : Pr It) ∈ itemsOf x.L v := (mem_items hf.ok.dis hf.ok.n0 v _).2 ⟨s, hs, by simpa using h0, by show s.n = ((s.n.toNat : Nat) : Int); omega, rfl⟩
    rw [← key ⟨s.n.toNat, s.b, s.c⟩ s hs (by show s.n = ((s.n.toNat : Nat) : Int); omega) rfl] at r
    exact ⟨_, List.mem_map.2 ⟨_, he, rfl⟩, r⟩
def HasPost (w : World) (l : List Sp) (e : Ending) (w' : World) : Prop := ∃ A c, e = .returned (.slice A l.length c) ∧ Hid (SAt w' A l) ∧ Ext w w'

set_option maxHeartbeats 2000000 in
set_option maxRecDepth 100000 in
theorem rhas_calls (u c : Int) (A : Option Addr) (cp N : Nat) (L : List Sl) (v : Int) (w : World) (h : RowS w N (.slice A L.length cp) L) (hl : L.length ≤ 1000) (hok : ∀ s ∈ L, SlOk u s) (hu0 : 1 ≤ u) (hu : u ≤ 1048576) :
    Calls Tryz.prog 14 #[.agg #[.int .i64 u, .int .i64 c, .slice A L.length cp], .int .i64 v] w (HasPost w (ofS (spansS L u v))) := by
  have hx0 : Ext w (w.alloc (.cells #[.int .i64 u, .int .i64 c, .slice A L.length cp] 27)) := (Ext.refl w).alloc _
  have hb0 := heap_alloc_new w (.cells #[.int .i64 u, .int .i64 c, .slice A L.length cp] 27)
  obtain ⟨_, hrow⟩ := h.at_
  have HOK := Lib.hid hok
  have HU := Lib.hid (And.intro hu0 hu)
  clear h hok hu0 hu
  go_enter Tryz.func14, Tryz.ntmps14
  go_wp2
  generalize hB : (w.alloc (.cells #[.int .i64 u, .int .i64 c, .slice A L.length cp] 27)) = B at *
  have u0 : B.cell? ⟨w.heap.size, 0, none⟩ = some (.int .i64 u) := cell_blk hb0 0 rfl
  clear hB hb0
  go_loopw [5, 11] (fun s i wr => ∃ k : Nat, k ≤ L.length ∧ i = .int .i64 k ∧ wr.ownsRow B.heap.size 53 2 s (spansS (L.take k) u v).length (spans (spansS (L.take k) u v)) ∧ Ext B wr) (fun _ i _ => L.length - (intOf i).toNat)
  case atStart => exact ⟨0, Nat.zero_le _, rfl, World.ownsRow_nil _ _ _ _, Ext.refl B⟩
  case round =>
    obtain ⟨k, hk, rfl, hown, hxb⟩ := hrel
    have hxw := hx0.trans hxb
    have hlen := spansS_len (L.take k) u v
    rw [List.length_take] at hlen
    by_cases hlt : k < L.length
    · obtain ⟨b, rfl, p0, p1, p2, p3⟩ := hrow k hlt
      have hx1 : Ext wr (wr.alloc (.cells #[.int .i64 L[k].v, .int .i64 L[k].n, .int .i64 L[k].b, .int .i64 L[k].c] 84)) := (Ext.refl wr).alloc _
      replace p0 : wr.cell? ⟨b, k * 4, none⟩ = some (.int .i64 L[k].v) := hxw.cell p0
      replace p1 : wr.cell? ⟨b, k * 4 + 1, none⟩ = some (.int .i64 L[k].n) := hxw.cell p1
      replace p2 : wr.cell? ⟨b, k * 4 + 2, none⟩ = some (.int .i64 L[k].b) := hxw.cell p2
      replace p3 : wr.cell? ⟨b, k * 4 + 3, none⟩ = some (.int .i64 L[k].c) := hxw.cell p3
      have e : spansS (L.take (k + 1)) u v = spansS (L.take k) u v ++ (if L[k].v = v then [spS u L[k]] else []) := by rw [List.take_succ_eq_append_getElem hlt, spansS_snoc]
      have hok := HOK.out L[k] (List.getElem_mem hlt)
      generalize spansS (L.take k) u v = M at *
      obtain ⟨s, hs⟩ : ∃ s, L[k] = s := ⟨_, rfl⟩
      rw [hs] at e hx1 p0 p1 p2 p3 hok
      have hown2 := ownsRow_ext hown hx1
      have HXB := Lib.hid (hxb.trans hx1)
      have hu1 := hx1.cell (hxb.cell u0)
      obtain ⟨s0, s1⟩ := sp_small hok HU.out.1 HU.out.2
      have hw1 : IntKind.i64.wrap (s.n * u) = s.n * u := IntWalk.i64_in _ (by omega)
      have hw2 : IntKind.i64.wrap (s.n * u + s.b) = s.n * u + s.b := IntWalk.i64_in _ (by obtain ⟨_, _, _, _, h5, h6⟩ := hok; have := HU.out.2; omega)
      have hsp : spS u s = ⟨s.n * u, s.n * u + s.b⟩ := rfl
      rw [hsp] at e
      obtain ⟨f0, hf0⟩ : ∃ z, s.n * u = z := ⟨_, rfl⟩
      rw [hf0] at hw2 e
      obtain ⟨f1, hf1⟩ : ∃ z, f0 + s.b = z := ⟨_, rfl⟩
      rw [hf1] at hw2 e
      rw [hf0] at hw1
      clear hrow hs hown hok s0 s1 hsp
      by_cases hv : s.v = v
      · have hvb : (s.v == v) = true := by simp [hv]
        rw [if_pos hv] at e
        have HE := Lib.hid e
        clear e hv
        go_wp2_with (at_builtin; refine wpList_append_new _ rfl _ _ 37 rfl B.heap.size 53 _ 2 16 Tryz.underlying37 infoSpan rfl (by omega) _ M.length (spans M) rfl hown2 1 1 (wr.heap.size + 1) (by simp) _ (by rfl) (by rfl) (by simp [Value.oneCell']) (by simp [maxLen]; omega) (by omega) HXB.out.size ?_; intro v1 w3 hown3 hm3)
        have hx3 := ext_moved HXB.out hown2 hm3
        go_roundw
        case rel => exact ⟨k + 1, by omega, by go_num, by rw [HE.out, spans_append, spans_one, List.length_append]; exact hown3, hx3⟩
        case measure => simp [intOf] <;> omega
      · have hvb : (s.v == v) = false := beq_eq_false_iff_ne.2 hv
        rw [if_neg hv, List.append_nil] at e
        have HE := Lib.hid e
        clear e hv
        go_wp2
        go_roundw
        case rel => exact ⟨k + 1, by omega, by go_num, by rw [HE.out]; exact hown2, HXB.out⟩
        case measure => simp [intOf] <;> omega
    · obtain rfl : k = L.length := by omega
      rw [List.take_length] at *
      obtain ⟨A2, c2, rfl, -⟩ := own_shape hown
      have HR := Lib.hid (Rg.refOf_calls A2 c2 (spansS L u v) wr (sat_of_own hown) (by omega))
      generalize spansS L u v = M at *
      clear hrow hown
      go_wp2_with fail
      refine HR.out.mono ?_
      rintro e w2 ⟨A3, c3, rfl, HS, hx2⟩
      go_wp2
      go_ret
      exact ⟨A3, c3, rfl, HS, hxw.trans hx2⟩
end Go.Proofs.YtgcplndmhlideaaGreat
