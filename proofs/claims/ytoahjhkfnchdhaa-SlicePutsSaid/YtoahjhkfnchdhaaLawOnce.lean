/- SliceOnce: the walk. -/
import Derived.Test.YtoahjhkfnchdhaaLawTurned
import Derived.Test.YtoahjhkfnchdhaaLawQ
namespace Go.Proofs.Ytoahjhkfnchdhaa
open Go.RowKit

theorem open_new {no : Int} (h0 : 0 ≤ no) (h1 : no ≤ 255) : spanOk no 8 (-1) = true := by
  have hc : cutE no 8 (-1) = no * 8 + 8 := by unfold cutE; rw [if_pos rfl]; omega
  unfold spanOk lengthB
  rw [hc]
  simp only [Bool.and_eq_true, decide_eq_true_eq]
  exact ⟨by decide, ⟨by omega, by omega⟩, h0, by omega, by omega⟩
theorem agrees_new (no u n : Int) (O : List UInt8) : (newB no u n).agrees O := by rintro z ⟨s, hs, _⟩; cases hs
theorem sum_bounds {B : Bf} (h : B.ok) : 0 ≤ sumS B.hs ∧ sumS B.hs ≤ 4611686018427387904 := by
  have := sumS_bound h.norm B.hs.length (Nat.le_refl _)
  rw [List.take_length] at this
  exact ⟨this.1, this.2.2.1⟩

theorem piece_reads {w : World} {A : Option Addr} {O : List UInt8} (h : BytesAt w A O) {a e c : Nat} (h1 : a ≤ e) (h2 : e ≤ O.length) (h3 : O.length ≤ c) :
    Reads w w.heap.size 1 (if c = a then A else A.map (fun x => x.add a)) (e - a) (bytesL ((O.drop a).take (e - a))) := by
  refine ⟨by rw [bytesL_length, Nat.mul_one, List.length_take, List.length_drop]; omega, fun h0 => ?_⟩
  obtain ⟨b, o, rfl, hp⟩ := h.at_ (by omega)
  rw [if_neg (by omega)]
  refine ⟨⟨b, o + a, none⟩, by rw [Option.map_some, add_plain], (show b < w.heap.size from block_of_cell (hp 0 (by omega))), fun j u hu => ?_⟩
  have hj : j < e - a := by
    have := (List.getElem?_eq_some_iff.1 hu).1
    rw [bytesL_length, List.length_take] at this
    omega
  have hq : a + j < O.length := by omega
  rw [add_plain, Nat.add_assoc]
  simp only [bytesL, List.getElem?_map, List.getElem?_take, hj, if_true, List.getElem?_drop, List.getElem?_eq_getElem hq, Option.map_some, Option.some.injEq] at hu
  rw [← hu]
  exact hp (a + j) hq

set_option maxHeartbeats 4000000 in
set_option maxRecDepth 100000 in
theorem lawOnce_calls (no : Int) (A : Option Addr) (c : Nat) (O : List UInt8) (A2 : Option Addr) (c2 : Nat) (C : List UInt8) (w : World) (hno : (Lit.int .u8 no).wf = true) (hO : BytesAt w A O ∧ O.length ≤ c) (hC : BytesAt w A2 C ∧ C.length ≤ c2) :
    Calls Try.prog 9 #[.int .u8 no, .slice A O.length c, .slice A2 C.length c2] w fun e w' => e = .returned (.bool true) ∧ Ext w w' := by
  obtain ⟨hb, hcap⟩ := hO
  obtain ⟨hc, _⟩ := hC
  obtain ⟨n0, n1⟩ := u8_wf hno
  clear hno
  by_cases hg : O.length ≤ 100 ∧ C.length ≤ 30
  · obtain ⟨g1, g2⟩ := hg
    have eO := open_new n0 n1
    have hnw := fun W => new_calls no 8 (-1) (by decide) W
    unfold NewPost at hnw
    simp only [eO, if_true] at hnw
    have hnB : ∀ W lo hi pb, BufAt lo hi W pb ⟨8, -1, no * 8, cutE no 8 (-1), List.replicate (cutE no 8 (-1) - no * 8).toNat 0, []⟩ → BufAt lo hi W pb (newB no 8 (-1)) := fun W lo hi pb h => h
    have hok0 := new_ok eO (by decide)
    have hag0 := agrees_new no 8 (-1) O
    have hsm0 : sumS (newB no 8 (-1)).hs = 0 := rfl
    generalize newB no 8 (-1) = B0 at *
    have HN := Lib.hid hnw
    have HB := Lib.hid hnB
    have H0 := Lib.hid (And.intro hok0 (And.intro hag0 hsm0))
    clear hnw hnB hok0 hag0 hsm0 eO
    go_enter Try.func9, Try.ntmps9
    go_wp2_with (go_at_call 11; refine (awake_calls _).mono ?_; rintro e w1 ⟨rfl, hx1⟩)
    go_wp2_with fail
    refine (HN.out _).mono ?_
    rintro e w2 ⟨hx2, pb, rfl, hbu⟩
    have hB0 := HB.out _ _ _ _ hbu.out
    have hx02 := hx1.trans hx2
    have hlo := hx1.size
    have hhi := hx2.size
    clear hbu HN HB
    go_wp2_with fail
    go_loopw [9, 45] (fun s i wr => ∃ k B, k ≤ C.length ∧ i = .int .i64 (k : Nat) ∧ s = .int .i64 (sumS (Bf.hs B)) ∧ Hid (B.ok) ∧ Hid (B.agrees O) ∧ Hid (BufAt w1.heap.size w2.heap.size wr pb B) ∧ Ext w wr ∧ w2.heap.size ≤ wr.heap.size) (fun _ i _ => C.length - (intOf i).toNat)
    case atStart => exact ⟨0, B0, Nat.zero_le _, rfl, by rw [H0.out.2.2], Lib.hid H0.out.1, Lib.hid H0.out.2.1, Lib.hid hB0, hx02, Nat.le_refl _⟩
    case round =>
      clear hB0 H0
      obtain ⟨k, B, hk, rfl, rfl, hok, hag, hBu, hxw, hsz⟩ := hrel
      by_cases hlt : k < C.length
      · obtain ⟨b2, o2, hA2, hck⟩ := hc k hlt
        replace hck := hxw.cell hck
        generalize C[k] = cb at *
        have hcb := cb.toNat_lt
        obtain ⟨at', hat⟩ : ∃ at' : Nat, cb.toNat % (O.length + 1) = at' := ⟨_, rfl⟩
        have hal : at' ≤ O.length := by have := Nat.mod_lt cb.toNat (show 0 < O.length + 1 by omega); omega
        have hi1 : (cb.toNat : Int) % ((O.length : Int) + 1) = (at' : Int) := by rw [← hat]; simp
        have hi2 : (cb.toNat : Int).tmod ((O.length : Int) + 1) = (at' : Int) := by rw [Int.tmod_eq_emod_of_nonneg (by omega)]; exact hi1
        have hz1 : (((O.length : Int) + 1) == 0) = false := beq_eq_false_iff_ne.2 (by omega)
        obtain ⟨r5, hr5⟩ : ∃ r5 : Nat, cb.toNat % 5 = r5 := ⟨_, rfl⟩
        have hr5l : r5 ≤ 4 := by omega
        have hi3 : (cb.toNat : Int) % 5 = (r5 : Int) := by omega
        have hi4 : (cb.toNat : Int).tmod 5 = (r5 : Int) := by rw [Int.tmod_eq_emod_of_nonneg (by omega)]; exact hi3
        clear hat hr5
        subst hA2
        have i0 : (0 : Int) ≤ (k : Int) := by omega
        have i1 : (k : Int) < (C.length : Int) := by omega
        obtain ⟨en, hen⟩ : ∃ en : Nat, min ((at' : Int) + (r5 : Int)) (O.length : Int) = en := ⟨min (at' + r5) O.length, by omega⟩
        have j1 : (at' : Int) ≤ (en : Int) := by omega
        have j2 : (en : Int) ≤ (c : Int) := by omega
        have j3 : en ≤ O.length := by omega
        have j4 : at' ≤ en := by omega
        have hown0 := World.ownsRow_lit (base := wr.heap.size) (size := 1) (e := 5) wr #[] 0 (Nat.le_refl _) (by simp [maxLen]) rfl
        have hxa : Ext wr (wr.alloc (.cells #[] 5)) := (Ext.refl wr).alloc _
        have hR := piece_reads (hb.ext (hxw.trans hxa)) j4 j3 hcap
        obtain ⟨p, hp⟩ : ∃ p, (O.drop at').take (en - at') = p := ⟨_, rfl⟩
        have hpl : p.length = en - at' := by rw [← hp, List.length_take, List.length_drop]; omega
        obtain ⟨s1, s2, s3, s4, s5, s6, s7, s8, s9, s10⟩ := put_piece hok.out hag.out at' (en - at') (by omega)
        have hok2 := put_ok hok.out at' ((O.drop at').take (en - at'))
        have hsb := sum_bounds hok2
        have hsb0 := sum_bounds hok.out
        rw [hp] at hR s1 s2 s3 s4 hok2 hsb
        obtain ⟨N, hN⟩ : ∃ N, B.putN at' p = N := ⟨_, rfl⟩
        obtain ⟨B2, hB2⟩ : ∃ B2, B.put at' p = B2 := ⟨_, rfl⟩
        have hPut := fun A3 c3 W h1 h2 h3 h4 h5 => put_calls w1.heap.size w2.heap.size pb B at' A3 c3 p W h1 hok.out h2 h3 h4 (by omega) (by omega) (by omega) h5
        rw [hN, s1, hB2, hpl] at hPut
        rw [hN, hB2] at s3
        rw [hN] at s2
        rw [hB2] at s4 hok2 hsb
        have HP := Lib.hid hPut
        have H2 := Lib.hid (And.intro s4 hok2)
        obtain ⟨sm, hsm⟩ : ∃ sm, sumS B.hs = sm := ⟨_, rfl⟩
        obtain ⟨sm2, hsm2⟩ : ∃ sm2, sumS B2.hs = sm2 := ⟨_, rfl⟩
        rw [hsm, hsm2] at s3
        rw [hsm2] at hsb
        rw [hsm] at hsb0
        have hwr : IntKind.i64.wrap (sm + N) = sm2 := by rw [← s3]; exact IntWalk.i64_in _ (by omega)
        have hN0 : ¬ N < 0 := by omega
        have HS := Lib.hid (And.intro hsm hsm2)
        have HR := Lib.hid hR
        rw [hsm]
        clear hp s1 s3 s4 s5 s6 s7 s8 s9 s10 hok2 hPut hN hB2 hR hok hag hsm hsm2 hsb hsb0
        by_cases hca : c = at'
        all_goals
          first
            | (subst hca; have hR := HR.out; rw [if_pos rfl] at hR)
            | (have hR := HR.out; rw [if_neg hca] at hR)
          go_wp2_with (at_builtin; refine wpList_append_src _ rfl (.tmp 58) (.tmp 69) 43 rfl wr.heap.size 5 _ 1 1 Try.underlying43 infoByte rfl (by omega) (.slice (some ⟨wr.heap.size, 0, none⟩) 0 0) 0 [] rfl hown0 _ _ _ _ _ rfl hR (bytes_plain p) (by simp [maxLen]; omega) (by omega) hxa.size ?_; intro v3 w3 hown hm; have hx3 := ext_moved hxa hown0 hm; rw [Nat.zero_add, List.nil_append] at hown; obtain ⟨A3, c3, rfl, hc3⟩ := own_shape hown)
          refine (HP.out A3 c3 w3 (hBu.out.ext hx3) (Nat.le_trans hsz hx3.size) (bytes_of_own hown) (by omega) ((newA_of hown (Nat.le_refl _)).out hsz)).mono ?_
          rintro e w4 ⟨rfl, hb4, hc4⟩
          have hxw4 : Ext w w4 := ((Chg.of_ext hx3).trans hc4).ext hxw hlo
          have hsz4 : w2.heap.size ≤ w4.heap.size := Nat.le_trans (Nat.le_trans hsz hx3.size) hc4.size
          clear HP hown hm hc4 hx3 hBu hR HR hck hxw hsz
          go_wp2_with fail
          refine (has_calls _ _ pb B2 _ hb4.out H2.out.2.hlen).mono ?_
          rintro e w5 ⟨v5, rfl, hown5, hx5⟩
          obtain ⟨A5, c5, rfl, _⟩ := own_shape hown5
          have hS5 := Lib.hid (sat_of_own hown5)
          have hxw5 := hxw4.trans hx5
          have hb5 := Lib.hid (hb4.out.ext hx5)
          have hsz5 := Nat.le_trans hsz4 hx5.size
          have hlh := H2.out.2.hlen
          have hnm := Lib.hid H2.out.2.norm
          clear hown5 hb4 hx5 hxw4 hsz4
          obtain ⟨L, hL⟩ : ∃ L, B2.hs = L := ⟨_, rfl⟩
          rw [hL] at hS5 hlh hnm ⊢
          have HL := Lib.hid hL
          clear hL
          go_wp2_with fail
          go_loopw [15, 86] (fun n i wr => ∃ k : Nat, k ≤ L.length ∧ i = .int .i64 k ∧ n = .int .i64 (sumS (L.take k)) ∧ Ext w5 wr) (fun _ i _ => L.length - (intOf i).toNat)
          case atStart => exact ⟨0, Nat.zero_le _, rfl, rfl, Ext.refl _⟩
          case round =>
            obtain ⟨j, hj, rfl, rfl, hx⟩ := hrel
            by_cases hjl : j < L.length
            · obtain ⟨b6, o6, rfl, p0, p1⟩ := hS5.out.ext hx j hjl
              have hbd := sumS_bound hnm.out j hj
              have hbf := hbd.2.1 hjl
              have hb0 := hbd.1
              have hgt := hnm.out.get hjl
              have hts := List.take_succ_eq_append_getElem hjl
              have hsm : sumS (L.take (j + 1)) = sumS (L.take j) + (L[j].t - L[j].f) := by rw [hts, sumS_snoc]
              have j0 : (0 : Int) ≤ (j : Int) := by omega
              have j1' : (j : Int) < (L.length : Int) := by omega
              generalize L[j] = s at *
              generalize sumS (L.take j) = n at *
              have HSM := Lib.hid hsm
              obtain ⟨t1, t2, t3⟩ := hgt
              clear hbd hts hsm hS5
              go_wp2_with fail
              go_roundw
              case rel => exact ⟨j + 1, by omega, by go_num, by rw [HSM.out], hx.alloc _⟩
              case measure => simp [intOf]; omega
            · obtain rfl : j = L.length := by omega
              rw [List.take_length]
              have hs2 : sumS L = sm2 := by rw [← HL.out]; exact HS.out.2
              rw [hs2]
              have HS2 := Lib.hid hs2
              clear hs2 hS5
              go_wp2_with fail
              go_roundw
              case rel =>
                first
                  | exact ⟨k + 1, B2, by omega, by go_num, by rw [HS.out.2], Lib.hid H2.out.2, Lib.hid H2.out.1, Lib.hid (hb5.out.ext hx), hxw5.trans hx, Nat.le_trans hsz5 hx.size⟩
                  | ((repeat apply Exists.intro); exact ⟨⟨k + 1, B2, by omega, by go_num, by rw [HS.out.2], Lib.hid H2.out.2, Lib.hid H2.out.1, Lib.hid (hb5.out.ext hx), hxw5.trans hx, Nat.le_trans hsz5 hx.size⟩, rfl⟩)
              case measure => simp [intOf]; omega
      · obtain rfl : k = C.length := by omega
        go_wp2
        go_ret
        exact ⟨rfl, hxw⟩
  · have h : 100 < O.length ∨ 30 < C.length := by omega
    clear hg hb hc
    rcases h with h | h
    all_goals
      go_enter Try.func9, Try.ntmps9
      go_wp2_with (go_at_call 11; refine (awake_calls _).mono ?_; rintro e w1 ⟨rfl, hx1⟩)
      all_goals go_ret
      all_goals exact ⟨rfl, Ext.trans ‹Ext w _› hx1⟩
end Go.Proofs.Ytoahjhkfnchdhaa
