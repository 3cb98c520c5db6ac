/- SliceWhole: the walk. -/
import Derived.Test.YtoahjhkfnchdhaaLawOnce
namespace Go.Proofs.Ytoahjhkfnchdhaa
open Go.RowKit

/-- A buffer that has all its bytes, and they are the object's. -/
theorem full_of {B : Bf} (hok : B.ok) {O : List UInt8} (hag : B.agrees O) (hall : ∀ z, B.f ≤ z → z < B.t → Mem B.hs z) (hT : B.t ≤ O.length) (hl : (B.bs.length : Int) = B.t - B.f) :
    holdsS B.hs B.f B.t = true ∧ B.bs.take (B.t - B.f).toNat = (O.drop B.f.toNat).take (B.t - B.f).toNat := by
  have f0 := hok.f0
  have ft := hok.ft
  have t1 := hok.t1
  have hs : (⟨B.f, B.t⟩ : Sp).ok := ⟨f0, ft, by show B.t ≤ _; omega⟩
  have he : B.hs = [⟨B.f, B.t⟩] := norm_ext hok.norm (norm_one hs) fun z => by
    rw [mem_single]
    exact ⟨fun h => mem_of_lies hok.lies z h, fun h => hall z h.1 h.2⟩
  refine ⟨by rw [he]; exact holds_one hs (Int.le_refl _) ft, ?_⟩
  apply List.ext_getElem?
  intro i
  rw [List.getElem?_take, List.getElem?_take]
  split
  · have h1 := hag (B.f + i) (hall _ (by omega) (by omega))
    rw [show (B.f + (i : Int) - B.f).toNat = i by omega] at h1
    rw [h1, List.getElem?_drop]
    congr 1
    omega
  · rfl

theorem own_chg {lo hi : Nat} {w w' : World} {base : Nat} {e : TypeId} {size n : Nat} {v : Value} {xs : List Value} (h : w.ownsRow base e size v n xs) (hx : Chg lo hi w w') (hb : hi ≤ base) : w'.ownsRow base e size v n xs := by
  refine ⟨h.1, ?_⟩
  rcases h.2 with h2 | ⟨g, cap, cur, hv, hg, hh, r⟩
  · exact .inl h2
  · exact .inr ⟨g, cap, cur, hv, hg, hx.keep hh (.inr (by omega)), r⟩

set_option maxHeartbeats 4000000 in
set_option maxRecDepth 100000 in
theorem lawWhole_calls (no : Int) (A : Option Addr) (c : Nat) (O : List UInt8) (A2 : Option Addr) (c2 : Nat) (C : List UInt8) (w : World) (hno : (Lit.int .u8 no).wf = true) (hO : BytesAt w A O ∧ O.length ≤ c) (hC : BytesAt w A2 C ∧ C.length ≤ c2) :
    Calls Try.prog 6 #[.int .u8 no, .slice A O.length c, .slice A2 C.length c2] w fun e w' => e = .returned (.bool true) ∧ Ext w w' := by
  obtain ⟨hb, hcap⟩ := hO
  obtain ⟨hc, _⟩ := hC
  obtain ⟨n0, n1⟩ := u8_wf hno
  clear hno
  by_cases hg : O.length ≤ 100 ∧ C.length ≤ 20
  · obtain ⟨g1, g2⟩ := hg
    have hnw := fun W => new_calls no 8 O.length (by decide) W
    unfold NewPost at hnw
    have hrs := fun W => refspan_calls no 8 O.length W
    cases eO : spanOk no 8 O.length
    · have hsp : spanS no 8 O.length = ⟨0, 0⟩ := by unfold spanS; rw [eO]; rfl
      rw [hsp] at hrs
      simp only [eO] at hnw
      have HN := Lib.hid fun W => (hnw W).mono fun e w' h => (show Ext W w' ∧ e = .returned (.tuple #[.pointer none, .int .i64 1]) from ⟨h.1, by simpa using h.2⟩)
      have HR := Lib.hid hrs
      clear hnw hrs eO hsp
      go_enter Try.func6, Try.ntmps6
      go_wp2_with (first
        | (go_at_call 11; refine (awake_calls _).mono ?_; rintro e w1 ⟨rfl, hx1⟩)
        | (go_at_call 21; refine (HN.out _).mono ?_; rintro e w2 ⟨hx2, rfl⟩)
        | (go_at_call 13; refine (HR.out _).mono ?_; rintro e w3 ⟨rfl, hx3⟩))
      go_ret
      exact ⟨rfl, ((hx1.trans hx2).trans hx3).alloc _⟩
    · have hsp : spanS no 8 O.length = ⟨no * 8, cutE no 8 O.length⟩ := by unfold spanS; rw [if_pos eO]
      rw [hsp] at hrs
      simp only [eO, if_true] at hnw
      obtain ⟨d0, d1, d2, d3, d4, _, _⟩ := cut_bounds eO
      have d4' := d4 (by omega)
      have hok0 := new_ok eO (by decide)
      have hag0 := agrees_new no 8 O.length O
      have hbl0 : (newB no 8 O.length).f = no * 8 ∧ (newB no 8 O.length).t = cutE no 8 O.length ∧ ((newB no 8 O.length).bs.length : Int) = cutE no 8 O.length - no * 8 := ⟨rfl, rfl, by show ((List.replicate _ (0 : UInt8)).length : Int) = _; rw [List.length_replicate]; omega⟩
      have hnB : ∀ W lo hi pb, BufAt lo hi W pb ⟨8, O.length, no * 8, cutE no 8 O.length, List.replicate (cutE no 8 O.length - no * 8).toNat 0, []⟩ → BufAt lo hi W pb (newB no 8 O.length) := fun W lo hi pb h => h
      generalize newB no 8 O.length = B0 at *
      generalize no * 8 = F at *
      generalize cutE no 8 O.length = T at *
      have HN := Lib.hid hnw
      have HRS := Lib.hid hrs
      have HB := Lib.hid hnB
      have H0 := Lib.hid (And.intro hok0 (And.intro hag0 hbl0))
      clear hnw hrs hnB hok0 hag0 hbl0 eO hsp d4
      go_enter Try.func6, Try.ntmps6
      go_wp2_with (go_at_call 11; refine (awake_calls _).mono ?_; rintro e w1 ⟨rfl, hx1⟩)
      go_wp2_with fail
      refine (HN.out _).mono ?_
      rintro e w2 ⟨hx2, pb, rfl, hbu⟩
      have hB0 := HB.out _ _ _ _ hbu.out
      have hx02 := hx1.trans hx2
      have hlo := hx1.size
      have hhi := hx2.size
      clear hbu HN HB
      go_wp2_with fail
      refine (HRS.out _).mono ?_
      rintro e w3 ⟨rfl, hx3⟩
      have b9 := heap_alloc_new w3 (.cells #[.int .i64 F, .int .i64 T] 24)
      have hx4 : Ext w2 (w3.alloc (.cells #[.int .i64 F, .int .i64 T] 24)) := hx3.alloc _
      have hn9 : w2.heap.size ≤ w3.heap.size := hx3.size
      go_upto_region 6 with (fail)
      generalize hw4 : w3.alloc (.cells #[.int .i64 F, .int .i64 T] 24) = w4 at *
      generalize w3.heap.size = n9 at *
      have hn9' : n9 < w4.heap.size := (Array.getElem?_eq_some_iff.1 b9).1
      clear hw4 hx3 HRS
      go_wp2_with fail
      go_loopw [63] (fun i wr => ∃ k B, k ≤ C.length ∧ i = .int .i64 (k : Nat) ∧ Hid (Bf.ok B) ∧ Hid (B.agrees O) ∧ Hid (B.f = F ∧ B.t = T ∧ (B.bs.length : Int) = T - F) ∧ Hid (BufAt w1.heap.size w2.heap.size wr pb B) ∧ Ext w wr ∧ w4.heap.size ≤ wr.heap.size ∧ wr.heap[n9]? = some (.cells #[.int .i64 F, .int .i64 T] 24 (0, 0))) (fun i _ => C.length - (intOf i).toNat)
      case atStart => exact ⟨0, B0, Nat.zero_le _, rfl, Lib.hid H0.out.1, Lib.hid H0.out.2.1, Lib.hid H0.out.2.2, Lib.hid (hB0.ext hx4), hx02.trans hx4, Nat.le_refl _, b9⟩
      case round =>
        have hz4 := hx4.size
        clear hB0 H0 b9
        obtain ⟨k, B, hk, rfl, hok, hag, hft, hBu, hxw, hsz, b9⟩ := hrel
        by_cases hlt : k < C.length
        · obtain ⟨b2, o2, hA2, hck⟩ := hc k hlt
          replace hck := hxw.cell hck
          generalize C[k] = cb at *
          have hcb := cb.toNat_lt
          obtain ⟨at', hat⟩ : ∃ at' : Nat, cb.toNat % (O.length + 1) = at' := ⟨_, rfl⟩
          have hal : at' ≤ O.length := by have := Nat.mod_lt cb.toNat (show 0 < O.length + 1 by omega); omega
          have hi1 : (cb.toNat : Int) % ((O.length : Int) + 1) = (at' : Int) := by rw [← hat]; simp
          have hi2 : (cb.toNat : Int).tmod ((O.length : Int) + 1) = (at' : Int) := by rw [Int.tmod_eq_emod_of_nonneg (by omega)]; exact hi1
          have hz1 : (((O.length : Int) + 1) == 0) = false := beq_eq_false_iff_ne.2 (by omega)
          clear hat
          subst hA2
          have i0 : (0 : Int) ≤ (k : Int) := by omega
          have i1 : (k : Int) < (C.length : Int) := by omega
          obtain ⟨en, hen⟩ : ∃ en : Nat, min ((at' : Int) + 3) (O.length : Int) = en := ⟨min (at' + 3) O.length, by omega⟩
          have j1 : (at' : Int) ≤ (en : Int) := by omega
          have j2 : (en : Int) ≤ (c : Int) := by omega
          have j3 : en ≤ O.length := by omega
          have j4 : at' ≤ en := by omega
          have hown0 := World.ownsRow_lit (base := wr.heap.size) (size := 1) (e := 5) wr #[] 0 (Nat.le_refl _) (by simp [maxLen]) rfl
          have hxa : Ext wr (wr.alloc (.cells #[] 5)) := (Ext.refl wr).alloc _
          have hR := piece_reads (hb.ext (hxw.trans hxa)) j4 j3 hcap
          obtain ⟨p, hp⟩ : ∃ p, (O.drop at').take (en - at') = p := ⟨_, rfl⟩
          have hpl : p.length = en - at' := by rw [← hp, List.length_take, List.length_drop]; omega
          obtain ⟨s1, s2, s3, s4, s5, s6, s7, s8, s9, s10⟩ := put_piece hok.out hag.out at' (en - at') (by omega)
          have hok2 := put_ok hok.out at' ((O.drop at').take (en - at'))
          rw [hp] at hR s1 s4 s5 s6 s9 hok2
          obtain ⟨N, hN⟩ : ∃ N, B.putN at' p = N := ⟨_, rfl⟩
          obtain ⟨B2, hB2⟩ : ∃ B2, B.put at' p = B2 := ⟨_, rfl⟩
          have hPut := fun Z A3 c3 W h1 h2 h3 h4 h5 h6 h7 => putZ_calls Z w1.heap.size w2.heap.size pb B at' A3 c3 p W h1 h2 h3 hok.out h4 h5 h6 (by omega) (by omega) (by omega) h7
          rw [hN, s1, hB2, hpl] at hPut
          rw [hB2] at s4 s5 s6 s9 hok2
          have HP := Lib.hid hPut
          have H2 := Lib.hid (And.intro s4 (And.intro hok2 (show B2.f = F ∧ B2.t = T ∧ (B2.bs.length : Int) = T - F from ⟨s5.trans hft.out.1, s6.trans hft.out.2.1, by rw [s9]; exact hft.out.2.2⟩)))
          have HR := Lib.hid hR
          clear hp s1 s2 s3 s4 s5 s6 s7 s8 s9 s10 hok2 hPut hN hB2 hR hok hag hft
          by_cases hca : c = at'
          all_goals
            have hR := HR.out
            first
              | (rw [if_pos hca] at hR; have hct : (c = at') = True := eq_true hca; clear hca)
              | (rw [if_neg hca] at hR)
            go_wp2_with (at_builtin; refine wpList_append_src _ rfl (.tmp 73) (.tmp 81) 43 rfl wr.heap.size 5 _ 1 1 Try.underlying43 infoByte rfl (by omega) (.slice (some ⟨wr.heap.size, 0, none⟩) 0 0) 0 [] rfl hown0 _ _ _ _ _ rfl hR (bytes_plain p) (by simp [maxLen]; omega) (by omega) hxa.size ?_; intro v3 w5 hown hm; have hx5 := ext_moved hxa hown0 hm; rw [Nat.zero_add, List.nil_append] at hown; obtain ⟨A3, c3, rfl, hc3⟩ := own_shape hown)
            have hA3 : ∀ b o, A3 = some ⟨b, o, none⟩ → wr.heap.size ≤ b ∧ b < w5.heap.size := fun b o e => by subst e; exact hown.lt b rfl
            have hsz0 : w2.heap.size ≤ wr.heap.size := by omega
            have hwr0 : w.heap.size ≤ wr.heap.size := hxw.size
            have hsw0 := hsz
            have hBz : BufZ (fun b => OutW w1.heap.size w2.heap.size b ∧ ∀ o, A3 ≠ some ⟨b, o, none⟩) w1.heap.size w2.heap.size w5 pb B :=
              ((hBu.out.more (Z' := fun b => OutW w1.heap.size w2.heap.size b ∧ b < wr.heap.size) fun b h1 h2 => ⟨h1, h2⟩).ext hx5).more fun b h1 _ => ⟨h1.1, fun o e => by have := (hA3 b o e).1; have := h1.2; omega⟩
            refine (HP.out _ A3 c3 w5 hBz (fun b h => h.1) (fun b h => ⟨.inr (by have := hx5.size; omega), fun o e => by have := (hA3 b o e).2; omega⟩) (by have := hx5.size; omega) (bytes_of_own hown) (by omega) (fun b o e => .inr (by have := (hA3 b o e).1; omega))).mono ?_
            rintro e w6 ⟨rfl, hb6, hc6⟩
            have hxw6 : Ext w w6 := ((Chg.of_ext hx5).trans hc6).ext hxw hlo
            have hsz6 : w4.heap.size ≤ w6.heap.size := Nat.le_trans (Nat.le_trans hsz hx5.size) hc6.size
            have b96 := hc6.keep (hx5.block b9) (.inr hn9)
            have hown6 := own_chg hown hc6 hsz0
            have hb6' := Lib.hid hb6.out
            clear hown hm hBz hBu hR HR HP hc6 hb6 hx5 hxa hown0 hck hxw hsz b9
            have HA3 := Lib.hid hA3
            obtain ⟨nb, hnb⟩ : ∃ nb, wr.heap.size = nb := ⟨_, rfl⟩
            rw [hnb] at hown6 hwr0 hsz0 hsw0
            clear hA3 hnb
            go_wp2_with fail
            go_loopw [94] (fun i wy => ∃ (j : Nat) (q : List UInt8), j ≤ en - at' ∧ i = .int .i64 j ∧ q.length = en - at' ∧ wy.ownsRow nb 5 1 (.slice A3 (en - at') c3) (en - at') (bytesL q) ∧ Hid (BufZ (fun b => OutW w1.heap.size w2.heap.size b ∧ ∀ o, A3 ≠ some ⟨b, o, none⟩) w1.heap.size w2.heap.size wy pb B2) ∧ Ext w wy ∧ w4.heap.size ≤ wy.heap.size ∧ wy.heap[n9]? = some (.cells #[.int .i64 F, .int .i64 T] 24 (0, 0))) (fun i _ => (en - at') - (intOf i).toNat)
            case atStart => exact ⟨0, p, Nat.zero_le _, rfl, hpl, hown6, hb6', hxw6, hsz6, b96⟩
            case round =>
              clear hown6 hb6' hxw6 hsz6 b96
              obtain ⟨j, q, hj, rfl, hql, hown, hbz, hxw, hsz, b9⟩ := hrel
              by_cases hjl : j < en - at'
              · obtain ⟨g7, c7, hv7, hg7, _⟩ := hown.form (by omega)
                cases hv7
                have hjq : j < q.length := by omega
                have qk : wr.cell? ⟨g7, j, none⟩ = some (.int .u8 (q[j].toNat : Int)) := by rw [hown.cellAt _ (by omega)]; simp [bytesL, hjq]
                have fk : wr.frozen? ⟨g7, j, none⟩ = false := hown.frozenAt _
                have hst := hown.stored j (.int .u8 ((q[j] + 1).toNat : Int))
                have hnx := wrap_next q[j]
                have hset := bytesL_set q j (q[j] + 1)
                generalize q[j] = x at *
                rw [hset] at hst
                have hv : ((x.toNat : Int) + 1) % 256 = ((x + 1).toNat : Int) := hnx
                have HST := Lib.hid (And.intro hst.1 hv)
                have j0 : (0 : Int) ≤ (j : Int) := by omega
                have j1' : (j : Int) < ((en - at' : Nat) : Int) := by omega
                clear hset hst hown hnx hv
                go_wp2_with fail
                go_roundw
                case rel =>
                  rw [HST.out.2]
                  refine ⟨j + 1, q.set j (x + 1), by omega, by go_num, by simp [hql], HST.out.1, Lib.hid (hbz.out.chg (lo' := g7) (hi' := g7 + 1) (Chg.setCell _ (Nat.le_refl _) (Nat.lt_succ_self _)) (.inl (by omega)) fun b h => ?_), hxw.setCell (p := ⟨g7, j, none⟩) (by show w.heap.size ≤ g7; omega) _, by simpa [World.setCell] using hsz, (Below.heap_setCell _ _ _ n9 (by show n9 ≠ g7; omega)).trans b9⟩
                  have := h.2 0
                  unfold OutW
                  rcases Nat.lt_trichotomy b g7 with h1 | h1 | h1
                  · exact .inl h1
                  · subst h1; exact absurd rfl this
                  · exact .inr h1
                case measure => simp [intOf]; omega
              · obtain rfl : j = en - at' := by omega
                clear hown
                go_wp2_with fail
                go_roundw
                case rel =>
                  first
                    | exact ⟨k + 1, B2, by omega, by go_num, Lib.hid H2.out.2.1, Lib.hid H2.out.1, Lib.hid H2.out.2.2, Lib.hid (hbz.out.more fun b h _ => h.1), hxw, hsz, b9⟩
                    | ((repeat apply Exists.intro); exact ⟨⟨k + 1, B2, by omega, by go_num, Lib.hid H2.out.2.1, Lib.hid H2.out.1, Lib.hid H2.out.2.2, Lib.hid (hbz.out.more fun b h _ => h.1), hxw, hsz, b9⟩, rfl⟩)
                case measure => simp [intOf]; omega
        · obtain rfl : k = C.length := by omega
          obtain ⟨s1, s2, s3, s4, s5, s6, s7, s8, s9, s10⟩ := put_piece hok.out hag.out 0 O.length (by omega)
          have hok2 := put_ok hok.out 0 O
          rw [show ((0 : Nat) : Int) = 0 from rfl, List.drop_zero, List.take_length] at s1 s4 s5 s6 s9
          simp only [List.drop_zero, List.take_length] at s10
          rw [show ((0 : Nat) : Int) = 0 from rfl] at s10
          obtain ⟨N, hN⟩ : ∃ N, B.putN 0 O = N := ⟨_, rfl⟩
          obtain ⟨B2, hB2⟩ : ∃ B2, B.put 0 O = B2 := ⟨_, rfl⟩
          have hPut := fun A3 c3 W h1 h2 h3 h4 h5 => put_calls w1.heap.size w2.heap.size pb B 0 A3 c3 O W h1 hok.out h2 h3 h4 (by omega) (by omega) (by omega) h5
          rw [hN, s1, hB2] at hPut
          rw [hB2] at s4 s5 s6 s9 s10 hok2
          obtain ⟨t1, t2, t3⟩ := hft.out
          have e1 : B2.f = F := s5.trans t1
          have e2 : B2.t = T := s6.trans t2
          obtain ⟨u1, u2⟩ := full_of hok2 s4 (fun z z1 z2 => (s10 z).2 (.inr (by omega))) (by omega) (by rw [s9, t3]; omega)
          have hwh := fun Z lo hi W h => whole_calls (Z := Z) lo hi pb B2 W h hok2
          unfold WholePost at hwh
          simp only [u1, u2, if_true] at hwh
          rw [e1, e2] at hwh
          obtain ⟨fN, hfN⟩ : ∃ fN : Nat, F = fN := ⟨F.toNat, by omega⟩
          obtain ⟨tN, htN⟩ : ∃ tN : Nat, T = tN := ⟨T.toNat, by omega⟩
          subst hfN
          subst htN
          obtain ⟨dN, hdN⟩ : ∃ dN, tN - fN = dN := ⟨_, rfl⟩
          have hd2 : ((tN : Int) - (fN : Int)).toNat = dN := by omega
          rw [hd2, show ((fN : Int)).toNat = fN from rfl] at hwh
          have hfl : ((O.drop fN).take dN).length = dN := by simp; omega
          have hsl : BytesAt w (some ⟨0, 0, none⟩) [] := fun j hj => by simp at hj
          obtain ⟨b, o, hA, hbc⟩ := hb.at_ (by omega)
          subst hA
          have hsb : BytesAt w (some ⟨b, o + fN, none⟩) ((O.drop fN).take dN) := fun j hj => by
            refine ⟨b, o + fN, rfl, ?_⟩
            have hcell := hbc (fN + j) (by omega)
            rw [List.getElem_take, List.getElem_drop, Nat.add_assoc]
            exact hcell
          obtain ⟨S, hS⟩ : ∃ S, (O.drop fN).take dN = S := ⟨_, rfl⟩
          rw [hS] at hwh hfl hsb
          have cv2 : ∀ W, Ext w W → (convert 43 9 (.slice (some ⟨b, o + fN, none⟩) dN (c - fN))).run Try.prog W = .ok (.string ⟨S.toArray⟩) W := fun W h => by
            have := conv_bytes W (some ⟨b, o + fN, none⟩) S (c - fN) (hsb.ext h)
            rw [hfl] at this
            exact this
          have hd1 : 1 ≤ dN := by omega
          have HP := Lib.hid hPut
          have HW := Lib.hid hwh
          have HFL := Lib.hid hfl
          have y0 : wr.cell? ⟨n9, 0, none⟩ = some (.int .i64 fN) := by rw [cell_of_row _ _ _ _ _ _ b9]; rfl
          have y1 : wr.cell? ⟨n9, 1, none⟩ = some (.int .i64 tN) := by rw [cell_of_row _ _ _ _ _ _ b9]; rfl
          have z2 : fN ≤ tN := by omega
          have z3 : tN ≤ c := by omega
          have z4 : ¬ c = fN := by omega
          have z5 : (fN : Int) ≤ (tN : Int) := by omega
          have z6 : (tN : Int) ≤ (c : Int) := by omega
          have hstr := fun W A3 c3 (h : BytesAt W A3 S) W' (hx : Ext W W') => (show (convert 43 9 (.slice A3 dN c3)).run Try.prog W' = .ok (.string ⟨S.toArray⟩) W' by
            have := conv_bytes W' A3 S c3 (h.ext hx)
            rw [hfl] at this
            exact this)
          generalize (⟨S.toArray⟩ : ByteArray) = str at *
          have HC2 := Lib.hid cv2
          have HST := Lib.hid hstr
          have hown0 := World.ownsRow_lit (base := wr.heap.size) (size := 1) (e := 5) wr #[] 0 (Nat.le_refl _) (by simp [maxLen]) rfl
          have hxa : Ext wr (wr.alloc (.cells #[] 5)) := (Ext.refl wr).alloc _
          have hR := bytes_reads (hb.ext (hxw.trans hxa))
          have hws : w2.heap.size ≤ wr.heap.size := by omega
          clear s1 s2 s3 s4 s5 s6 s7 s8 s9 s10 hok2 hN hB2 hPut hwh u1 u2 e1 e2 t1 t2 t3 hok hag hft hsl hsb hd2 hS cv2 hstr hfl hbc
          go_wp2_with (at_builtin; refine wpList_append_src _ rfl (.tmp 107) (.tmp 108) 43 rfl wr.heap.size 5 _ 1 1 Try.underlying43 infoByte rfl (by omega) (.slice (some ⟨wr.heap.size, 0, none⟩) 0 0) 0 [] rfl hown0 _ _ _ _ _ rfl hR (bytes_plain O) (by simp [maxLen]; omega) (by omega) hxa.size ?_; intro v3 w5 hown hm; have hx5 := ext_moved hxa hown0 hm; rw [Nat.zero_add, List.nil_append] at hown; obtain ⟨A3, c3, rfl, hc3⟩ := own_shape hown)
          refine (HP.out A3 c3 w5 (hBu.out.ext hx5) (by have := hx5.size; omega) (bytes_of_own hown) hc3 ((newA_of hown (Nat.le_refl _)).out hws)).mono ?_
          rintro e w6 ⟨rfl, hb6, hc6⟩
          replace b9 := hc6.keep (hx5.block b9) (.inr hn9)
          have hz6 := Nat.le_trans hx5.size hc6.size
          replace hxw := ((Chg.of_ext hx5).trans hc6).ext hxw hlo
          clear HP hown hm hc6 hBu hR hown0 hxa hx5 y0 y1
          go_wp2_with fail
          refine (HW.out _ _ _ _ hb6.out).mono ?_
          rintro e w7 ⟨hx7, A7, c7, rfl, ho7⟩
          have hb7 : BufZ (fun b => OutW w1.heap.size w2.heap.size b ∧ b < w6.heap.size) w1.heap.size w2.heap.size w7 pb B2 := (hb6.out.more fun b h1 h2 => ⟨h1, h2⟩).ext hx7
          replace b9 := hx7.block b9
          replace hxw := hxw.trans hx7
          have HC1 := Lib.hid (HST.out w7 A7 c7 (bytes_of_own (l := S) ho7.out))
          have y0 : w7.cell? ⟨n9, 0, none⟩ = some (.int .i64 fN) := by rw [cell_of_row _ _ _ _ _ _ b9]; rfl
          have y1 : w7.cell? ⟨n9, 1, none⟩ = some (.int .i64 tN) := by rw [cell_of_row _ _ _ _ _ _ b9]; rfl
          have hz7 := hx7.size
          clear hb6 hx7
          go_wp2_with fail
          refine wp_region_ext_lit (by kernel_rfl) (by kernel_rfl) ?_
          intro X _ g hg hg'
          have k0 : ∀ n, (g n).cell? ⟨n9, 0, none⟩ = some (.int .i64 fN) := fun n => (hg n).cell y0
          have k1 : ∀ n, (g n).cell? ⟨n9, 1, none⟩ = some (.int .i64 tN) := fun n => (hg n).cell y1
          have k2 : ∀ n, (convert 43 9 (.slice A7 dN c7)).run Try.prog (g n) = .ok (.string str) (g n) := fun n => HC1.out _ (hg n)
          have k3 : ∀ n, (convert 43 9 (.slice (some ⟨b, o + fN, none⟩) dN (c - fN))).run Try.prog (g n) = .ok (.string str) (g n) := fun n => HC2.out _ (hxw.trans (hg n))
          repeat (go_big_quiet_step (fail))
          refine wpQuiet_nil ?_
          rintro w' ⟨n, rfl⟩
          have hxg := hg n
          clear hg hg' k0 k1 k2 k3 HC1
          generalize g n = w8 at *
          replace hxw := hxw.trans hxg
          replace b9 := hxg.block b9
          have hown8 := ownsRow_ext ho7.out hxg
          have hb8 := hb7.ext hxg
          have hl7 := HFL.out
          obtain ⟨g8, cap8, hv8, hg8, _⟩ := hown8.form hd1
          cases hv8
          have hq0 : 0 < S.length := by omega
          have qk : w8.cell? ⟨g8, 0, none⟩ = some (.int .u8 (S[0].toNat : Int)) := by rw [hown8.cellAt _ (by omega)]; simp [bytesL, hq0]
          have fk : w8.frozen? ⟨g8, 0, none⟩ = false := hown8.frozenAt _
          generalize S[0] = x at *
          have j0 : (0 : Int) < (dN : Int) := by omega
          have HBZ := Lib.hid hb8
          clear ho7 hown8 hb7 hb8 hxg y0 y1 hl7
          go_wp2_with fail
          have hb9 : BufZ (fun b => OutW w1.heap.size w2.heap.size b ∧ b < w6.heap.size) w1.heap.size w2.heap.size (w8.setCell ⟨g8, 0, none⟩ (.int .u8 (((x.toNat : Int) + 1) % 256))) pb B2 :=
            HBZ.out.chg (lo' := g8) (hi' := g8 + 1) (Chg.setCell _ (Nat.le_refl _) (Nat.lt_succ_self _)) (.inl (by omega)) fun b h => .inl (by have := h.2; omega)
          replace b9 := (Below.heap_setCell w8 ⟨g8, 0, none⟩ (.int .u8 (((x.toNat : Int) + 1) % 256)) n9 (by show n9 ≠ g8; omega)).trans b9
          replace hxw := hxw.setCell (p := ⟨g8, 0, none⟩) (by show w.heap.size ≤ g8; have := hx02.size; omega) (.int .u8 (((x.toNat : Int) + 1) % 256))
          generalize w8.setCell ⟨g8, 0, none⟩ (.int .u8 (((x.toNat : Int) + 1) % 256)) = wa at *
          clear qk fk HBZ
          refine (HW.out _ _ _ _ hb9).mono ?_
          rintro e wb ⟨hxb, Ab, cb, rfl, hob⟩
          replace b9 := hxb.block b9
          replace hxw := hxw.trans hxb
          have HC1 := Lib.hid (HST.out wb Ab cb (bytes_of_own (l := S) hob.out))
          have y0 : wb.cell? ⟨n9, 0, none⟩ = some (.int .i64 fN) := by rw [cell_of_row _ _ _ _ _ _ b9]; rfl
          have y1 : wb.cell? ⟨n9, 1, none⟩ = some (.int .i64 tN) := by rw [cell_of_row _ _ _ _ _ _ b9]; rfl
          clear hob hb9 hxb
          go_wp2_with fail
          refine wp_region_ext_lit (by kernel_rfl) (by kernel_rfl) ?_
          intro X _ g hg hg'
          have k0 : ∀ n, (g n).cell? ⟨n9, 0, none⟩ = some (.int .i64 fN) := fun n => (hg n).cell y0
          have k1 : ∀ n, (g n).cell? ⟨n9, 1, none⟩ = some (.int .i64 tN) := fun n => (hg n).cell y1
          have k2 : ∀ n, (convert 43 9 (.slice Ab dN cb)).run Try.prog (g n) = .ok (.string str) (g n) := fun n => HC1.out _ (hg n)
          have k3 : ∀ n, (convert 43 9 (.slice (some ⟨b, o + fN, none⟩) dN (c - fN))).run Try.prog (g n) = .ok (.string str) (g n) := fun n => HC2.out _ (hxw.trans (hg n))
          repeat (go_big_quiet_step (fail))
          refine wpQuiet_nil ?_
          rintro w' ⟨n, rfl⟩
          have hxg := hg n
          clear hg hg' k0 k1 k2 k3 HC1
          generalize g n = w99 at *
          replace hxw := hxw.trans hxg
          go_wp2
          go_ret
          exact ⟨rfl, hxw⟩
  · have h : 100 < O.length ∨ 20 < C.length := by omega
    clear hg hb hc
    rcases h with h | h
    all_goals
      go_enter Try.func6, Try.ntmps6
      go_wp2_with (go_at_call 11; refine (awake_calls _).mono ?_; rintro e w1 ⟨rfl, hx1⟩)
      all_goals go_ret
      all_goals exact ⟨rfl, Ext.trans ‹Ext w _› hx1⟩
end Go.Proofs.Ytoahjhkfnchdhaa
