/- The contract of the reference's Seal. -/
import Derived.Test.YtoahjhkfnchdhaaRhas
import Derived.Test.YtoahjhkfnchdhaaRput
namespace Go.Proofs.Ytoahjhkfnchdhaa
open Go.RowKit

theorem first_last {l : List Sp} {q : Sp} (hn : Norm (l ++ [q])) (n : Int) : (firstS (l ++ [q]) n).isSome = decide (n < q.t) := by
  by_cases h : n < q.t
  · rw [decide_eq_true h]
    exact first_some (s := q) (by simp) h
  · rw [decide_eq_false h]
    obtain ⟨_, n2, n3⟩ := norm_snoc.1 hn
    have hq := n2.2.1
    have hb : beh (l ++ [q]) n = (l ++ [q]).length := by
      refine beh_of (Nat.le_refl _) (fun i hi _ => ?_) (fun i hi hr => absurd hi (by omega))
      have hm : (l ++ [q])[i] ∈ l ++ [q] := List.getElem_mem hi
      generalize (l ++ [q])[i] = s at *
      rcases List.mem_append.1 hm with h1 | h1
      · have := n3 s h1; omega
      · simp only [List.mem_singleton] at h1
        subst h1
        omega
    unfold firstS
    rw [hb, List.getElem?_eq_none (Nat.le_refl _)]
    rfl
theorem length_of {B : Bf} {R : Rb} (hr : Rel B R) : -1 ≤ R.n := by
  have h := hr.so
  unfold spanOk at h
  simp only [Bool.and_eq_true] at h
  have h2 := h.2.1
  unfold lengthB at h2
  simp only [Bool.and_eq_true, decide_eq_true_eq] at h2
  omega
theorem rel_seal {B : Bf} {R : Rb} (hr : Rel B R) (n : Int) : Rel (B.seal n) { R with n := (B.seal n).n } := by
  have hok := seal_ok hr.ok n
  by_cases he : B.sealE n = 0
  · have hs : B.seal n = { B with n := n, t := min B.t n } := by unfold Bf.seal; rw [if_pos he]
    rw [hs] at hok ⊢
    obtain ⟨e0, e1, e2, e3, e4⟩ := hr.ends
    have h1 : ¬ (n < 0 ∨ 1099511627776 < n ∨ n ≤ B.f) := fun hc => by unfold Bf.sealE at he; rw [if_pos hc] at he; cases he
    have h3 : ¬ (B.n ≠ -1 ∧ B.n ≠ n) := fun hc => by
      unfold Bf.sealE at he
      rw [if_neg h1] at he
      split at he
      · cases he
      · first
          | (rw [if_pos hc] at he; cases he)
          | cases he
    have hso := hr.so
    unfold spanOk at hso
    simp only [Bool.and_eq_true, decide_eq_true_eq] at hso
    obtain ⟨s1, s2, s3, s4, s5⟩ := hso
    have ht := hr.t
    have hf := hr.f
    have hn := hr.n
    have hm : (R.no + 1) * R.u = R.no * R.u + R.u := by rw [Int.add_mul, Int.one_mul]
    have hct : min B.t n = cutE R.no R.u n := by
      rw [ht]
      unfold cutE
      rw [if_neg (show ¬ n = -1 by omega)]
      by_cases hn1 : R.n = -1
      · rw [if_pos hn1]
      · rw [if_neg hn1]
        have : B.n = n := by omega
        omega
    refine ⟨hok, hr.u, rfl, hf, ?_, hct, hr.len, hr.u64, hr.val, hr.bl⟩
    unfold spanOk lengthB
    simp only [Bool.and_eq_true, decide_eq_true_eq]
    exact ⟨s1, ⟨by omega, by omega⟩, s3, s4, by rw [← hct]; omega⟩
  · have hs : B.seal n = B := by unfold Bf.seal; rw [if_neg he]
    rw [hs]
    exact ⟨hr.ok, hr.u, rfl, hr.f, by rw [hr.n]; exact hr.so, by rw [hr.n]; exact hr.t, hr.len, hr.u64, hr.val, hr.bl⟩
def RefSealPost (lo : Nat) (w : World) (rb : Nat) (B : Bf) (R : Rb) (n : Int) (e : Ending) (w' : World) : Prop :=
  RbPost lo w rb (.int .i64 (B.sealE n)) { R with n := (B.seal n).n } e w' ∧ Rel (B.seal n) { R with n := (B.seal n).n }

set_option maxHeartbeats 4000000 in
set_option maxRecDepth 100000 in
theorem rseal_calls (lo rb : Nat) (B : Bf) (R : Rb) (hr : Rel B R) (n : Int) (w : World) (h : RbAt lo w rb R) :
    Calls Try.prog 26 #[.pointer (some ⟨rb, 0, none⟩), .int .i64 n] w (RefSealPost lo w rb B R n) := by
  have hh := fun W h => rhas_calls lo rb B R hr W h
  have h0 := h
  have hbad : B.sealE n ≠ 0 → ∀ w', Ext w w' → RefSealPost lo w rb B R n (.returned (.int .i64 (B.sealE n))) w' := fun he w' hx => by
    have hs : B.seal n = B := by unfold Bf.seal; rw [if_neg he]
    refine ⟨⟨rfl, Lib.hid ?_, Chg.of_ext hx⟩, rel_seal hr n⟩
    rw [hs, hr.n]
    exact h0.ext hx
  obtain ⟨e0, e1, e2, e3, e4⟩ := hr.ends
  obtain ⟨A5, c5, hb, hrl, hI, hA5⟩ := h
  have r0 : w.cell? ⟨rb, 0, none⟩ = some (.int .i64 R.no) := by rw [cell_of_block hb]; rfl
  have r1 : w.cell? ⟨rb, 1, none⟩ = some (.int .i64 R.u) := by rw [cell_of_block hb]; rfl
  have r2 : w.cell? ⟨rb, 2, none⟩ = some (.int .i64 R.n) := by rw [cell_of_block hb]; rfl
  have fz0 : w.frozen? ⟨rb, 2, none⟩ = false := frozen_of_block hb 2
  have hrw : rb < w.heap.size := (Array.getElem?_eq_some_iff.1 hb).1
  have hgood : B.sealE n = 0 → ∀ w', Ext w w' → RefSealPost lo w rb B R n (.returned (.int .i64 0)) (w'.setCell ⟨rb, 2, none⟩ (.int .i64 n)) := fun he w' hx => by
    have hs : (B.seal n).n = n := by unfold Bf.seal; rw [if_pos he]
    refine ⟨⟨by rw [he], Lib.hid ⟨A5, c5, ?_, hrl, fun k hk => ?_, hA5⟩, (Chg.of_ext hx).trans (Chg.setCell _ (Nat.le_refl _) (Nat.lt_succ_self _))⟩, rel_seal hr n⟩
    · rw [heap_setCell_same _ _ _ _ _ _ (hx.block hb)]
      show _ = some (Obj.cells #[.int .i64 R.no, .int .i64 R.u, .int .i64 (B.seal n).n, .slice A5 R.bs.length c5] _ _)
      rw [hs]
      rfl
    · obtain ⟨b, o, e, hc⟩ := hI k hk
      refine ⟨b, o, e, (World.cell?_setCell_far _ _ _ _ ?_).trans (hx.cell hc)⟩
      exact fun e2 => (hA5 b o e (by show 0 < R.bs.length; have hk' : k < R.bs.length := hk; omega)).2 e2.symm
  have hE : B.sealE n = if n < 0 ∨ 1099511627776 < n ∨ n ≤ B.f then 1 else if (firstS B.hs n).isSome = true then 1 else if B.n ≠ -1 ∧ B.n ≠ n then 11 else 0 := rfl
  have hf := hr.f
  have hn := hr.n
  have hln := length_of hr
  have hnorm := hr.ok.norm
  have hhl := hr.ok.hlen
  have hwm : IntKind.i64.wrap (R.no * R.u) = B.f := by rw [← hf]; exact IntWalk.i64_in _ (by omega)
  rw [hn] at hE
  have HBAD := Lib.hid hbad
  have HGOOD := Lib.hid hgood
  have HH := Lib.hid (And.intro hh h0)
  clear hh h0 hbad hgood hr hb hI hA5 hf hn
  generalize R.no = rno at *
  generalize R.u = ru at *
  generalize R.n = rn at *
  obtain ⟨F, hF⟩ : ∃ F, B.f = F := ⟨_, rfl⟩
  rw [hF] at hwm hE
  by_cases c1 : n < 0
  · rw [if_pos (.inl c1)] at hE
    rw [hE] at HBAD
    have HB := Lib.hid (HBAD.out (by decide))
    have d1 : decide (n < 0) = true := decide_eq_true c1
    clear hE HBAD HGOOD HH
    go_enter Try.func26, Try.ntmps26
    go_wp2
    refine wp_region_ext_lit (by kernel_rfl) (by kernel_rfl) ?_
    intro X _ g hg hg'
    repeat (go_big_quiet_step ((go_at_call 38; exact (most_calls _).mono fun e w2 ⟨he, hw⟩ => ⟨he, _, hw.symm⟩)))
    refine wpQuiet_nil ?_
    rintro w' ⟨k, rfl⟩
    have hxg := hg k
    clear hg hg'
    go_wp2
    go_ret
    exact HB.out _ hxg
  · have d1 : decide (n < 0) = false := decide_eq_false c1
    by_cases c2 : 1099511627776 < n
    · rw [if_pos (.inr (.inl c2))] at hE
      rw [hE] at HBAD
      have HB := Lib.hid (HBAD.out (by decide))
      have d2 : decide (1099511627776 < n) = true := decide_eq_true c2
      clear hE HBAD HGOOD HH
      go_enter Try.func26, Try.ntmps26
      go_wp2
      refine wp_region_ext_lit (by kernel_rfl) (by kernel_rfl) ?_
      intro X _ g hg hg'
      repeat (go_big_quiet_step ((go_at_call 38; exact (most_calls _).mono fun e w2 ⟨he, hw⟩ => ⟨he, _, hw.symm⟩)))
      refine wpQuiet_nil ?_
      rintro w' ⟨k, rfl⟩
      have hxg := hg k
      clear hg hg'
      go_wp2
      go_ret
      exact HB.out _ hxg
    · have d2 : decide (1099511627776 < n) = false := decide_eq_false c2
      by_cases c3 : n ≤ F
      · rw [if_pos (.inr (.inr c3))] at hE
        rw [hE] at HBAD
        have HB := Lib.hid (HBAD.out (by decide))
        have d3 : decide (n ≤ F) = true := decide_eq_true c3
        clear hE HBAD HGOOD HH
        go_enter Try.func26, Try.ntmps26
        go_wp2
        refine wp_region_ext_lit (by kernel_rfl) (by kernel_rfl) ?_
        intro X _ g hg hg'
        have k0 : ∀ n, (g n).cell? ⟨rb, 0, none⟩ = some (.int .i64 rno) := fun n => (hg n).cell r0
        have k1 : ∀ n, (g n).cell? ⟨rb, 1, none⟩ = some (.int .i64 ru) := fun n => (hg n).cell r1
        repeat (go_big_quiet_step ((go_at_call 38; exact (most_calls _).mono fun e w2 ⟨he, hw⟩ => ⟨he, _, hw.symm⟩)))
        refine wpQuiet_nil ?_
        rintro w' ⟨k, rfl⟩
        have hxg := hg k
        clear hg hg' k0 k1
        go_wp2
        go_ret
        exact HB.out _ hxg
      · rw [if_neg (by omega)] at hE
        have d3 : decide (n ≤ F) = false := decide_eq_false c3
        have HEE := Lib.hid hE
        clear hE
        go_enter Try.func26, Try.ntmps26
        go_wp2
        refine wp_region_ext_lit (by kernel_rfl) (by kernel_rfl) ?_
        intro X _ g hg hg'
        have k0 : ∀ n, (g n).cell? ⟨rb, 0, none⟩ = some (.int .i64 rno) := fun n => (hg n).cell r0
        have k1 : ∀ n, (g n).cell? ⟨rb, 1, none⟩ = some (.int .i64 ru) := fun n => (hg n).cell r1
        repeat (go_big_quiet_step ((go_at_call 38; exact (most_calls _).mono fun e w2 ⟨he, hw⟩ => ⟨he, _, hw.symm⟩)))
        refine wpQuiet_nil ?_
        rintro w' ⟨k, rfl⟩
        have hxg := hg k
        clear hg hg' k0 k1
        generalize g k = w1 at *
        go_wp2_with fail
        refine (HH.out.1 _ (HH.out.2.ext hxg)).mono ?_
        rintro e w2 ⟨v, rfl, hown, hx2⟩
        obtain ⟨A2, c2', rfl, _⟩ := own_shape hown
        have hxw := hxg.trans hx2
        have q2 := hxw.cell r2
        have f2 : w2.frozen? ⟨rb, 2, none⟩ = false := (hxw.frozen (p := ⟨rb, 2, none⟩) hrw).trans fz0
        clear HH hxg hx2 r0 r1 r2 fz0
        obtain ⟨L, hL⟩ : ∃ L, B.hs = L := ⟨_, rfl⟩
        rw [hL] at HEE hown hnorm ⊢
        have HL := Lib.hid hL
        clear hL
        rcases List.eq_nil_or_concat L with rfl | ⟨L0, q, rfl⟩
        · have HEE2 : Hid (B.sealE n = if rn ≠ -1 ∧ rn ≠ n then 11 else 0) := Lib.hid HEE.out
          clear HEE hown
          by_cases c4 : rn = -1
          · have hE0 : B.sealE n = 0 := by rw [HEE2.out, if_neg (by omega)]
            have HG := Lib.hid (HGOOD.out hE0)
            subst c4
            clear hE0 HGOOD HBAD HEE2
            go_wp2_with fail
            go_ret
            exact HG.out _ hxw
          · by_cases c5 : rn = n
            · have hE0 : B.sealE n = 0 := by rw [HEE2.out, if_neg (by omega)]
              have HG := Lib.hid (HGOOD.out hE0)
              subst c5
              have b1 : (rn != rn) = false := by simp
              have b2 : 0 ≤ rn := by omega
              clear hE0 HGOOD HBAD HEE2
              go_wp2_with fail
              go_ret
              exact HG.out _ hxw
            · have hE0 : B.sealE n = 11 := by rw [HEE2.out, if_pos ⟨c4, c5⟩]
              rw [hE0] at HBAD
              have HB := Lib.hid (HBAD.out (by decide))
              have b1 : (rn != n) = true := by simpa using c5
              have b2 : 0 ≤ rn := by omega
              clear hE0 HGOOD HBAD HEE2 c5
              go_wp2_with fail
              go_ret
              exact HB.out _ hxw
        · rw [List.concat_eq_append] at *
          have hlq : (L0 ++ [q]).length = L0.length + 1 := by simp
          have hfl := first_last hnorm n
          rw [hfl] at HEE
          have hl64 : L0.length ≤ 1000000 := by
            have h1 := hhl
            rw [HL.out, List.length_append, List.length_singleton] at h1
            omega
          generalize hm : L0.length = m at *
          generalize (L0 ++ [q]).length = n0 at *
          subst hlq
          obtain ⟨gb, cap, hvv, hgb1, _⟩ := hown.form (by omega)
          cases hvv
          have hq1 : w2.cell? ⟨gb, m * 2 + 1, none⟩ = some (.int .i64 q.t) := by rw [hown.cellAt _ (by omega), ← hm]; exact spans_at L0 q 1
          have m0 : (0 : Int) ≤ (m : Int) := by omega
          clear hm hown hfl
          by_cases hqn : n < q.t
          · have hE0 : B.sealE n = 1 := by rw [HEE.out, if_pos (by simpa using hqn)]
            rw [hE0] at HBAD
            have HB := Lib.hid (HBAD.out (by decide))
            have d4 : decide (n < q.t) = true := decide_eq_true hqn
            clear hE0 HGOOD HBAD HEE
            go_wp2_with fail
            go_ret
            exact HB.out _ hxw
          · have HEE2 : Hid (B.sealE n = if rn ≠ -1 ∧ rn ≠ n then 11 else 0) := Lib.hid (by rw [HEE.out, if_neg (by simpa using hqn)])
            have d4 : decide (n < q.t) = false := decide_eq_false hqn
            clear HEE
            by_cases c4 : rn = -1
            · have hE0 : B.sealE n = 0 := by rw [HEE2.out, if_neg (by omega)]
              have HG := Lib.hid (HGOOD.out hE0)
              subst c4
              clear hE0 HGOOD HBAD HEE2
              go_wp2_with fail
              go_ret
              exact HG.out _ hxw
            · by_cases c5 : rn = n
              · have hE0 : B.sealE n = 0 := by rw [HEE2.out, if_neg (by omega)]
                have HG := Lib.hid (HGOOD.out hE0)
                subst c5
                have b1 : (rn != rn) = false := by simp
                have b2 : 0 ≤ rn := by omega
                clear hE0 HGOOD HBAD HEE2
                go_wp2_with fail
                go_ret
                exact HG.out _ hxw
              · have hE0 : B.sealE n = 11 := by rw [HEE2.out, if_pos ⟨c4, c5⟩]
                rw [hE0] at HBAD
                have HB := Lib.hid (HBAD.out (by decide))
                have b1 : (rn != n) = true := by simpa using c5
                have b2 : 0 ≤ rn := by omega
                clear hE0 HGOOD HBAD HEE2 c5
                go_wp2_with fail
                go_ret
                exact HB.out _ hxw
end Go.Proofs.Ytoahjhkfnchdhaa
