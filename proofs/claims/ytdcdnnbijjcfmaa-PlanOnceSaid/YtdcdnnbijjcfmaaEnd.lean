/- The contracts of plan.wasted and plan.end. -/
import Derived.Test.YtdcdnnbijjcfmaaChe
import Derived.Deep.Cut
import Derived.Deep.CutRange
namespace Go.Proofs.Ytdcdnnbijjcfmaa
open Go.RowKit

/-- How much lies between the spans up to number k. -/
def wst (l : List Sp) : Nat → Int
  | 0 => 0
  | k + 1 => wst l k + ((l.getD (k + 1) default).f - (l.getD k default).t)
theorem wst_succ {l : List Sp} {k : Nat} (h : k + 1 < l.length) : wst l (k + 1) = wst l k + (l[k + 1].f - l[k].t) := by
  show wst l k + _ = _
  have h2 : k < l.length := by omega
  simp [List.getD_eq_getElem?_getD, h, h2]
theorem wst_bound {l : List Sp} (hn : Norm l) : ∀ k, (h : k < l.length) → 0 ≤ wst l k ∧ wst l k ≤ l[k].f := by
  intro k
  induction k with
  | zero => intro h; exact ⟨Int.le_refl _, (hn.get h).1⟩
  | succ k ih =>
    intro h
    have h1 := ih (by omega)
    have h2 := hn.get (show k < l.length by omega)
    have h3 := hn.lt (show k < k + 1 by omega) h
    rw [wst_succ h]
    omega

set_option maxHeartbeats 1000000 in
set_option maxRecDepth 100000 in
theorem wasted_calls (A : Option Addr) (c : Nat) (l : List Sp) (w : World) (h : SAt w A l) (hn : Norm l) (hl : l.length ≤ 1000000) (h0 : 0 < l.length) :
    Calls Try.prog 59 #[.slice A l.length c] w fun e w' => e = .returned (.int .i64 (wst l (l.length - 1))) ∧ Ext w w' := by
  go_enter Try.func59, Try.ntmps59
  go_wp2
  go_loopw [3, 4] (fun n i wr => ∃ k : Nat, k < l.length ∧ i = .int .i64 ((k + 1 : Nat) : Int) ∧ n = .int .i64 (wst l k) ∧ Ext w wr) (fun _ i _ => l.length + 1 - (intOf i).toNat)
  case atStart => exact ⟨0, h0, rfl, rfl, Ext.refl w⟩
  case round =>
    obtain ⟨k, hk, rfl, rfl, hx⟩ := hrel
    by_cases hlt : k + 1 < l.length
    · obtain ⟨b, o, rfl, p0, p1⟩ := h.ext hx k hk
      obtain ⟨b', o', e', q0, q1⟩ := h.ext hx (k + 1) hlt
      cases e'
      have hb := wst_bound hn k hk
      have hb2 := wst_bound hn (k + 1) hlt
      have hs := wst_succ hlt
      have g1 := hn.get hk
      have g2 := hn.get hlt
      have hg3 := hn.lt (show k < k + 1 by omega) hlt
      generalize l[k] = s at *
      generalize l[k + 1] = u at *
      generalize wst l k = n at *
      have HS := Lib.hid hs
      have i0 : (0 : Int) ≤ ((k + 1 : Nat) : Int) := by omega
      have i1 : ((k + 1 : Nat) : Int) < (l.length : Int) := by omega
      clear hs h
      obtain ⟨g1a, g1b, g1c⟩ := g1
      obtain ⟨g2a, g2b, g2c⟩ := g2
      obtain ⟨hb0, hb1⟩ := hb
      obtain ⟨hb3, hb4⟩ := hb2
      have i2 : ((k + 1 : Nat) : Int) - 1 = (k : Int) := by omega
      have i3 : (0 : Int) ≤ (k : Int) := by omega
      have i4 : (k : Int) < (l.length : Int) := by omega
      go_wp2
      refine wp_region_ext_lit (by kernel_rfl) (by kernel_rfl) ?_
      intro X _ g hg hg'
      have k1 : ∀ n, (g n).cell? ⟨b, o + k * 2 + 1, none⟩ = some (.int .i64 s.t) := fun n => (hg n).cell p1
      have k2 : ∀ n, (g n).cell? ⟨b, o + (k + 1) * 2, none⟩ = some (.int .i64 u.f) := fun n => (hg n).cell q0
      repeat (go_big_quiet_step (fail))
      refine wpQuiet_nil ?_
      rintro w' ⟨m', rfl⟩
      have hxg := hg m'
      clear hg hg' k1 k2
      go_wp2
      go_roundw
      case rel => exact ⟨k + 1, hlt, by go_num, by rw [HS.out], hx.trans hxg⟩
      case measure => simp [intOf]; omega
    · obtain rfl : k = l.length - 1 := by omega
      clear h
      have e1 : ((l.length - 1 + 1 : Nat) : Int) = l.length := by omega
      rw [e1]
      go_wp2
      go_ret
      exact ⟨rfl, hx⟩
/-- Where a fetch from from on ends, span by span. -/
def endGo (l : List Sp) (from_ free waste M most : Int) : Nat → Nat → Int → Int
  | 0, _, to_ => to_
  | n + 1, i, to_ => let s := l.getD i default
    if s.f > free ∨ wst l i > waste then to_ else if s.t - from_ ≤ M then endGo l from_ free waste M most n (i + 1) s.t else if most > s.f then most else to_
def mostI (from_ M u : Int) : Int := from_ + min M 4611686018427387904 / u * u
def endC (l : List Sp) (free : Int) (c : Cf) : Int :=
  let from_ := (l.getD 0 default).f
  if (l.getD (l.length - 1) default).t = 4611686018427387904 ∧ free = 4611686018427387904 ∧ wst l (l.length - 1) ≤ c.wa then 4611686018427387904
  else endGo l from_ free c.wa c.mo (mostI from_ c.mo c.u) l.length 0 from_

set_option maxHeartbeats 4000000 in
set_option maxRecDepth 100000 in
theorem endp_calls (A : Option Addr) (ca : Nat) (l : List Sp) (free : Int) (c : Cf) (w : World) (h : SAt w A l) (hn : Norm l) (hl : l.length ≤ 1000000) (h0 : 0 < l.length) (hu : 4 ≤ c.u) (hu2 : c.u ≤ 1048576) (hm : c.u ≤ c.mo) (hw : 0 ≤ c.wa) (_hf0 : 0 ≤ free) :
    Calls Try.prog 33 #[.slice A l.length ca, .int .i64 free, .agg c.cells.toArray] w fun e w' => e = .returned (.int .i64 (endC l free c)) ∧ Ext w w' := by
  obtain ⟨u, wa, mo, r3, r4, r5, r6, r7, r8, r9⟩ := c
  simp only at hu hu2 hm hw
  show Calls Try.prog 33 #[.slice A l.length ca, .int .i64 free, .agg #[.int .i64 u, .int .i64 wa, .int .i64 mo, .int .i64 r3, .int .i64 r4, .int .i64 r5, .int .i64 r6, .int .i64 r7, .int .i64 r8, .int .i64 r9]] w _
  obtain ⟨b, o, rfl, hp⟩ := h.at_ h0
  have hla : l.length - 1 < l.length := by omega
  obtain ⟨p0, _⟩ := hp 0 h0
  rw [Nat.zero_mul, Nat.add_zero] at p0
  obtain ⟨_, pl⟩ := hp (l.length - 1) hla
  have hd : endC l free ⟨u, wa, mo, r3, r4, r5, r6, r7, r8, r9⟩ = if l[l.length - 1].t = 4611686018427387904 ∧ free = 4611686018427387904 ∧ wst l (l.length - 1) ≤ wa then 4611686018427387904 else endGo l l[0].f free wa mo (mostI l[0].f mo u) l.length 0 l[0].f := by
    unfold endC
    simp only [List.getD_eq_getElem?_getD, List.getElem?_eq_getElem h0, List.getElem?_eq_getElem hla, Option.getD_some]
  have hx0 : Ext w (w.alloc (.cells #[.int .i64 u, .int .i64 wa, .int .i64 mo, .int .i64 r3, .int .i64 r4, .int .i64 r5, .int .i64 r6, .int .i64 r7, .int .i64 r8, .int .i64 r9] 24)) := (Ext.refl w).alloc _
  have k0 : (w.alloc (.cells #[.int .i64 u, .int .i64 wa, .int .i64 mo, .int .i64 r3, .int .i64 r4, .int .i64 r5, .int .i64 r6, .int .i64 r7, .int .i64 r8, .int .i64 r9] 24)).cell? ⟨w.heap.size, 0, none⟩ = some (.int .i64 u) := by simp [go_sem]
  have k1 : (w.alloc (.cells #[.int .i64 u, .int .i64 wa, .int .i64 mo, .int .i64 r3, .int .i64 r4, .int .i64 r5, .int .i64 r6, .int .i64 r7, .int .i64 r8, .int .i64 r9] 24)).cell? ⟨w.heap.size, 1, none⟩ = some (.int .i64 wa) := by simp [go_sem]
  have k2 : (w.alloc (.cells #[.int .i64 u, .int .i64 wa, .int .i64 mo, .int .i64 r3, .int .i64 r4, .int .i64 r5, .int .i64 r6, .int .i64 r7, .int .i64 r8, .int .i64 r9] 24)).cell? ⟨w.heap.size, 2, none⟩ = some (.int .i64 mo) := by simp [go_sem]
  have p0' := hx0.cell p0
  have pl' := hx0.cell pl
  have HWC := Lib.hid (fun W (hW : SAt W (some ⟨b, o, none⟩) l) => wasted_calls (some ⟨b, o, none⟩) ca l W hW hn hl h0)
  have HSA := Lib.hid (h.ext hx0)
  have hg0 := hn.get h0
  have hgl := hn.get hla
  have hwb := wst_bound hn (l.length - 1) hla
  have i0 : (0 : Int) < (l.length : Int) := by omega
  have i1 : (0 : Int) ≤ (l.length : Int) - 1 := by omega
  have i2 : ((l.length : Int) - 1).toNat = l.length - 1 := by omega
  have i3 : (l.length : Int) - 1 < l.length := by omega
  generalize endC l free ⟨u, wa, mo, r3, r4, r5, r6, r7, r8, r9⟩ = R at *
  have HD := Lib.hid hd
  have HN := Lib.hid hn
  clear hd hp h p0 pl hn
  generalize l[0].f = from_ at *
  generalize l[l.length - 1].t = last at *
  have hz : w.heap.size < (w.alloc (.cells #[.int .i64 u, .int .i64 wa, .int .i64 mo, .int .i64 r3, .int .i64 r4, .int .i64 r5, .int .i64 r6, .int .i64 r7, .int .i64 r8, .int .i64 r9] 24)).heap.size := by simp
  obtain ⟨bq, hbq⟩ : ∃ bq, (decide (last = 4611686018427387904) && decide (free = 4611686018427387904) && decide (wst l (l.length - 1) ≤ wa)) = bq := ⟨_, rfl⟩
  generalize wst l (l.length - 1) = wl at *
  have HBQ := Lib.hid hbq
  clear hbq
  obtain ⟨g1, g2, g3⟩ := hg0
  obtain ⟨m1, m2⟩ := hwb
  go_enter Try.func33, Try.ntmps33
  go_upto_region 2 with (fail)
  generalize (w.alloc (.cells #[.int .i64 u, .int .i64 wa, .int .i64 mo, .int .i64 r3, .int .i64 r4, .int .i64 r5, .int .i64 r6, .int .i64 r7, .int .i64 r8, .int .i64 r9] 24)) = wb at *
  go_cut [33] from 21 to 33 (fun v wx => v = .bool bq ∧ Ext wb wx)
  case first =>
    cases e1 : (last == 4611686018427387904)
    · have HB2 : Hid (bq = false) := Lib.hid (by rw [← HBQ.out]; simp at e1; simp [e1])
      refine wp_region_ext_lit (by kernel_rfl) (by kernel_rfl) ?_
      intro X _ g hg hg'
      repeat (go_big_quiet_step (fail))
      refine wpQuiet_nil ?_
      rintro w' ⟨m', rfl⟩
      go_wp2
      go_meet
      exact ⟨by rw [HB2.out], hg m'⟩
    · cases e2 : (free == 4611686018427387904)
      · have HB2 : Hid (bq = false) := Lib.hid (by rw [← HBQ.out]; simp at e2; simp [e2])
        refine wp_region_ext_lit (by kernel_rfl) (by kernel_rfl) ?_
        intro X _ g hg hg'
        repeat (go_big_quiet_step (fail))
        refine wpQuiet_nil ?_
        rintro w' ⟨m', rfl⟩
        go_wp2
        go_meet
        exact ⟨by rw [HB2.out], hg m'⟩
      · have HB2 : Hid (bq = decide (wl ≤ wa)) := Lib.hid (by rw [← HBQ.out]; simp at e1 e2; simp [e1, e2])
        refine wp_region_ext_lit (by kernel_rfl) (by kernel_rfl) ?_
        intro X _ g hg hg'
        have q1 : ∀ n, (g n).cell? ⟨w.heap.size, 1, none⟩ = some (.int .i64 wa) := fun n => (hg n).cell k1
        repeat (go_big_quiet_step ((go_at_call 59; exact (HWC.out _ (HSA.out.ext (hg _))).mono fun e w2 ⟨he, hx⟩ => ⟨he, hg' _ ((hg _).trans hx)⟩)))
        refine wpQuiet_nil ?_
        rintro w' ⟨m', rfl⟩
        go_wp2
        go_meet
        exact ⟨by rw [HB2.out], hg m'⟩
  case rest =>
    obtain ⟨rfl, hxc⟩ := hcut
    replace k0 := hxc.cell k0
    replace k1 := hxc.cell k1
    replace k2 := hxc.cell k2
    replace p0' := hxc.cell p0'
    have hx1 := hx0.trans hxc
    replace HSA := Lib.hid (HSA.out.ext hxc)
    clear hx0 hxc HWC pl'
    cases bq
    · have HD2 : Hid (R = endGo l from_ free wa mo (mostI from_ mo u) l.length 0 from_) := Lib.hid (by rw [HD.out]; exact if_neg (fun ⟨a, b, c⟩ => by have := HBQ.out; simp [a, b, c] at this))
      clear HD HBQ
      have hu0 : u ≠ 0 := by omega
      have v1 : 0 ≤ min mo 4611686018427387904 := by omega
      have v2 : 0 ≤ min mo 4611686018427387904 / u := Int.ediv_nonneg v1 (by omega)
      have v3 : min mo 4611686018427387904 / u * u ≤ min mo 4611686018427387904 := Int.ediv_mul_le _ hu0
      have v4 : 0 ≤ min mo 4611686018427387904 / u * u := Int.mul_nonneg v2 (by omega)
      have v5 : min mo 4611686018427387904 ≤ 4611686018427387904 := by omega
      have v6 : min mo 4611686018427387904 / u ≤ min mo 4611686018427387904 := Int.ediv_le_self _ v1
      have HM : Hid (mostI from_ mo u = from_ + min mo 4611686018427387904 / u * u) := Lib.hid rfl
      go_wp2
      go_region
      rw [← HM.out]
      have hmb : 0 ≤ mostI from_ mo u ∧ mostI from_ mo u ≤ 9223372036854775807 := by rw [HM.out]; omega
      generalize mostI from_ mo u = most at *
      have hxd : Ext wb.drew wc.drew ∨ True := .inr trivial
      have hx2 := hx1.drew
      have hxa : Ext wc wc.drew := (Ext.refl wc).drew
      replace k1 := hxa.cell k1
      replace k2 := hxa.cell k2
      replace HSA := Lib.hid (HSA.out.ext hxa)
      clear hxd hx1 hxa k0 p0' v1 v2 v3 v4 v5 v6 HM
      generalize wc.drew = w5 at *
      obtain ⟨mb1, mb2⟩ := hmb
      go_wp2
      go_loopw [10, 11, 53] (fun t wa' i wr => ∃ (k : Nat) (t' : Int), k ≤ l.length ∧ i = .int .i64 k ∧ t = .int .i64 t' ∧ wa' = .int .i64 (wst l (k - 1)) ∧ Hid (endGo l from_ free wa mo most (l.length - k) k t' = R) ∧ Ext w5 wr) (fun _ _ i _ => l.length - (intOf i).toNat)
      case atStart => exact ⟨0, from_, Nat.zero_le _, rfl, rfl, rfl, Lib.hid (by rw [HD2.out]; rfl), Ext.refl _⟩
      case round =>
        obtain ⟨k, t, hk, rfl, rfl, rfl, HG, hx⟩ := hrel
        by_cases hlt : k < l.length
        · obtain ⟨b', o', e', p0, p1⟩ := HSA.out.ext hx k hlt
          cases e'
          have hwk := wst_bound HN.out k hlt
          have hgk := HN.out.get hlt
          have hGs : endGo l from_ free wa mo most (l.length - k) k t = (if l[k].f > free ∨ wst l k > wa then t else if l[k].t - from_ ≤ mo then endGo l from_ free wa mo most (l.length - (k + 1)) (k + 1) l[k].t else if most > l[k].f then most else t) := by
            rw [show l.length - k = (l.length - (k + 1)) + 1 by omega]
            show (if (l.getD k default).f > free ∨ wst l k > wa then t else if (l.getD k default).t - from_ ≤ mo then endGo l from_ free wa mo most (l.length - (k + 1)) (k + 1) (l.getD k default).t else if most > (l.getD k default).f then most else t) = _
            simp only [List.getD_eq_getElem?_getD, List.getElem?_eq_getElem hlt, Option.getD_some]
          rw [HG.out] at hGs
          have hgl2 := hgk
          have HPREV : Hid (∀ j, (hj : j + 1 = k) → ∃ q, l[j] = q ∧ wst l k = wst l j + (l[k].f - q.t) ∧ 0 ≤ wst l j ∧ wst l j ≤ q.f ∧ 0 ≤ q.f ∧ q.f < q.t ∧ q.t < l[k].f) := Lib.hid fun j hj => by
            subst hj
            have b1 := wst_bound HN.out j (by omega)
            have b2 := HN.out.get (show j < l.length by omega)
            exact ⟨l[j], rfl, wst_succ hlt, b1.1, b1.2, b2.1, b2.2.1, HN.out.lt (by omega) hlt⟩
          generalize l[k] = s at *
          obtain ⟨gs1, gs2, gs3⟩ := hgk
          obtain ⟨wk1, wk2⟩ := hwk
          have HGS := Lib.hid hGs
          clear hGs HG hgl2
          replace k1' := hx.cell k1
          replace k2' := hx.cell k2
          obtain ⟨be, hbe⟩ : ∃ be, decide ((0 : Int) < (k : Int)) = be := ⟨_, rfl⟩
          go_upto_if 59 with (fail)
          have HBE := Lib.hid hbe
          clear hbe
          have hxs : Ext wr (wr.alloc (.cells #[.int .i64 s.f, .int .i64 s.t] 48)) := (Ext.refl wr).alloc _
          have d0 : (wr.alloc (.cells #[.int .i64 s.f, .int .i64 s.t] 48)).cell? ⟨wr.heap.size, 0, none⟩ = some (.int .i64 s.f) := by simp
          have d1 : (wr.alloc (.cells #[.int .i64 s.f, .int .i64 s.t] 48)).cell? ⟨wr.heap.size, 1, none⟩ = some (.int .i64 s.t) := by simp
          have hSs : Hid (SAt (wr.alloc (.cells #[.int .i64 s.f, .int .i64 s.t] 48)) (some ⟨b, o, none⟩) l) := Lib.hid (HSA.out.ext (hx.trans hxs))
          replace k1' := hxs.cell k1'
          replace k2' := hxs.cell k2'
          replace hx := hx.trans hxs
          clear p0 p1 hxs
          generalize wr.alloc (.cells #[.int .i64 s.f, .int .i64 s.t] 48) = ws at *
          generalize wr.heap.size = xb at *
          obtain ⟨pw, hpw⟩ : ∃ pw, wst l (k - 1) = pw := ⟨_, rfl⟩
          rw [hpw]
          have HPW := Lib.hid hpw
          obtain ⟨cw, hcw⟩ : ∃ cw, wst l k = cw := ⟨_, rfl⟩
          rw [hcw] at HGS HPREV wk1 wk2
          have HCW := Lib.hid hcw
          clear hpw hcw
          go_cut [11] from 58 to 70 (fun v wx => v = .int .i64 cw ∧ Ext ws wx)
          case first =>
            cases be
            · have hk0 : k = 0 := by have := HBE.out; simp at this; omega
              have HPC : Hid (pw = cw) := Lib.hid (by rw [← HPW.out, ← HCW.out, hk0])
              go_wp2
              go_meet
              exact ⟨by rw [HPC.out], Ext.refl _⟩
            · obtain ⟨j, rfl⟩ : ∃ j, k = j + 1 := ⟨k - 1, by have := HBE.out; simp at this; omega⟩
              obtain ⟨q, hq, hq1, hq2, hq3, hq4, hq5, hq6⟩ := HPREV.out j rfl
              obtain ⟨b', o', e', _, p1⟩ := hSs.out j (by omega)
              cases e'
              rw [hq] at p1
              have HPC : Hid (pw = wst l j ∧ cw = pw + (s.f - q.t)) := Lib.hid (by have := HPW.out; rw [Nat.add_sub_cancel] at this; exact ⟨this.symm, by rw [hq1, this]⟩)
              obtain ⟨e1, e2⟩ := HPC.out
              rw [← e1] at hq2 hq3
              have j1 : ((j + 1 : Nat) : Int) - 1 = (j : Int) := by omega
              have j2 : (0 : Int) ≤ (j : Int) := by omega
              have j3 : (j : Int) < (l.length : Int) := by omega
              clear HPREV HGS hq1 hq HPW HCW e1 e2
              go_wp2
              refine wp_region_ext_lit (by kernel_rfl) (by kernel_rfl) ?_
              intro X _ g hg hg'
              have c1 : ∀ n, (g n).cell? ⟨b, o + j * 2 + 1, none⟩ = some (.int .i64 q.t) := fun n => (hg n).cell p1
              have c2 : ∀ n, (g n).cell? ⟨xb, 0, none⟩ = some (.int .i64 s.f) := fun n => (hg n).cell d0
              repeat (go_big_quiet_step (fail))
              refine wpQuiet_nil ?_
              rintro w' ⟨m', rfl⟩
              have hxg := hg m'
              clear hg hg' c1 c2
              go_wp2
              go_meet
              exact ⟨by rw [HPC.out.2], hxg⟩
          case rest =>
            obtain ⟨rfl, hxc⟩ := hcut
            replace d0 := hxc.cell d0
            replace d1 := hxc.cell d1
            replace k1' := hxc.cell k1'
            replace k2' := hxc.cell k2'
            replace hx := hx.trans hxc
            have HCW2 : Hid (cw = wst l (k + 1 - 1)) := Lib.hid (by rw [Nat.add_sub_cancel]; exact HCW.out.symm)
            clear hxc hSs HPREV HPW
            by_cases c1 : s.f > free
            · have HG : Hid (R = t) := Lib.hid (by rw [HGS.out, if_pos (.inl c1)])
              clear HGS
              go_wp2
              go_ret
              exact ⟨by rw [HG.out]; rfl, hx2.trans hx⟩
            · by_cases c2 : cw > wa
              · have HG : Hid (R = t) := Lib.hid (by rw [HGS.out, if_pos (.inr c2)])
                clear HGS
                go_wp2
                go_ret
                exact ⟨by rw [HG.out]; rfl, hx2.trans hx⟩
              · have HG := HGS.out
                rw [if_neg (by omega)] at HG
                clear HGS
                by_cases c3 : s.t - from_ ≤ mo
                · rw [if_pos c3] at HG
                  have HG2 := Lib.hid HG.symm
                  clear HG
                  go_wp2
                  go_roundw
                  case rel => exact ⟨k + 1, s.t, by omega, by go_num, rfl, by rw [← HCW2.out], HG2, hx⟩
                  case measure => simp [intOf]; omega
                · rw [if_neg c3] at HG
                  by_cases c4 : most > s.f
                  · rw [if_pos c4] at HG
                    have HG2 := Lib.hid HG
                    clear HG
                    go_wp2
                    go_ret
                    exact ⟨by rw [HG2.out]; rfl, hx2.trans hx⟩
                  · rw [if_neg c4] at HG
                    have HG2 := Lib.hid HG
                    clear HG
                    go_wp2
                    go_ret
                    exact ⟨by rw [HG2.out]; rfl, hx2.trans hx⟩
        · obtain rfl : k = l.length := by omega
          rw [Nat.sub_self] at HG
          have HG2 : Hid (t = R) := HG
          clear HG
          go_wp2
          go_ret
          exact ⟨by rw [← HG2.out]; rfl, hx2.trans hx⟩
    · have HD2 : Hid (R = 4611686018427387904 ∧ last = 4611686018427387904) := Lib.hid (by have := HBQ.out; simp at this; obtain ⟨⟨a, b⟩, c⟩ := this; exact ⟨by rw [HD.out]; exact if_pos ⟨a, b, c⟩, a⟩)
      clear HD HBQ
      go_wp2
      go_ret
      exact ⟨by rw [HD2.out.1, HD2.out.2]; rfl, hx1⟩
end Go.Proofs.Ytdcdnnbijjcfmaa
