/- The contract of the reference's Fewest. -/
import Derived.Test.YtdcdnnbijjcfmaaFwp
import Derived.Deep.RegionHeld3
import Derived.Lib.MinMax
namespace Go.Proofs.Ytdcdnnbijjcfmaa
open Go.RowKit

/-- The best of so many ends. -/
def fewB (W F : List Sp) (n : Int) (c : Cf) (k : Nat) (L : List Sp) (from_ : Int) (l : List Int) : Int := l.foldl (fun b e => if fetchB ⟨from_, e⟩ W F n c then min b (1 + fewS W F n c k (lessS L (ofS [⟨from_, e⟩]))) else b) 1000
theorem fewB_snoc (W F : List Sp) (n : Int) (c : Cf) (k : Nat) (L : List Sp) (from_ : Int) (l : List Int) (e : Int) : fewB W F n c k L from_ (l ++ [e]) = if fetchB ⟨from_, e⟩ W F n c then min (fewB W F n c k L from_ l) (1 + fewS W F n c k (lessS L (ofS [⟨from_, e⟩]))) else fewB W F n c k L from_ l := by
  simp [fewB]
/-- What the call is to hand back for one end. -/
def FewArm (U F : List Sp) (n : Int) (c : Cf) (AU : Option Addr) (cu : Nat) (B : Option Addr) (d : Nat) (k : Nat) (L : List Sp) (e : Int) : Prop :=
  lessS L (ofS [⟨(L.headD default).f, e⟩]) = cutL L e ∧ ∃ m : Int, fewS U F n c k (cutL L e) = m ∧ 0 ≤ m ∧ m ≤ 900 ∧ ∀ (A : Option Addr) (ca : Nat) (w : World), SAt w AU U → SAt w B F → SAt w A (cutL L e) → Calls Try.prog 19 #[.slice AU U.length cu, .slice A (cutL L e).length ca, .slice B F.length d, .int .i64 n, .agg c.cells.toArray] w fun e w' => e = .returned (.int .i64 m) ∧ Ext w w'
set_option maxHeartbeats 8000000 in
set_option maxRecDepth 100000 in
theorem few_step (AU : Option Addr) (cu : Nat) (U : List Sp) (B : Option Addr) (d : Nat) (F : List Sp) (n : Int) (c : Cf) (hUN : Norm U) (hlU : U.length ≤ 60000) (hlF : F.length ≤ 100000) (k : Nat) (s : Sp) (l : List Sp) (AL : Option Addr) (cl : Nat) (w : World)
    (hU : SAt w AU U) (hF : SAt w B F) (hL : SAt w AL (s :: l)) (h : Pok (s :: l) F c (endI n)) (hlL : (s :: l).length ≤ 60000)
    (harm : ∀ e ∈ endsE s.f c.u (s :: l), FewArm U F n c AU cu B d k (s :: l) e) :
    Calls Try.prog 19 #[.slice AU U.length cu, .slice AL (s :: l).length cl, .slice B F.length d, .int .i64 n, .agg c.cells.toArray] w fun e w' => e = .returned (.int .i64 (fewS U F n c (k + 1) (s :: l))) ∧ Ext w w' := by
  have hx0 : Ext w (w.alloc (.cells c.cells.toArray 24)) := (Ext.refl w).alloc _
  have bC := heap_alloc_new w (.cells c.cells.toArray 24)
  have hRd : fewS U F n c (k + 1) (s :: l) = fewB U F n c k (s :: l) s.f (endsE s.f c.u (s :: l)) := rfl
  obtain ⟨hu1, hu2⟩ := unit_bound h.unit
  have hN := h.lok.norm
  have h0 : 0 < (s :: l).length := by simp
  have hgs := hN.get h0
  simp only [List.getElem_cons_zero] at hgs
  have hge : ∀ v ∈ (s :: l), v.f % c.u = 0 ∧ s.f ≤ v.f ∧ v.f ≤ 100 * c.u ∧ (v.t ≤ 100 * c.u ∨ v.t = 4611686018427387904) := fun v hv => ⟨h.lok.f v hv, by have := first_le hN h0 v hv; simpa using this, h.small v hv⟩
  have HENC := Lib.hid (fun W (hW : SAt W AL (s :: l)) => endsR_calls AL cl (s :: l) s.f c.u W hW hN hlL hu1 hu2 hge hgs.1)
  have hELl := (endsE_inv (from_ := s.f) hu1 hu2 (s :: l) hN hge).2.2.2.2
  have hLE := fun W v V (h1 : SAt W AL (s :: l)) (h2 : SAt W V [v]) => refLess_calls AL cl (s :: l) V 1 [v] W h1 h2 (by omega) (by simp)
  rw [of_norm hN] at hLE
  have HLE := Lib.hid hLE
  have HFE := Lib.hid (fun f t W (hA : SAt W AU U) (hB : SAt W B F) => fetch_calls f t AU cu U B d F n c W hA hB hUN (by omega) hlF hu1 hu2)
  have HARM : Hid (∀ e ∈ endsE s.f c.u (s :: l), lessS (s :: l) (ofS [⟨s.f, e⟩]) = cutL (s :: l) e ∧ FewArm U F n c AU cu B d k (s :: l) e) := Lib.hid fun e he => ⟨(harm e he).1, harm e he⟩
  clear harm hLE hge hN h0
  generalize fewS U F n c (k + 1) (s :: l) = R at *
  generalize hEl : endsE s.f c.u (s :: l) = EL at *
  replace hELl : EL.length ≤ 7000000 := by omega
  have HB0 : Hid (fewB U F n c k (s :: l) s.f [] = 1000) := Lib.hid rfl
  have HBS : Hid (∀ q (hq : q < EL.length), fewB U F n c k (s :: l) s.f (EL.take (q + 1)) = if fetchB ⟨s.f, EL[q]⟩ U F n c then min (fewB U F n c k (s :: l) s.f (EL.take q)) (1 + fewS U F n c k (lessS (s :: l) (ofS [⟨s.f, EL[q]⟩]))) else fewB U F n c k (s :: l) s.f (EL.take q)) := Lib.hid fun q hq => by
    rw [List.take_succ_eq_append_getElem hq, fewB_snoc]
  have HRD : Hid (R = fewB U F n c k (s :: l) s.f EL) := Lib.hid hRd
  have HFW : Hid (∀ q (hq : q < EL.length), ∃ m : Int, fewS U F n c k (lessS (s :: l) (ofS [⟨s.f, EL[q]⟩])) = m ∧ 0 ≤ m ∧ m ≤ 900 ∧ ∃ L' : List Sp, lessS (s :: l) (ofS [⟨s.f, EL[q]⟩]) = L' ∧ ∀ (A : Option Addr) (ca : Nat) (w : World), SAt w AU U → SAt w B F → SAt w A L' → Calls Try.prog 19 #[.slice AU U.length cu, .slice A L'.length ca, .slice B F.length d, .int .i64 n, .agg c.cells.toArray] w fun e w' => e = .returned (.int .i64 m) ∧ Ext w w') := Lib.hid fun q hq => by
    obtain ⟨a1, _, m, a2, a3, a4, a5⟩ := HARM.out EL[q] (List.getElem_mem hq)
    exact ⟨m, by rw [a1]; exact a2, a3, a4, _, a1, a5⟩
  clear hRd hEl HARM
  obtain ⟨u, wa, mo, r3, r4, r5, r6, r7, r8, r9⟩ := c
  simp only at hu1 hu2 HENC
  change Hid (∀ f t W, SAt W AU U → SAt W B F → Calls Try.prog 37 #[.agg #[.int .i64 f, .int .i64 t], .slice AU U.length cu, .slice B F.length d, .int .i64 n, .agg #[.int .i64 u, .int .i64 wa, .int .i64 mo, .int .i64 r3, .int .i64 r4, .int .i64 r5, .int .i64 r6, .int .i64 r7, .int .i64 r8, .int .i64 r9]] W fun e w' => e = .returned (.bool (fetchB ⟨f, t⟩ U F n ⟨u, wa, mo, r3, r4, r5, r6, r7, r8, r9⟩)) ∧ Ext W w') at HFE
  change Hid (∀ q (hq : q < EL.length), ∃ m : Int, fewS U F n ⟨u, wa, mo, r3, r4, r5, r6, r7, r8, r9⟩ k (lessS (s :: l) (ofS [⟨s.f, EL[q]⟩])) = m ∧ 0 ≤ m ∧ m ≤ 900 ∧ ∃ L' : List Sp, lessS (s :: l) (ofS [⟨s.f, EL[q]⟩]) = L' ∧ ∀ (A : Option Addr) (ca : Nat) (w : World), SAt w AU U → SAt w B F → SAt w A L' → Calls Try.prog 19 #[.slice AU U.length cu, .slice A L'.length ca, .slice B F.length d, .int .i64 n, .agg #[.int .i64 u, .int .i64 wa, .int .i64 mo, .int .i64 r3, .int .i64 r4, .int .i64 r5, .int .i64 r6, .int .i64 r7, .int .i64 r8, .int .i64 r9]] w fun e w' => e = .returned (.int .i64 m) ∧ Ext w w') at HFW
  change (w.alloc (.cells #[.int .i64 u, .int .i64 wa, .int .i64 mo, .int .i64 r3, .int .i64 r4, .int .i64 r5, .int .i64 r6, .int .i64 r7, .int .i64 r8, .int .i64 r9] 24)).heap[w.heap.size]? = some (.cells #[.int .i64 u, .int .i64 wa, .int .i64 mo, .int .i64 r3, .int .i64 r4, .int .i64 r5, .int .i64 r6, .int .i64 r7, .int .i64 r8, .int .i64 r9] 24 (0, 0)) at bC
  change Ext w (w.alloc (.cells #[.int .i64 u, .int .i64 wa, .int .i64 mo, .int .i64 r3, .int .i64 r4, .int .i64 r5, .int .i64 r6, .int .i64 r7, .int .i64 r8, .int .i64 r9] 24)) at hx0
  show Calls Try.prog 19 #[.slice AU U.length cu, .slice AL (s :: l).length cl, .slice B F.length d, .int .i64 n, .agg #[.int .i64 u, .int .i64 wa, .int .i64 mo, .int .i64 r3, .int .i64 r4, .int .i64 r5, .int .i64 r6, .int .i64 r7, .int .i64 r8, .int .i64 r9]] w fun e w' => e = .returned (.int .i64 R) ∧ Ext w w'
  obtain ⟨fb, hfbd⟩ : ∃ fb : Int → Bool, ∀ e, fetchB ⟨s.f, e⟩ U F n ⟨u, wa, mo, r3, r4, r5, r6, r7, r8, r9⟩ = fb e := ⟨_, fun _ => rfl⟩
  obtain ⟨G, hG⟩ : ∃ G : Nat → Int, ∀ q, fewB U F n ⟨u, wa, mo, r3, r4, r5, r6, r7, r8, r9⟩ k (s :: l) s.f (EL.take q) = G q := ⟨_, fun _ => rfl⟩
  have HG0 : Hid (G 0 = 1000) := Lib.hid (by rw [← hG 0, List.take_zero]; exact HB0.out)
  have HGE : Hid (G EL.length = R) := Lib.hid (by rw [← hG, List.take_length]; exact HRD.out.symm)
  have HGS : Hid (∀ q (hq : q < EL.length), G (q + 1) = if fb EL[q] then min (G q) (1 + fewS U F n ⟨u, wa, mo, r3, r4, r5, r6, r7, r8, r9⟩ k (lessS (s :: l) (ofS [⟨s.f, EL[q]⟩]))) else G q) := Lib.hid fun q hq => by
    have := HBS.out q hq
    rw [hG, hG, hfbd] at this
    exact this
  have HFB := Lib.hid hfbd
  clear HB0 HBS HRD hG hfbd h
  obtain ⟨b0, o0, hA0, p0, _⟩ := hL 0 (by simp)
  subst hA0
  rw [Nat.zero_mul, Nat.add_zero] at p0
  simp only [List.getElem_cons_zero] at p0
  obtain ⟨ll, hll⟩ : ∃ ll, (s :: l).length = ll := ⟨_, rfl⟩
  have i0 : (0 : Int) < (ll : Int) := by rw [← hll, List.length_cons]; omega
  have i0' : 0 < ll := by omega
  have i1 : ((ll : Int) == 0) = false := beq_eq_false_iff_ne.2 (by omega)
  rw [hll] at HENC hlL ⊢
  have HLL := Lib.hid hll
  clear hll hgs
  replace p0 := hx0.cell p0
  go_enter Try.func19, Try.ntmps19
  go_wp2_with fail
  generalize (w.alloc (.cells #[.int .i64 u, .int .i64 wa, .int .i64 mo, .int .i64 r3, .int .i64 r4, .int .i64 r5, .int .i64 r6, .int .i64 r7, .int .i64 r8, .int .i64 r9] 24)) = w1 at *
  have c0 : w1.cell? ⟨w.heap.size, 0, none⟩ = some (.int .i64 u) := by rw [cell_of_block bC]; rfl
  have HU1 := Lib.hid (hU.ext hx0)
  have HF1 := Lib.hid (hF.ext hx0)
  have HL1 := Lib.hid (hL.ext hx0)
  clear hU hF hL
  go_region_held3 (fun w' => w'.cell? ⟨b0, o0, none⟩ = some (.int .i64 s.f) ∧ w'.cell? ⟨w.heap.size, 0, none⟩ = some (.int .i64 u))
    ((refine (fun hE => ⟨Ext.cell hE p0, Ext.cell hE c0⟩ : Ext w1 _ → _) ?_
      (repeat' with_reducible first | exact hEE.out | exact Ext.refl _ | refine Ext.drew ?_ | refine Ext.alloc ?_ _)))
    (first
      | (go_at_call 36
         (refine (HENC.out _ (HL1.out.ext (by (repeat' first | with_reducible exact Ext.refl _ | with_reducible refine Ext.drew ?_ | with_reducible refine Ext.alloc ?_ _)))).mono ?_)
         rintro e w2 ⟨V, cv, rfl, HV, HNV, hx2⟩
         have hEE : Hid (Ext w1 w2) := Lib.hid (Ext.trans (by (repeat' first | with_reducible exact Ext.refl _ | with_reducible refine Ext.drew ?_ | with_reducible refine Ext.alloc ?_ _)) hx2)))
  have h1e := hEE.out
  have hre : Ext w w2 := hx0.trans h1e
  have bC2 := h1e.block bC
  have HU2 := Lib.hid (HU1.out.ext h1e)
  have HF2 := Lib.hid (HF1.out.ext h1e)
  have HL2 := Lib.hid (HL1.out.ext h1e)
  replace p0 := h1e.cell p0
  clear HENC HU1 HF1 HL1 hEE h1e hx2 hx0 bC c0 HNV
  go_wp2
  go_loopw [11, 27] (fun v i wr => ∃ q : Nat, q ≤ EL.length ∧ i = .int .i64 q ∧ v = .int .i64 (G q) ∧ Hid (0 ≤ G q ∧ G q ≤ 1000) ∧ Ext w2 wr) (fun _ i _ => EL.length - (intOf i).toNat)
  case atStart => exact ⟨0, Nat.zero_le _, rfl, by rw [HG0.out], Lib.hid (by rw [HG0.out]; omega), Ext.refl _⟩
  case round =>
    obtain ⟨q, hq, rfl, rfl, HGB, hx⟩ := hrel
    by_cases hlt : q < EL.length
    · obtain ⟨b, o, rfl, pv⟩ := HV.out q hlt
      replace pv := hx.cell pv
      replace p0 := hx.cell p0
      have hgs := HGS.out q hlt
      obtain ⟨m, hm1, hm2, hm3, L', hL', hcall⟩ := HFW.out q hlt
      rw [hm1] at hgs
      have hfe := HFE.out s.f EL[q]
      rw [HFB.out] at hfe
      generalize EL[q] = ev at *
      generalize fb ev = f9 at *
      have HGS2 := Lib.hid hgs
      have HFE2 := Lib.hid hfe
      have HCA := Lib.hid hcall
      have HLQ := Lib.hid hL'
      clear hgs hfe hcall hL' hm1
      have hxn : Ext wr (wr.alloc (.cells #[.int .i64 s.f, .int .i64 ev] 48)) := (Ext.refl wr).alloc _
      have h2n := hx.trans hxn
      have d0 : (wr.alloc (.cells #[.int .i64 s.f, .int .i64 ev] 48)).cell? ⟨wr.heap.size, 0, none⟩ = some (.int .i64 s.f) := by simp
      have d1 : (wr.alloc (.cells #[.int .i64 s.f, .int .i64 ev] 48)).cell? ⟨wr.heap.size, 1, none⟩ = some (.int .i64 ev) := by simp
      have bCn := h2n.block bC2
      have z0 : (wr.alloc (.cells #[.int .i64 s.f, .int .i64 ev] 48)).cell? ⟨w.heap.size, 0, none⟩ = some (.int .i64 u) := by rw [cell_of_block bCn]; rfl
      have z1 : (wr.alloc (.cells #[.int .i64 s.f, .int .i64 ev] 48)).cell? ⟨w.heap.size, 1, none⟩ = some (.int .i64 wa) := by rw [cell_of_block bCn]; rfl
      have z2 : (wr.alloc (.cells #[.int .i64 s.f, .int .i64 ev] 48)).cell? ⟨w.heap.size, 2, none⟩ = some (.int .i64 mo) := by rw [cell_of_block bCn]; rfl
      have z3 : (wr.alloc (.cells #[.int .i64 s.f, .int .i64 ev] 48)).cell? ⟨w.heap.size, 3, none⟩ = some (.int .i64 r3) := by rw [cell_of_block bCn]; rfl
      have z4 : (wr.alloc (.cells #[.int .i64 s.f, .int .i64 ev] 48)).cell? ⟨w.heap.size, 4, none⟩ = some (.int .i64 r4) := by rw [cell_of_block bCn]; rfl
      have z5 : (wr.alloc (.cells #[.int .i64 s.f, .int .i64 ev] 48)).cell? ⟨w.heap.size, 5, none⟩ = some (.int .i64 r5) := by rw [cell_of_block bCn]; rfl
      have z6 : (wr.alloc (.cells #[.int .i64 s.f, .int .i64 ev] 48)).cell? ⟨w.heap.size, 6, none⟩ = some (.int .i64 r6) := by rw [cell_of_block bCn]; rfl
      have z7 : (wr.alloc (.cells #[.int .i64 s.f, .int .i64 ev] 48)).cell? ⟨w.heap.size, 7, none⟩ = some (.int .i64 r7) := by rw [cell_of_block bCn]; rfl
      have z8 : (wr.alloc (.cells #[.int .i64 s.f, .int .i64 ev] 48)).cell? ⟨w.heap.size, 8, none⟩ = some (.int .i64 r8) := by rw [cell_of_block bCn]; rfl
      have z9 : (wr.alloc (.cells #[.int .i64 s.f, .int .i64 ev] 48)).cell? ⟨w.heap.size, 9, none⟩ = some (.int .i64 r9) := by rw [cell_of_block bCn]; rfl
      have HFC := Lib.hid (HFE2.out _ (HU2.out.ext h2n) (HF2.out.ext h2n))
      have HXN := Lib.hid hxn
      clear bCn HFE2 hxn
      go_wp2_with fail
      refine HFC.out.mono ?_
      rintro e5 w5 ⟨rfl, hx5⟩
      have h25 := h2n.trans hx5
      have hr5 := hx.trans (HXN.out.trans hx5)
      replace d0 := hx5.cell d0
      replace d1 := hx5.cell d1
      replace z0 := hx5.cell z0
      replace z1 := hx5.cell z1
      replace z2 := hx5.cell z2
      replace z3 := hx5.cell z3
      replace z4 := hx5.cell z4
      replace z5 := hx5.cell z5
      replace z6 := hx5.cell z6
      replace z7 := hx5.cell z7
      replace z8 := hx5.cell z8
      replace z9 := hx5.cell z9
      have HU5 := Lib.hid (HU2.out.ext h25)
      have HF5 := Lib.hid (HF2.out.ext h25)
      have HL5 := Lib.hid (HL2.out.ext h25)
      generalize wr.heap.size = nb at *
      clear HFC hx5 p0 pv HXN h2n
      cases f9
      · have HG2 : Hid (G (q + 1) = G q) := Lib.hid (by rw [HGS2.out]; rfl)
        go_wp2
        go_roundw
        case rel => exact ⟨q + 1, hlt, by go_num, by rw [HG2.out], by rw [HG2.out]; exact HGB, hr5⟩
        case measure => simp [intOf]; omega
      · have HG2 : Hid (G (q + 1) = min (G q) (1 + m)) := Lib.hid (by rw [HGS2.out]; rfl)
        have hgb := HGB.out
        obtain ⟨gq, hgq⟩ : ∃ gq, G q = gq := ⟨_, rfl⟩
        rw [hgq] at hgb HG2 ⊢
        have hHL := HLE.out
        clear HGS2 hgq
        have HDA : Hid (∀ W, Ext w5 W → ∀ A ca, SAt W A L' → Calls Try.prog 19 #[.slice AU U.length cu, .slice A L'.length ca, .slice B F.length d, .int .i64 n, .agg #[.int .i64 u, .int .i64 wa, .int .i64 mo, .int .i64 r3, .int .i64 r4, .int .i64 r5, .int .i64 r6, .int .i64 r7, .int .i64 r8, .int .i64 r9]] W fun e w' => e = .returned (.int .i64 m) ∧ Ext W w') := Lib.hid fun W hW A ca hA => HCA.out A ca W (HU5.out.ext hW) (HF5.out.ext hW) hA
        have HDB : Hid (∀ W, Ext w5 W → ∀ V, SAt W V [⟨s.f, ev⟩] → Calls Try.prog 38 #[.slice (some ⟨b0, o0, none⟩) ll cl, .slice V 1 1] W (SPostN W L')) := Lib.hid fun W hW V hV => by
          have := hHL W ⟨s.f, ev⟩ V (HL5.out.ext hW) hV
          rw [HLQ.out, HLL.out] at this
          exact this
        clear hHL HCA HU5 HF5 HL5
        go_wp2
        go_region_held3 (fun w' => w'.cell? ⟨nb, 0, none⟩ = some (.int .i64 s.f) ∧ w'.cell? ⟨nb, 1, none⟩ = some (.int .i64 ev) ∧ w'.cell? ⟨w.heap.size, 0, none⟩ = some (.int .i64 u) ∧ w'.cell? ⟨w.heap.size, 1, none⟩ = some (.int .i64 wa) ∧ w'.cell? ⟨w.heap.size, 2, none⟩ = some (.int .i64 mo) ∧ w'.cell? ⟨w.heap.size, 3, none⟩ = some (.int .i64 r3) ∧ w'.cell? ⟨w.heap.size, 4, none⟩ = some (.int .i64 r4) ∧ w'.cell? ⟨w.heap.size, 5, none⟩ = some (.int .i64 r5) ∧ w'.cell? ⟨w.heap.size, 6, none⟩ = some (.int .i64 r6) ∧ w'.cell? ⟨w.heap.size, 7, none⟩ = some (.int .i64 r7) ∧ w'.cell? ⟨w.heap.size, 8, none⟩ = some (.int .i64 r8) ∧ w'.cell? ⟨w.heap.size, 9, none⟩ = some (.int .i64 r9))
          ((refine (fun hE => ⟨Ext.cell hE d0, Ext.cell hE d1, Ext.cell hE z0, Ext.cell hE z1, Ext.cell hE z2, Ext.cell hE z3, Ext.cell hE z4, Ext.cell hE z5, Ext.cell hE z6, Ext.cell hE z7, Ext.cell hE z8, Ext.cell hE z9⟩ : Ext w5 _ → _) ?_
            (repeat' with_reducible first | exact hE7.out | exact hE6.out | exact Ext.refl _ | refine Ext.drew ?_ | refine Ext.alloc ?_ _)))
          (first
            | (go_at_call 38
               (refine (HDB.out _ (by (repeat' first | with_reducible exact Ext.refl _ | with_reducible refine Ext.drew ?_ | with_reducible refine Ext.alloc ?_ _)) _ ((sat_one w5 s.f ev).ext (by (repeat' first | with_reducible exact Ext.refl _ | with_reducible refine Ext.drew ?_ | with_reducible refine Ext.alloc ?_ _)))).mono ?_)
               rintro e w6 ⟨A6, c6, rfl, HS6, _, hx6⟩
               have hE6 : Hid (Ext w5 w6) := Lib.hid (Ext.trans (by (repeat' first | with_reducible exact Ext.refl _ | with_reducible refine Ext.drew ?_ | with_reducible refine Ext.alloc ?_ _)) hx6))
            | (go_at_call 19
               (refine (HDA.out _ (by (repeat' first | with_reducible exact hE6.out | with_reducible exact Ext.refl _ | with_reducible refine Ext.drew ?_ | with_reducible refine Ext.alloc ?_ _)) _ _ (HS6.out.ext (by (repeat' first | with_reducible exact Ext.refl _ | with_reducible refine Ext.drew ?_ | with_reducible refine Ext.alloc ?_ _)))).mono ?_)
               rintro e w7 ⟨rfl, hx7⟩
               have hE7 : Hid (Ext w5 w7) := Lib.hid (hE6.out.trans (Ext.trans (by (repeat' first | with_reducible exact Ext.refl _ | with_reducible refine Ext.drew ?_ | with_reducible refine Ext.alloc ?_ _)) hx7))))
        all_goals go_wp2
        all_goals go_roundw
        case rel => exact ⟨q + 1, hlt, by go_num, by rw [HG2.out, IntWalk.i64_in (1 + m) (by omega)], Lib.hid (by rw [HG2.out]; omega), hr5.trans hE7.out⟩
        case measure => simp [intOf]; omega
    · obtain rfl : q = EL.length := by omega
      have HGE2 := HGE.out
      rw [HGE2]
      go_wp2
      go_ret
      exact ⟨rfl, hre.trans hx⟩
end Go.Proofs.Ytdcdnnbijjcfmaa
