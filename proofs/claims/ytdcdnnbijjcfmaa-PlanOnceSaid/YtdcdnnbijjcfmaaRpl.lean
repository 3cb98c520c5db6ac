/- The contract of the reference's Plan. -/
import Derived.Test.YtdcdnnbijjcfmaaEnw
import Derived.Test.YtdcdnnbijjcfmaaRrt
namespace Go.Proofs.Ytdcdnnbijjcfmaa
open Go.RowKit

theorem cut_len (L : List Sp) (x : Int) : (cutL L x).length ≤ L.length := by
  rcases cut_find L x with h1 | ⟨k, hk, h1, h2⟩
  · rw [cut_nil h1]; simp
  · rw [cut_at hk h1 h2]; simp; omega
def Boxed2 (w : World) (b : Nat) (x y : Int) : Prop := w.heap[b]? = some (.cells #[.int .i64 x, .int .i64 y] 48 (0, 0))
theorem kq_set (o n₀ : Nat) (w : World) (i : Nat) (v : Value) : Kq o n₀ w (w.setCell ⟨o, i, none⟩ v) :=
  ⟨rfl, rfl, rfl, by simp [World.setCell], fun k _ hne => Below.heap_setCell w ⟨o, i, none⟩ v k hne⟩
theorem best_snoc (U F : List Sp) (n : Int) (c : Cf) (from_ : Int) (l : List Int) (e : Int) : bestE U F n c from_ (l ++ [e]) = if fetchB ⟨from_, e⟩ U F n c then e else bestE U F n c from_ l := by
  simp [bestE]
theorem planP_no {n : Int} {c : Cf} {U F : List Sp} (h : chkE n c U F ≠ 0) : planP n c U F = [] := by unfold planP; rw [if_neg h]

set_option maxHeartbeats 8000000 in
set_option maxRecDepth 100000 in
theorem planR_calls (A : Option Addr) (ca : Nat) (g : List Sp) (B : Option Addr) (d : Nat) (F : List Sp) (n : Int) (c : Cf) (w : World) (hg : SAt w A g) (hF : SAt w B F) (ng : Norm g) (nF : Norm F) (hlg : g.length ≤ 50000) (hlF : F.length ≤ 100000)
    (hs : chkE n c (unitsS g n c.u) F = 0 → SmallU (unitsS g n c.u) c.u) :
    Calls Try.prog 14 #[.slice A g.length ca, .slice B F.length d, .int .i64 n, .agg c.cells.toArray] w (PlanPost w (planP n c (unitsS g n c.u) F) (chkE n c (unitsS g n c.u) F)) := by
  have hx0 : Ext w (w.alloc (.cells c.cells.toArray 24)) := (Ext.refl w).alloc _
  have bC := heap_alloc_new w (.cells c.cells.toArray 24)
  have hEd : chkE n c (unitsS g n c.u) F = if okB n c then (if heldB (unitsS g n c.u) F then 15 else 0) else 1 := rfl
  have hPn := planP_no (n := n) (c := c) (U := unitsS g n c.u) (F := F)
  have hPy : chkE n c (unitsS g n c.u) F = 0 → planP n c (unitsS g n c.u) F = planF F c 101 (unitsS g n c.u) := fun h => by unfold planP planL; rw [if_pos h]
  have hPK := fun h => pok_start ng nF h (hs h)
  have HAO := Lib.hid (fun W => argOk_calls n c W)
  have HUR := Lib.hid (fun W (hW : SAt W A g) => unitsR_calls A ca g n c.u W hW ng (by omega))
  have hUl := units_len ng n c.u
  have hUN : Norm (unitsS g n c.u) := units_norm g n c.u
  have HFE := Lib.hid (fun f t W A' a' (hA : SAt W A' (unitsS g n c.u)) (hB : SAt W B F) (hu : 4 ≤ c.u ∧ c.u ≤ 1048576) => fetch_calls f t A' a' (unitsS g n c.u) B d F n c W hA hB hUN (by omega) hlF hu.1 hu.2)
  have HHE := Lib.hid (fun W A' a' (hA : SAt W A' (unitsS g n c.u)) (hB : SAt W B F) => held_calls A' a' (unitsS g n c.u) B d F W hA hB hUN nF (by omega) hlF)
  have hub : okB n c = true → (4 ≤ c.u ∧ c.u ≤ 1048576) ∧ lengthB n = true := fun h => by simp [okB, measB] at h; exact ⟨unit_bound h.1.1.1, h.1.1.2⟩
  generalize planP n c (unitsS g n c.u) F = P at *
  generalize hEE : chkE n c (unitsS g n c.u) F = E at *
  generalize unitsS g n c.u = U at *
  obtain ⟨ok, hok⟩ : ∃ ok, okB n c = ok := ⟨_, rfl⟩
  obtain ⟨hb, hhb⟩ : ∃ hb, heldB U F = hb := ⟨_, rfl⟩
  rw [hok] at hEd hub HAO
  rw [hhb] at hEd HHE
  obtain ⟨u, wa, mo, r3, r4, r5, r6, r7, r8, r9⟩ := c
  change Hid (∀ W, Calls Try.prog 34 #[.int .i64 n, .agg #[.int .i64 u, .int .i64 wa, .int .i64 mo, .int .i64 r3, .int .i64 r4, .int .i64 r5, .int .i64 r6, .int .i64 r7, .int .i64 r8, .int .i64 r9]] W fun e w' => e = .returned (.bool ok) ∧ Ext W w') at HAO
  simp only at hub HUR
  change (w.alloc (.cells #[.int .i64 u, .int .i64 wa, .int .i64 mo, .int .i64 r3, .int .i64 r4, .int .i64 r5, .int .i64 r6, .int .i64 r7, .int .i64 r8, .int .i64 r9] 24)).heap[w.heap.size]? = some (.cells #[.int .i64 u, .int .i64 wa, .int .i64 mo, .int .i64 r3, .int .i64 r4, .int .i64 r5, .int .i64 r6, .int .i64 r7, .int .i64 r8, .int .i64 r9] 24 (0, 0)) at bC
  change Ext w (w.alloc (.cells #[.int .i64 u, .int .i64 wa, .int .i64 mo, .int .i64 r3, .int .i64 r4, .int .i64 r5, .int .i64 r6, .int .i64 r7, .int .i64 r8, .int .i64 r9] 24)) at hx0
  show Calls Try.prog 14 #[.slice A g.length ca, .slice B F.length d, .int .i64 n, .agg #[.int .i64 u, .int .i64 wa, .int .i64 mo, .int .i64 r3, .int .i64 r4, .int .i64 r5, .int .i64 r6, .int .i64 r7, .int .i64 r8, .int .i64 r9]] w (PlanPost w P E)
  have HFE2 : Hid (4 ≤ u ∧ u ≤ 1048576 → ∀ s : Sp, ∃ fb, fetchB s U F n ⟨u, wa, mo, r3, r4, r5, r6, r7, r8, r9⟩ = fb ∧ ∀ W A' a', SAt W A' U → SAt W B F → Calls Try.prog 37 #[.agg #[.int .i64 s.f, .int .i64 s.t], .slice A' U.length a', .slice B F.length d, .int .i64 n, .agg #[.int .i64 u, .int .i64 wa, .int .i64 mo, .int .i64 r3, .int .i64 r4, .int .i64 r5, .int .i64 r6, .int .i64 r7, .int .i64 r8, .int .i64 r9]] W fun e w' => e = .returned (.bool fb) ∧ Ext W w') := Lib.hid fun hu s => ⟨_, rfl, fun W A' a' hA hB => HFE.out s.f s.t W A' a' hA hB hu⟩
  have HE := Lib.hid hEd
  have HPN := Lib.hid hPn
  have HPY := Lib.hid hPy
  have HPK := Lib.hid hPK
  have HUB := Lib.hid hub
  have HUN := Lib.hid hUN
  clear hEd hPn hPy hPK hub HFE hhb hok hs hEE
  go_enter Try.func14, Try.ntmps14
  go_wp2_with fail
  generalize (w.alloc (.cells #[.int .i64 u, .int .i64 wa, .int .i64 mo, .int .i64 r3, .int .i64 r4, .int .i64 r5, .int .i64 r6, .int .i64 r7, .int .i64 r8, .int .i64 r9] 24)) = w1 at *
  refine (HAO.out _).mono ?_
  rintro e w2 ⟨rfl, hx2⟩
  have hw2 := hx0.trans hx2
  cases ok
  · have hE1 : E = 1 := by rw [HE.out]; rfl
    have HP0 : Hid (P = []) := Lib.hid (HPN.out (by omega))
    subst hE1
    clear HPN HPY HPK HE
    go_wp2
    refine bodyPost_ret (v := .tuple #[.slice none 0 0, .int .i64 1]) (by simp [results, Try.results14, go_sem]) rfl ⟨none, 0, by rw [HP0.out]; rfl, Lib.hid (by rw [HP0.out]; exact SAt.nil _ _), hw2⟩
  · have hu := HUB.out (by simp)
    have HLB := Lib.hid hu.2
    have bC2 := hx2.block bC
    have c0 : w2.cell? ⟨w.heap.size, 0, none⟩ = some (.int .i64 u) := by rw [cell_of_block bC2]; rfl
    have HU2 := Lib.hid (HUR.out w2 (hg.ext hw2))
    clear HUR HAO hg HUB bC hx2
    go_wp2_with fail
    refine HU2.out.mono ?_
    rintro e w3 ⟨A3, c3, rfl, HS3, _, hx3⟩
    have hw3 := hw2.trans hx3
    have bC3 := hx3.block bC2
    have HF3 := Lib.hid (hF.ext hw3)
    have HHH := Lib.hid (HHE.out w3 A3 c3 HS3.out HF3.out)
    clear HU2 c0 bC2 hx3 hF hx0 hw2 HHE
    go_wp2_with fail
    refine HHH.out.mono ?_
    rintro e w4 ⟨rfl, hx4⟩
    have hw4 := hw3.trans hx4
    have bC4 := hx4.block bC3
    have HF4 := Lib.hid (HF3.out.ext hx4)
    have HS4 := Lib.hid (HS3.out.ext hx4)
    clear HHH bC3 HF3 HS3 hw3 hx4
    cases hb
    · have hE0 : E = 0 := by rw [HE.out]; rfl
      subst hE0
      have HPE : Hid (P = planF F ⟨u, wa, mo, r3, r4, r5, r6, r7, r8, r9⟩ 101 U) := Lib.hid (HPY.out rfl)
      have HOK := Lib.hid (HPK.out rfl)
      have hu1 := hu.1.1
      have hu2 := hu.1.2
      clear HPN HPY HPK HE hu
      go_wp2
      go_loopw [11, 12] (fun vo vl wr => ∃ (m : Nat) (O L : List Sp) (AL : Option Addr) (cl : Nat) (a : Int), vl = .slice AL L.length cl ∧ Hid (SAt wr AL L) ∧ Hid (∀ b o, AL = some ⟨b, o, none⟩ → vo.ownBlock ≠ some b) ∧ wr.ownsRow w4.heap.size 48 2 vo O.length (spans O) ∧ Ext w4 wr ∧ L.length ≤ 60000 ∧ O.length + m ≤ 101 ∧
        Hid (O ++ planF F ⟨u, wa, mo, r3, r4, r5, r6, r7, r8, r9⟩ m L = P ∧ Pok L F ⟨u, wa, mo, r3, r4, r5, r6, r7, r8, r9⟩ (endI n) ∧ Enough L u m ∧ Rest U L a)) (fun vo _ _ => 102 - lenV vo)
      case atStart => exact ⟨101, [], U, A3, c3, 0, rfl, HS4, Lib.hid (fun b o _ h => by cases h), World.ownsRow_nil _ _ _ _, Ext.refl _, by omega, by simp, Lib.hid ⟨by rw [HPE.out]; rfl, HOK.out, enough_start HOK.out, fun y => ⟨fun h => ⟨h, (mem_lt HUN.out h).1⟩, fun h => h.1⟩⟩⟩
      case round =>
        obtain ⟨m, O, L, AL, cl, a, rfl, HSL, hNL, hown, hx, hLl, hOm, HI⟩ := hrel
        obtain ⟨VO, cO, rfl, _⟩ := own_shape hown
        cases L with
        | nil =>
          have hP : Hid (P = O) := Lib.hid (by have := HI.out.1; cases m <;> simpa [planF] using this.symm)
          have hSO := sat_of_own hown
          clear HI HF4 HS4 bC4
          go_wp2
          refine bodyPost_ret (v := .tuple #[.slice VO O.length cO, .int .i64 0]) (by simp [results, Try.results14, go_sem]) rfl ⟨VO, cO, by rw [hP.out], Lib.hid (by rw [hP.out]; exact hSO), hw4.trans hx⟩
        | cons s l =>
          have hPK := HI.out.2.1
          have h0 : 0 < (s :: l).length := by simp
          have hN := hPK.lok.norm
          have hgs := hN.get h0
          simp only [List.getElem_cons_zero] at hgs
          obtain ⟨k, rfl⟩ : ∃ k, m = k + 1 := by
            cases m with
            | zero => exact absurd (enough_no hPK HI.out.2.2.1) (by simp)
            | succ k => exact ⟨k, rfl⟩
          obtain ⟨e, he⟩ : ∃ e, endC (s :: l) (freeT F s.f) ⟨u, wa, mo, r3, r4, r5, r6, r7, r8, r9⟩ = e := ⟨_, rfl⟩
          have hstep := pok_step hPK h0 he
          have hen := enough_step hPK h0 HI.out.2.2.1 he
          have hrc := rest_cut hPK h0 HI.out.2.2.2 he
          have hlc := less_cut hPK h0 he
          have hbe := best_eq hPK HLB.out HUN.out HI.out.2.2.2 h0
          have hge : ∀ v ∈ (s :: l), v.f % u = 0 ∧ s.f ≤ v.f ∧ v.f ≤ 100 * u ∧ (v.t ≤ 100 * u ∨ v.t = 4611686018427387904) := fun v hv => by
            refine ⟨hPK.lok.f v hv, ?_, hPK.small v hv⟩
            obtain ⟨q, hq, rfl⟩ := List.mem_iff_getElem.1 hv
            rcases Nat.eq_zero_or_pos q with h6 | h6
            · subst h6; exact Int.le_refl _
            · have := hN.lt h6 hq; simp only [List.getElem_cons_zero] at this; omega
          simp only [List.getElem_cons_zero] at hstep hbe hlc
          rw [he] at hbe
          have hPl : O ++ (⟨s.f, e⟩ :: planF F ⟨u, wa, mo, r3, r4, r5, r6, r7, r8, r9⟩ k (cutL (s :: l) e)) = P := by rw [← HI.out.1]; show _ = O ++ (_ :: _); rw [he]
          have HST := Lib.hid (And.intro hstep (And.intro hen (And.intro hPl (And.intro hrc hlc))))
          have HBE := Lib.hid hbe
          have HENC := Lib.hid (fun W (hW : SAt W AL (s :: l)) => endsR_calls AL cl (s :: l) s.f u W hW hN hLl hu1 hu2 hge hgs.1)
          have HLE := fun W v V (h1 : SAt W AL (s :: l)) (h2 : SAt W V [v]) => refLess_calls AL cl (s :: l) V 1 [v] W h1 h2 (by omega) (by simp)
          rw [of_norm hN] at HLE
          have HLE := Lib.hid HLE
          have hELl := (endsE_inv (from_ := s.f) hu1 hu2 (s :: l) hN hge).2.2.2.2
          generalize hEl : endsE s.f u (s :: l) = EL at *
          replace hELl : EL.length ≤ 7000000 := by omega
          obtain ⟨b0, o0, hA0, p0, p0b⟩ := HSL.out 0 h0
          subst hA0
          rw [Nat.zero_mul, Nat.add_zero] at p0
          simp only [List.getElem_cons_zero] at p0
          have i0 : (0 : Int) < ((s :: l).length : Int) := by rw [List.length_cons]; omega
          obtain ⟨ll, hll⟩ : ∃ ll, (s :: l).length = ll := ⟨_, rfl⟩
          rw [hll] at i0 HENC hLl ⊢
          have HLL := Lib.hid hll
          clear p0b hgs hstep hen hPl hrc hlc hbe hge hPK hN h0 he hll hEl HI
          have hb0 : b0 < wr.heap.size := block_of_cell p0
          go_wp2
          go_region
          have hxa : Ext wr (wr.alloc (.cells #[.int .i64 s.f, .int .i64 s.f] 48)).drew := ((Ext.refl wr).alloc _).drew
          have bX : (wr.alloc (.cells #[.int .i64 s.f, .int .i64 s.f] 48)).drew.heap[wr.heap.size]? = some (.cells #[.int .i64 s.f, .int .i64 s.f] 48 (0, 0)) := heap_alloc_new wr _
          have hzx : wr.heap.size < (wr.alloc (.cells #[.int .i64 s.f, .int .i64 s.f] 48)).drew.heap.size := by simp [World.drew]
          generalize (wr.alloc (.cells #[.int .i64 s.f, .int .i64 s.f] 48)).drew = wz at *
          have hxw := hx.trans hxa
          have bCa := hxw.block bC4
          have c0 : wz.cell? ⟨w.heap.size, 0, none⟩ = some (.int .i64 u) := by rw [cell_of_block bCa]; rfl
          have x0 : wz.cell? ⟨wr.heap.size, 0, none⟩ = some (.int .i64 s.f) := by rw [cell_of_block bX]; rfl
          have HEN := Lib.hid (HENC.out wz (HSL.out.ext hxa))
          have hxbr : (Value.slice VO O.length cO).ownBlock ≠ some wr.heap.size := fun e => by have := own_lt hown e; omega
          have hnl2 := hNL
          clear HENC p0
          go_wp2_with fail
          refine HEN.out.mono ?_
          rintro e9 we ⟨V, cv, rfl, HV, HNV, hxe⟩
          have bXe : we.heap[wr.heap.size]? = some (.cells #[.int .i64 s.f, .int .i64 s.f] 48 (0, 0)) := hxe.block bX
          have hre : Ext wr we := hxa.trans hxe
          have h4e : Ext w4 we := hx.trans hre
          have hz4 : w4.heap.size ≤ wr.heap.size := hx.size
          have hze : wr.heap.size < we.heap.size := (Array.getElem?_eq_some_iff.1 bXe).1
          have hw4z : w.heap.size < w4.heap.size := (Array.getElem?_eq_some_iff.1 bC4).1
          have HVB : Hid (∀ b o, V = some ⟨b, o, none⟩ → wr.heap.size < b) := Lib.hid fun b o e => by have := HNV.out b o e; omega
          have HB0 : Hid (bestE U F n ⟨u, wa, mo, r3, r4, r5, r6, r7, r8, r9⟩ s.f [] = s.f) := Lib.hid rfl
          clear HEN bX c0 x0 bCa hxw hxa hzx hxe HNV
          generalize hxb : wr.heap.size = xb at *
          have HXB := Lib.hid hxb
          clear hxb
          go_wp2
          go_loopw [49] (fun i wx => ∃ q : Nat, q ≤ EL.length ∧ i = .int .i64 q ∧ wx.heap[xb]? = some (.cells #[.int .i64 s.f, .int .i64 (bestE U F n ⟨u, wa, mo, r3, r4, r5, r6, r7, r8, r9⟩ s.f (EL.take q))] 48 (0, 0)) ∧ Kq xb we.heap.size we wx) (fun i _ => EL.length - (intOf i).toNat)
          case atStart => exact ⟨0, Nat.zero_le _, rfl, by rw [List.take_zero, HB0.out]; exact bXe, Kq.refl _ _ _⟩
          case round =>
            obtain ⟨q, hq, rfl, bxq, hkq⟩ := hrel
            have h4x : Ext w4 wr := Kq.ext h4e hkq (by omega)
            by_cases hlt : q < EL.length
            · obtain ⟨b, o, rfl, pv⟩ := HV.out q hlt
              have hbb := HVB.out b o rfl
              have hbl : b < we.heap.size := block_of_cell pv
              replace pv := (hkq.cell (p := ⟨b, o + q, none⟩) hbl (by show b ≠ xb; omega)).trans pv
              have hsn : bestE U F n ⟨u, wa, mo, r3, r4, r5, r6, r7, r8, r9⟩ s.f (EL.take (q + 1)) = if fetchB ⟨s.f, EL[q]⟩ U F n ⟨u, wa, mo, r3, r4, r5, r6, r7, r8, r9⟩ then EL[q] else bestE U F n ⟨u, wa, mo, r3, r4, r5, r6, r7, r8, r9⟩ s.f (EL.take q) := by
                rw [List.take_succ_eq_append_getElem hlt, best_snoc]
              obtain ⟨fb, hfb, hfc⟩ := HFE2.out ⟨hu1, hu2⟩ ⟨s.f, EL[q]⟩
              rw [hfb] at hsn
              generalize EL[q] = ev at *
              generalize bestE U F n ⟨u, wa, mo, r3, r4, r5, r6, r7, r8, r9⟩ s.f (EL.take q) = bq at *
              have HSN := Lib.hid hsn
              have y0 : wr.cell? ⟨xb, 0, none⟩ = some (.int .i64 s.f) := by rw [cell_of_block bxq]; rfl
              have hxn : Ext wr (wr.alloc (.cells #[.int .i64 s.f, .int .i64 ev] 48)) := (Ext.refl wr).alloc _
              have h4n := h4x.trans hxn
              have HFC := Lib.hid (hfc _ A3 c3 (HS4.out.ext h4n) (HF4.out.ext h4n))
              have bCn := h4n.block bC4
              have z0 : (wr.alloc (.cells #[.int .i64 s.f, .int .i64 ev] 48)).cell? ⟨w.heap.size, 0, none⟩ = some (.int .i64 u) := by rw [cell_of_block bCn]; rfl
              have z1 : (wr.alloc (.cells #[.int .i64 s.f, .int .i64 ev] 48)).cell? ⟨w.heap.size, 1, none⟩ = some (.int .i64 wa) := by rw [cell_of_block bCn]; rfl
              have z2 : (wr.alloc (.cells #[.int .i64 s.f, .int .i64 ev] 48)).cell? ⟨w.heap.size, 2, none⟩ = some (.int .i64 mo) := by rw [cell_of_block bCn]; rfl
              have z3 : (wr.alloc (.cells #[.int .i64 s.f, .int .i64 ev] 48)).cell? ⟨w.heap.size, 3, none⟩ = some (.int .i64 r3) := by rw [cell_of_block bCn]; rfl
              have z4 : (wr.alloc (.cells #[.int .i64 s.f, .int .i64 ev] 48)).cell? ⟨w.heap.size, 4, none⟩ = some (.int .i64 r4) := by rw [cell_of_block bCn]; rfl
              have z5 : (wr.alloc (.cells #[.int .i64 s.f, .int .i64 ev] 48)).cell? ⟨w.heap.size, 5, none⟩ = some (.int .i64 r5) := by rw [cell_of_block bCn]; rfl
              have z6 : (wr.alloc (.cells #[.int .i64 s.f, .int .i64 ev] 48)).cell? ⟨w.heap.size, 6, none⟩ = some (.int .i64 r6) := by rw [cell_of_block bCn]; rfl
              have z7 : (wr.alloc (.cells #[.int .i64 s.f, .int .i64 ev] 48)).cell? ⟨w.heap.size, 7, none⟩ = some (.int .i64 r7) := by rw [cell_of_block bCn]; rfl
              have z8 : (wr.alloc (.cells #[.int .i64 s.f, .int .i64 ev] 48)).cell? ⟨w.heap.size, 8, none⟩ = some (.int .i64 r8) := by rw [cell_of_block bCn]; rfl
              have z9 : (wr.alloc (.cells #[.int .i64 s.f, .int .i64 ev] 48)).cell? ⟨w.heap.size, 9, none⟩ = some (.int .i64 r9) := by rw [cell_of_block bCn]; rfl
              have d0 : (wr.alloc (.cells #[.int .i64 s.f, .int .i64 ev] 48)).cell? ⟨wr.heap.size, 0, none⟩ = some (.int .i64 s.f) := by simp
              have d1 : (wr.alloc (.cells #[.int .i64 s.f, .int .i64 ev] 48)).cell? ⟨wr.heap.size, 1, none⟩ = some (.int .i64 ev) := by simp
              have hkn : Kq xb we.heap.size we (wr.alloc (.cells #[.int .i64 s.f, .int .i64 ev] 48)) := hkq.alloc (Nat.le_refl _) _
              have bxn := hxn.block bxq
              have hxx : xb < wr.heap.size := (Array.getElem?_eq_some_iff.1 bxq).1
              clear hsn hfb hfc bxq hkq h4x hxn h4n bCn
              go_wp2_with fail
              generalize wr.alloc (.cells #[.int .i64 s.f, .int .i64 ev] 48) = wn at *
              generalize wr.heap.size = nb at *
              refine HFC.out.mono ?_
              rintro e5 w5 ⟨rfl, hx5⟩
              have hk5 : Kq xb we.heap.size we w5 := hkn.trans (Kq.of_ext hx5 hkn.size)
              have bx5 : Boxed2 w5 xb s.f bq := hx5.block bxn
              replace d0 := hx5.cell d0
              replace d1 := hx5.cell d1
              clear z0 z1 z2 z3 z4 z5 z6 z7 z8 z9 hx5 HFC hkn bxn
              cases fb
              · have HS2 : Hid (bestE U F n ⟨u, wa, mo, r3, r4, r5, r6, r7, r8, r9⟩ s.f (EL.take (q + 1)) = bq) := Lib.hid (by rw [HSN.out]; rfl)
                go_wp2
                go_roundw
                case rel => exact ⟨q + 1, hlt, by go_num, by rw [HS2.out]; exact bx5, hk5⟩
                case measure => simp [intOf]; omega
              · have HS2 : Hid (bestE U F n ⟨u, wa, mo, r3, r4, r5, r6, r7, r8, r9⟩ s.f (EL.take (q + 1)) = ev) := Lib.hid (by rw [HSN.out]; rfl)
                have z0 : w5.cell? ⟨xb, 0, none⟩ = some (.int .i64 s.f) := by rw [cell_of_block bx5]; rfl
                have z1 : w5.cell? ⟨xb, 1, none⟩ = some (.int .i64 bq) := by rw [cell_of_block bx5]; rfl
                have f0 : w5.frozen? ⟨xb, 0, none⟩ = false := frozen_of_block bx5 0
                have f1 : w5.frozen? ⟨xb, 1, none⟩ = false := frozen_of_block bx5 1
                have HBX5 := Lib.hid bx5
                clear bx5
                go_wp2
                go_roundw
                case rel => exact ⟨q + 1, hlt, by go_num, by rw [HS2.out]; exact span_fill HBX5.out, hk5.trans ((kq_set _ _ _ _ _).trans (kq_set _ _ _ _ _))⟩
                case measure => simp [intOf]; omega
            · obtain rfl : q = EL.length := by omega
              rw [List.take_length, HBE.out] at bxq
              have hxr := Kq.ext hre hkq (by have := HXB.out; omega)
              have hown3 := ownsRow_ext hown hxr
              have hb6 : w4.heap.size ≤ wr.heap.size := h4x.size
              have hxx : xb < wr.heap.size := (Array.getElem?_eq_some_iff.1 bxq).1
              have y0 : wr.cell? ⟨xb, 0, none⟩ = some (.int .i64 s.f) := by rw [cell_of_block bxq]; rfl
              have y1 : wr.cell? ⟨xb, 1, none⟩ = some (.int .i64 e) := by rw [cell_of_block bxq]; rfl
              have HSX := Lib.hid (HSL.out.ext hxr)
              clear hkq HV HFE2 hown hre hxr
              go_wp2_with (at_builtin; refine wpList_append_new _ rfl _ _ 22 rfl w4.heap.size 48 _ 2 16 Try.underlying22 infoSpan rfl (by omega) _ _ _ rfl hown3 1 1 _ (by simp) _ rfl rfl (by simp [Value.oneCell']) (by simp [maxLen]; omega) (by omega) hb6 ?_; intro v8 w8 hown4 hm; have hx8 := ext_moved h4x hown3 hm; have b8 : Boxed2 w8 xb s.f e := (hm.1.block xb hxx (fun e => hxbr e.symm)).trans bxq; have k0 : w8.cell? ⟨xb, 0, none⟩ = some (.int .i64 s.f) := (by rw [cell_of_block b8]; rfl); have k1 : w8.cell? ⟨xb, 1, none⟩ = some (.int .i64 e) := (by rw [cell_of_block b8]; rfl))
              have hS8 : SAt w8 (some ⟨b0, o0, none⟩) (s :: l) := HSX.out.blocks fun b o e hbl => hm.1.block b hbl (fun e2 => hNL.out b o e e2.symm)
              have hx9 := hx8.alloc (.cells #[.int .i64 s.f, .int .i64 e] 48)
              have hlc := HLE.out _ ⟨s.f, e⟩ _ (hS8.ext ((Ext.refl w8).alloc (.cells #[.int .i64 s.f, .int .i64 e] 48))) (sat_one w8 s.f e)
              rw [HST.out.2.2.2.2, HLL.out] at hlc
              have HLC := Lib.hid hlc
              have hspan : spans O ++ [.int .i64 s.f, .int .i64 e] = spans (O ++ [⟨s.f, e⟩]) := by rw [spans_append, spans_one]
              have hown5 : w8.ownsRow w4.heap.size 48 2 v8 (O.length + 1) (spans (O ++ [⟨s.f, e⟩])) := by rw [← hspan]; exact hown4
              have HOW := Lib.hid (ownsRow_ext hown5 ((Ext.refl w8).alloc (.cells #[.int .i64 s.f, .int .i64 e] 48)))
              have hlt8 : ∀ g, v8.ownBlock = some g → g < w8.heap.size := fun g e => own_lt hown5 e
              have HL8 := Lib.hid hlt8
              have hz8 : (w8.alloc (.cells #[.int .i64 s.f, .int .i64 e] 48)).heap.size = w8.heap.size + 1 := World.size_alloc _ _
              clear hlc hspan hown4 hm hS8 HSX HLE bxq b8 hx8 hlt8
              obtain ⟨VP, cP, rfl, _⟩ := own_shape hown5
              clear hown5
              refine HLC.out.mono ?_
              rintro e6 w10 ⟨A10, c10, rfl, HS10, HN10, hx10⟩
              obtain ⟨hs1, hs2, hs3, hs4, hs5⟩ := HST.out.1
              have hcl := cut_len (s :: l) e
              rw [HLL.out] at hcl
              go_wp2
              go_roundw
              case rel =>
                refine ⟨k, O ++ [⟨s.f, e⟩], cutL (s :: l) e, A10, c10, e, rfl, HS10, Lib.hid (fun b o e2 h => ?_), ?_, hx9.trans hx10, by omega, by rw [List.length_append]; simp; omega, Lib.hid ⟨?_, hs3, HST.out.2.1, HST.out.2.2.2.1⟩⟩
                · have h1 := HN10.out b o e2
                  have h2 := HL8.out b h
                  omega
                · rw [List.length_append]; exact ownsRow_ext HOW.out hx10
                · rw [← HST.out.2.2.1]; simp
              case measure => simp [lenV]; omega
    · have hE1 : E = 15 := by rw [HE.out]; rfl
      have HP0 : Hid (P = []) := Lib.hid (HPN.out (by omega))
      subst hE1
      clear HPN HPY HPK HE
      go_wp2
      refine bodyPost_ret (v := .tuple #[.slice none 0 0, .int .i64 15]) (by simp [results, Try.results14, go_sem]) rfl ⟨none, 0, by rw [HP0.out]; rfl, Lib.hid (by rw [HP0.out]; exact SAt.nil _ _), hw4⟩
end Go.Proofs.Ytdcdnnbijjcfmaa
