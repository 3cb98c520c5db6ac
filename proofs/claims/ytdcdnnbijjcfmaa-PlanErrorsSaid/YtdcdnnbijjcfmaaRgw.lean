/- The contract of plan.Right: the walk. -/
import Derived.Test.YtdcdnnbijjcfmaaRgt
namespace Go.Proofs.Ytdcdnnbijjcfmaa
open Go.RowKit

theorem right_no {n : Int} {c : Cf} {U F l : List Sp} (h : chkE n c U F ≠ 0) : rightR l U F n c = false := by
  unfold chkE at h
  unfold rightR
  cases h1 : okB n c
  · rfl
  · rw [h1] at h
    cases h2 : heldB U F
    · rw [h2] at h; simp at h
    · simp
theorem right_yes {n : Int} {c : Cf} {U F l : List Sp} (h : chkE n c U F = 0) : okB n c = true ∧ rightR l U F n c = (rightGo U F n c 0 l && (lessS U (ofS l)).length == 0) := by
  unfold chkE at h
  unfold rightR
  cases h1 : okB n c
  · rw [h1] at h; simp at h
  · rw [h1] at h
    cases h2 : heldB U F
    · simp
    · rw [h2] at h; simp at h
theorem first_len {L : List Sp} (h : Norm L) : (!(firstS L 0).isSome) = (L.length == 0) := by
  rw [first_zero h]
  cases L <;> simp

set_option maxHeartbeats 8000000 in
set_option maxRecDepth 100000 in
theorem right_calls' (L : Option Addr) (cl : Nat) (l : List Sp) (A : Option Addr) (ca : Nat) (g : List Sp) (B : Option Addr) (d : Nat) (F : List Sp) (n : Int) (c : Cf) (w : World) (hl : SAt w L l) (hg : SAt w A g) (hF : SAt w B F) (ng : Norm g) (nF : Norm F) (hll : l.length ≤ 1000) (hlg : g.length ≤ 50000) (hlF : F.length ≤ 100000) :
    Calls Try.prog 29 #[.slice L l.length cl, .agg #[.slice A g.length ca], .agg #[.slice B F.length d], .int .i64 n, .agg c.cells.toArray] w fun e w' => e = .returned (.bool (rightR l (unitsS g n c.u) F n c)) ∧ Ext w w' := by
  have hx0 : Ext w (((w.alloc (.cells #[.slice A g.length ca] 30)).alloc (.cells #[.slice B F.length d] 30)).alloc (.cells c.cells.toArray 24)) := (((Ext.refl w).alloc _).alloc _).alloc _
  have bF : (((w.alloc (.cells #[.slice A g.length ca] 30)).alloc (.cells #[.slice B F.length d] 30)).alloc (.cells c.cells.toArray 24)).heap[w.heap.size + 1]? = some (.cells #[.slice B F.length d] 30 (0, 0)) := by
    refine ((Ext.refl _).alloc _).block ?_
    have := heap_alloc_new (w.alloc (.cells #[.slice A g.length ca] 30)) (.cells #[.slice B F.length d] 30)
    simpa using this
  have bC : (((w.alloc (.cells #[.slice A g.length ca] 30)).alloc (.cells #[.slice B F.length d] 30)).alloc (.cells c.cells.toArray 24)).heap[w.heap.size + 1 + 1]? = some (.cells c.cells.toArray 24 (0, 0)) := by
    have := heap_alloc_new ((w.alloc (.cells #[.slice A g.length ca] 30)).alloc (.cells #[.slice B F.length d] 30)) (.cells c.cells.toArray 24)
    simpa using this
  have hCK := Lib.hid (fun W (h1 : SAt W A g) (h2 : SAt W B F) => check_calls A ca g B d F n c W h1 h2 ng nF hlg hlF)
  have hUl := units_len ng n c.u
  have hUN : Norm (unitsS g n c.u) := units_norm g n c.u
  have hno := right_no (n := n) (c := c) (U := unitsS g n c.u) (F := F) (l := l)
  have hyes := right_yes (n := n) (c := c) (U := unitsS g n c.u) (F := F) (l := l)
  have hSd : chkE n c (unitsS g n c.u) F = 0 → chkS n c (unitsS g n c.u) F = unitsS g n c.u := fun h => by unfold chkS; rw [if_pos h]
  have hub : okB n c = true → (4 ≤ c.u ∧ c.u ≤ 1048576) ∧ lengthB n = true := fun h => by simp [okB, measB] at h; exact ⟨unit_bound h.1.1.1, h.1.1.2⟩
  have hcode : okB n c = true → ∀ at_ s r, rightGo (unitsS g n c.u) F n c at_ (s :: r) = (codeB s (unitsS g n c.u) F n c && decide (at_ ≤ s.f) && rightGo (unitsS g n c.u) F n c s.t r) := fun h at_ s r => by rw [code_eq nF h]; rfl
  generalize rightR l (unitsS g n c.u) F n c = R at *
  generalize chkS n c (unitsS g n c.u) F = S at *
  generalize chkE n c (unitsS g n c.u) F = E at *
  generalize unitsS g n c.u = U at *
  have hgn : ∀ at_, rightGo U F n c at_ [] = true := fun _ => rfl
  obtain ⟨rg, hrg⟩ : ∃ rg : Int → List Sp → Bool, rightGo U F n c = rg := ⟨_, rfl⟩
  rw [hrg] at hyes hcode hgn
  clear hrg
  obtain ⟨u, wa, mo, r3, r4, r5, r6, r7, r8, r9⟩ := c
  have hcode2 : okB n ⟨u, wa, mo, r3, r4, r5, r6, r7, r8, r9⟩ = true → ∀ at_ (s : Sp) r, rg at_ (s :: r) = ((withinB s ⟨0, objT n⟩ && !(s.f == s.t) && (s.f % u == 0) && (s.t % u == 0 || s.t == objT n) && (s.t == 4611686018427387904 || decide (s.t - s.f ≤ mo)) && holdsS F s.f s.t && decide (wasteS s U ≤ wa)) && decide (at_ ≤ s.f) && rg s.t r) := hcode
  simp only at hub
  change Hid (∀ W, SAt W A g → SAt W B F → Calls Try.prog 31 #[.agg #[.slice A g.length ca], .agg #[.slice B F.length d], .int .i64 n, .agg #[.int .i64 u, .int .i64 wa, .int .i64 mo, .int .i64 r3, .int .i64 r4, .int .i64 r5, .int .i64 r6, .int .i64 r7, .int .i64 r8, .int .i64 r9]] W (ChkPost W S E)) at hCK
  change (((w.alloc (.cells #[.slice A g.length ca] 30)).alloc (.cells #[.slice B F.length d] 30)).alloc (.cells #[.int .i64 u, .int .i64 wa, .int .i64 mo, .int .i64 r3, .int .i64 r4, .int .i64 r5, .int .i64 r6, .int .i64 r7, .int .i64 r8, .int .i64 r9] 24)).heap[w.heap.size + 1 + 1]? = some (.cells #[.int .i64 u, .int .i64 wa, .int .i64 mo, .int .i64 r3, .int .i64 r4, .int .i64 r5, .int .i64 r6, .int .i64 r7, .int .i64 r8, .int .i64 r9] 24 (0, 0)) at bC
  change (((w.alloc (.cells #[.slice A g.length ca] 30)).alloc (.cells #[.slice B F.length d] 30)).alloc (.cells #[.int .i64 u, .int .i64 wa, .int .i64 mo, .int .i64 r3, .int .i64 r4, .int .i64 r5, .int .i64 r6, .int .i64 r7, .int .i64 r8, .int .i64 r9] 24)).heap[w.heap.size + 1]? = some (.cells #[.slice B F.length d] 30 (0, 0)) at bF
  change Ext w (((w.alloc (.cells #[.slice A g.length ca] 30)).alloc (.cells #[.slice B F.length d] 30)).alloc (.cells #[.int .i64 u, .int .i64 wa, .int .i64 mo, .int .i64 r3, .int .i64 r4, .int .i64 r5, .int .i64 r6, .int .i64 r7, .int .i64 r8, .int .i64 r9] 24)) at hx0
  show Calls Try.prog 29 #[.slice L l.length cl, .agg #[.slice A g.length ca], .agg #[.slice B F.length d], .int .i64 n, .agg #[.int .i64 u, .int .i64 wa, .int .i64 mo, .int .i64 r3, .int .i64 r4, .int .i64 r5, .int .i64 r6, .int .i64 r7, .int .i64 r8, .int .i64 r9]] w fun e w' => e = .returned (.bool R) ∧ Ext w w'
  have HC := Lib.hid hcode2
  have HN := Lib.hid hno
  have HY := Lib.hid hyes
  have HGN := Lib.hid hgn
  have HUB := Lib.hid hub
  have HS := Lib.hid hSd
  have HNU := Lib.hid hUN
  have HK := Lib.hid (hCK.out _ (hg.ext hx0) (hF.ext hx0))
  have HFX := Lib.hid (hF.ext hx0)
  have HLX := Lib.hid (hl.ext hx0)
  clear hcode hcode2 hno hyes hgn hub hSd hUN hCK hg hF hl
  go_enter Try.func29, Try.ntmps29
  go_wp2_with fail
  generalize (((w.alloc (.cells #[.slice A g.length ca] 30)).alloc (.cells #[.slice B F.length d] 30)).alloc (.cells #[.int .i64 u, .int .i64 wa, .int .i64 mo, .int .i64 r3, .int .i64 r4, .int .i64 r5, .int .i64 r6, .int .i64 r7, .int .i64 r8, .int .i64 r9] 24)) = w3 at *
  refine HK.out.mono ?_
  rintro e w4 ⟨A4, c4, rfl, HS4, _, hx4⟩
  cases eE : (E != 0)
  · have hE0 : E = 0 := by simpa using eE
    subst hE0
    have hY := HY.out rfl
    have hS := HS.out rfl
    have hu := HUB.out hY.1
    subst hS
    have HC2 := Lib.hid (HC.out hY.1)
    have HR := Lib.hid hY.2
    have HLB := Lib.hid hu.2
    have hu1 := hu.1.1
    have hu2 := hu.1.2
    have hu0 : u ≠ 0 := by omega
    clear HC HN HY HUB HS HK hY hu
    have hx5 := hx4.alloc (.cells #[.slice A4 S.length c4] 30)
    have u0 : (w4.alloc (.cells #[.slice A4 S.length c4] 30)).cell? ⟨w4.heap.size, 0, none⟩ = some (.slice A4 S.length c4) := by simp
    have hS5 := HS4.out.ext ((Ext.refl w4).alloc (.cells #[.slice A4 S.length c4] 30))
    have hxw := hx0.trans hx5
    have HL5 := Lib.hid (HLX.out.ext hx5)
    have HF5 := Lib.hid (HFX.out.ext hx5)
    have bF5 := hx5.block bF
    have bC5 := hx5.block bC
    have HOB := Lib.hid (fun W => object_calls n W)
    generalize objT n = ot at *
    clear HLX HFX bF bC HS4 hx4 hx5 hx0
    go_wp2_with fail
    generalize w4.alloc (.cells #[.slice A4 S.length c4] 30) = w5 at *
    refine (HOB.out _).mono ?_
    rintro e w6 ⟨rfl, hx6⟩
    have hx7 := hx6.alloc (.cells #[.int .i64 0, .int .i64 ot] 48)
    have o0 : (w6.alloc (.cells #[.int .i64 0, .int .i64 ot] 48)).cell? ⟨w6.heap.size, 0, none⟩ = some (.int .i64 0) := by simp
    have o1 : (w6.alloc (.cells #[.int .i64 0, .int .i64 ot] 48)).cell? ⟨w6.heap.size, 1, none⟩ = some (.int .i64 ot) := by simp
    replace u0 := hx7.cell u0
    have hS7 := hS5.ext hx7
    have hF7 := HF5.out.ext hx7
    have hL7 := HL5.out.ext hx7
    have bF7 := hx7.block bF5
    have bC7 := hx7.block bC5
    have hw7 := hxw.trans hx7
    clear hS5 HF5 HL5 bF5 bC5 hx7 hx6 hxw HOB
    go_wp2
    generalize w6.alloc (.cells #[.int .i64 0, .int .i64 ot] 48) = w7 at *
    go_loopw [14, 33] (fun at_ i wr => ∃ (k : Nat) (a : Int), k ≤ l.length ∧ i = .int .i64 k ∧ at_ = .int .i64 a ∧ Hid (rg 0 l = rg a (l.drop k)) ∧ Ext w7 wr) (fun _ i _ => l.length - (intOf i).toNat)
    case atStart => exact ⟨0, 0, Nat.zero_le _, rfl, rfl, Lib.hid rfl, Ext.refl _⟩
    case round =>
      obtain ⟨k, a, hk, rfl, rfl, HG, hx⟩ := hrel
      by_cases hlt : k < l.length
      · obtain ⟨b, o, rfl, p0, p1⟩ := hL7.ext hx k hlt
        have hdk : l.drop k = l[k] :: l.drop (k + 1) := List.drop_eq_getElem_cons hlt
        have hgs := HC2.out a l[k] (l.drop (k + 1))
        rw [← hdk, ← HG.out] at hgs
        generalize l[k] = s at *
        have hws : ∀ b, wasteS s S = b → wasteS ⟨s.f, s.t⟩ S = b := fun b h => h
        obtain ⟨q1, hq1⟩ : ∃ q1, withinB s ⟨0, ot⟩ = q1 := ⟨_, rfl⟩
        obtain ⟨q2, hq2⟩ : ∃ q2, holdsS F s.f s.t = q2 := ⟨_, rfl⟩
        obtain ⟨q3, hq3⟩ : ∃ q3, wasteS s S = q3 := ⟨_, rfl⟩
        have hxs := hx.trans ((Ext.refl wr).alloc (.cells #[.int .i64 s.f, .int .i64 s.t] 48))
        have HWI : Hid (∀ W, Calls Try.prog 56 #[.agg #[.int .i64 s.f, .int .i64 s.t], .agg #[.int .i64 0, .int .i64 ot]] W fun e w' => e = .returned (.bool q1) ∧ Ext W w') := Lib.hid fun W => by have := within_calls s ⟨0, ot⟩ W; rwa [hq1] at this
        have HHO : Hid (∀ W, Ext w7 W → Calls Try.prog 57 #[.agg #[.slice B F.length d], .agg #[.int .i64 s.f, .int .i64 s.t]] W fun e w' => e = .returned (.bool q2) ∧ Ext W w') := Lib.hid fun W hW => by have := holds_calls B d F s.f s.t W (hF7.ext hW) nF (by omega); rwa [hq2] at this
        have HWA : Hid (∀ W, Ext w7 W → Calls Try.prog 23 #[.agg #[.int .i64 s.f, .int .i64 s.t], .agg #[.slice A4 S.length c4]] W fun e w' => e = .returned (.int .i64 q3) ∧ Ext W w') := Lib.hid fun W hW => by have := waste_calls A4 c4 S s.f s.t W (hS7.ext hW) HNU.out (by omega); rwa [hws q3 hq3] at this
        have hq1b : q1 = true → 0 ≤ s.f ∧ s.f ≤ s.t ∧ s.t ≤ 4611686018427387904 := fun h => by rw [← hq1] at h; simp [withinB, rightB] at h; omega
        rw [hq1, hq2, hq3] at hgs
        have HGS := Lib.hid hgs
        have HQ := Lib.hid hq1b
        have cF : (wr.alloc (.cells #[.int .i64 s.f, .int .i64 s.t] 48)).cell? ⟨w.heap.size + 1, 0, none⟩ = some (.slice B F.length d) := by rw [cell_of_block (hxs.block bF7)]; rfl
        have c0 : (wr.alloc (.cells #[.int .i64 s.f, .int .i64 s.t] 48)).cell? ⟨w.heap.size + 1 + 1, 0, none⟩ = some (.int .i64 u) := by rw [cell_of_block (hxs.block bC7)]; rfl
        have c1 : (wr.alloc (.cells #[.int .i64 s.f, .int .i64 s.t] 48)).cell? ⟨w.heap.size + 1 + 1, 1, none⟩ = some (.int .i64 wa) := by rw [cell_of_block (hxs.block bC7)]; rfl
        have c2 : (wr.alloc (.cells #[.int .i64 s.f, .int .i64 s.t] 48)).cell? ⟨w.heap.size + 1 + 1, 2, none⟩ = some (.int .i64 mo) := by rw [cell_of_block (hxs.block bC7)]; rfl
        have d0 : (wr.alloc (.cells #[.int .i64 s.f, .int .i64 s.t] 48)).cell? ⟨wr.heap.size, 0, none⟩ = some (.int .i64 s.f) := by simp
        have d1 : (wr.alloc (.cells #[.int .i64 s.f, .int .i64 s.t] 48)).cell? ⟨wr.heap.size, 1, none⟩ = some (.int .i64 s.t) := by simp
        have v0 := hxs.cell o0
        have v1 := hxs.cell o1
        have v2 := hxs.cell u0
        clear hgs hdk hq1 hq2 hq3 hws HG hx hq1b
        go_wp2_with fail
        generalize wr.alloc (.cells #[.int .i64 s.f, .int .i64 s.t] 48) = ws at *
        generalize wr.heap.size = xb at *
        refine (HWI.out _).mono ?_
        rintro e w8 ⟨rfl, hx8⟩
        replace d0 := hx8.cell d0
        replace d1 := hx8.cell d1
        replace cF := hx8.cell cF
        replace c0 := hx8.cell c0
        replace c1 := hx8.cell c1
        replace c2 := hx8.cell c2
        replace v1 := hx8.cell v1
        replace v2 := hx8.cell v2
        have hx9 := hxs.trans hx8
        clear hxs hx8 HWI v0
        cases q1
        · have HF : Hid (R = false) := Lib.hid (by rw [HR.out, HGS.out]; simp [])
          clear HGS
          go_wp2
          go_ret
          exact ⟨by rw [HF.out]; rfl, hw7.trans hx9⟩
        · obtain ⟨k1, k2, k3⟩ := HQ.out rfl
          cases e1 : (s.f == s.t)
          · by_cases e2 : s.f < a
            · have e2' : ¬ a ≤ s.f := by omega
              have HF : Hid (R = false) := Lib.hid (by rw [HR.out, HGS.out]; simp [e2'])
              clear HGS
              go_wp2
              go_ret
              exact ⟨by rw [HF.out]; rfl, hw7.trans hx9⟩
            · have e2' : a ≤ s.f := by omega
              cases e3 : (s.f % u == 0)
              · have e3' : (s.f % u != 0) = true := by simp [bne, e3]
                have HF : Hid (R = false) := Lib.hid (by rw [HR.out, HGS.out]; simp [e3])
                clear HGS
                go_wp2
                go_ret
                exact ⟨by rw [HF.out]; rfl, hw7.trans hx9⟩
              · have e3' : (s.f % u != 0) = false := by simp [bne, e3]
                cases e4 : (s.t % u == 0 || s.t == ot)
                · have e5 : (s.t % u == 0) = false ∧ (s.t == ot) = false := by simpa using e4
                  obtain ⟨e5, e6⟩ := e5
                  have e5' : (s.t % u != 0) = true := by simp [bne, e5]
                  have e6' : (s.t != ot) = true := by simp [bne, e6]
                  have HF : Hid (R = false) := Lib.hid (by rw [HR.out, HGS.out]; simp [e5, e6])
                  clear HGS
                  go_wp2
                  go_ret
                  exact ⟨by rw [HF.out]; rfl, hw7.trans hx9⟩
                · cases e7 : (s.t == 4611686018427387904 || decide (s.t - s.f ≤ mo))
                  · have e8 : (s.t == 4611686018427387904) = false ∧ decide (s.t - s.f ≤ mo) = false := by simpa using e7
                    obtain ⟨e8, e9⟩ := e8
                    have e8' : (s.t != 4611686018427387904) = true := by simp [bne, e8]
                    have e9' : mo < s.t - s.f := by simpa using e9
                    have HF : Hid (R = false) := Lib.hid (by rw [HR.out, HGS.out]; simp [e8, e9])
                    clear HGS e9
                    cases e5 : (s.t % u == 0)
                    · have e5' : (s.t % u != 0) = true := by simp [bne, e5]
                      have e6 : (s.t == ot) = true := by rw [e5] at e4; simpa using e4
                      have e6' : (s.t != ot) = false := by simp [bne, e6]
                      clear e4 e7
                      go_wp2
                      go_ret
                      exact ⟨by rw [HF.out]; rfl, hw7.trans hx9⟩
                    · have e5' : (s.t % u != 0) = false := by simp [bne, e5]
                      clear e4 e7
                      go_wp2
                      go_ret
                      exact ⟨by rw [HF.out]; rfl, hw7.trans hx9⟩
                  · have HGS2 : Hid (rg 0 l = (q2 && decide (q3 ≤ wa) && rg s.t (l.drop (k + 1)))) := Lib.hid (by rw [HGS.out, e1, e3, e4, e7]; simp [e2'])
                    clear HGS
                    cases e5 : (s.t % u == 0)
                    · have e5' : (s.t % u != 0) = true := by simp [bne, e5]
                      have e6 : (s.t == ot) = true := by rw [e5] at e4; simpa using e4
                      have e6' : (s.t != ot) = false := by simp [bne, e6]
                      cases e8 : (s.t == 4611686018427387904)
                      · have e8' : (s.t != 4611686018427387904) = true := by simp [bne, e8]
                        have e9 : s.t - s.f ≤ mo := by rw [e8] at e7; simpa using e7
                        clear e4 e7
                        go_wp2
                        cases q2
                        · have HF : Hid (R = false) := Lib.hid (by rw [HR.out, HGS2.out]; simp)
                          clear HGS2
                          refine wp_region_ext_lit (by kernel_rfl) (by kernel_rfl) ?_
                          intro X _ g hg hg'
                          have j0 : ∀ n, (g n).cell? ⟨w.heap.size + 1, 0, none⟩ = some (.slice B F.length d) := fun n => (hg n).cell cF
                          have j1 : ∀ n, (g n).cell? ⟨xb, 0, none⟩ = some (.int .i64 s.f) := fun n => (hg n).cell d0
                          have j2 : ∀ n, (g n).cell? ⟨xb, 1, none⟩ = some (.int .i64 s.t) := fun n => (hg n).cell d1
                          have j3 : ∀ n, (g n).cell? ⟨w4.heap.size, 0, none⟩ = some (.slice A4 S.length c4) := fun n => (hg n).cell v2
                          have j4 : ∀ n, (g n).cell? ⟨w.heap.size + 1 + 1, 1, none⟩ = some (.int .i64 wa) := fun n => (hg n).cell c1
                          repeat (go_big_quiet_step (first | (go_at_call 57; exact (HHO.out _ (hx9.trans (hg _))).mono fun e w2 ⟨he, hx⟩ => ⟨he, hg' _ ((hg _).trans hx)⟩) | (go_at_call 23; exact (HWA.out _ (hx9.trans (hg _))).mono fun e w2 ⟨he, hx⟩ => ⟨he, hg' _ ((hg _).trans hx)⟩)))
                          refine wpQuiet_nil ?_
                          rintro w' ⟨m', rfl⟩
                          have hxg := hg m'
                          clear hg hg' j0 j1 j2 j3 j4
                          go_wp2
                          go_ret
                          exact ⟨by rw [HF.out]; rfl, hw7.trans (hx9.trans hxg)⟩
                        · by_cases e10 : q3 ≤ wa
                          · have HG2 : Hid (rg 0 l = rg s.t (l.drop (k + 1))) := Lib.hid (by rw [HGS2.out]; simp [e10])
                            clear HGS2
                            refine wp_region_ext_lit (by kernel_rfl) (by kernel_rfl) ?_
                            intro X _ g hg hg'
                            have j0 : ∀ n, (g n).cell? ⟨w.heap.size + 1, 0, none⟩ = some (.slice B F.length d) := fun n => (hg n).cell cF
                            have j1 : ∀ n, (g n).cell? ⟨xb, 0, none⟩ = some (.int .i64 s.f) := fun n => (hg n).cell d0
                            have j2 : ∀ n, (g n).cell? ⟨xb, 1, none⟩ = some (.int .i64 s.t) := fun n => (hg n).cell d1
                            have j3 : ∀ n, (g n).cell? ⟨w4.heap.size, 0, none⟩ = some (.slice A4 S.length c4) := fun n => (hg n).cell v2
                            have j4 : ∀ n, (g n).cell? ⟨w.heap.size + 1 + 1, 1, none⟩ = some (.int .i64 wa) := fun n => (hg n).cell c1
                            repeat (go_big_quiet_step (first | (go_at_call 57; exact (HHO.out _ (hx9.trans (hg _))).mono fun e w2 ⟨he, hx⟩ => ⟨he, hg' _ ((hg _).trans hx)⟩) | (go_at_call 23; exact (HWA.out _ (hx9.trans (hg _))).mono fun e w2 ⟨he, hx⟩ => ⟨he, hg' _ ((hg _).trans hx)⟩)))
                            refine wpQuiet_nil ?_
                            rintro w' ⟨m', rfl⟩
                            have hxg := hg m'
                            clear hg hg' j0 j1 j2 j3 j4
                            go_wp2
                            go_roundw
                            case rel => exact ⟨k + 1, s.t, by omega, by go_num, rfl, HG2, hx9.trans hxg⟩
                            case measure => simp [intOf]; omega
                          · have HF : Hid (R = false) := Lib.hid (by rw [HR.out, HGS2.out]; simp [e10])
                            clear HGS2
                            refine wp_region_ext_lit (by kernel_rfl) (by kernel_rfl) ?_
                            intro X _ g hg hg'
                            have j0 : ∀ n, (g n).cell? ⟨w.heap.size + 1, 0, none⟩ = some (.slice B F.length d) := fun n => (hg n).cell cF
                            have j1 : ∀ n, (g n).cell? ⟨xb, 0, none⟩ = some (.int .i64 s.f) := fun n => (hg n).cell d0
                            have j2 : ∀ n, (g n).cell? ⟨xb, 1, none⟩ = some (.int .i64 s.t) := fun n => (hg n).cell d1
                            have j3 : ∀ n, (g n).cell? ⟨w4.heap.size, 0, none⟩ = some (.slice A4 S.length c4) := fun n => (hg n).cell v2
                            have j4 : ∀ n, (g n).cell? ⟨w.heap.size + 1 + 1, 1, none⟩ = some (.int .i64 wa) := fun n => (hg n).cell c1
                            repeat (go_big_quiet_step (first | (go_at_call 57; exact (HHO.out _ (hx9.trans (hg _))).mono fun e w2 ⟨he, hx⟩ => ⟨he, hg' _ ((hg _).trans hx)⟩) | (go_at_call 23; exact (HWA.out _ (hx9.trans (hg _))).mono fun e w2 ⟨he, hx⟩ => ⟨he, hg' _ ((hg _).trans hx)⟩)))
                            refine wpQuiet_nil ?_
                            rintro w' ⟨m', rfl⟩
                            have hxg := hg m'
                            clear hg hg' j0 j1 j2 j3 j4
                            go_wp2
                            go_ret
                            exact ⟨by rw [HF.out]; rfl, hw7.trans (hx9.trans hxg)⟩
                      · have e8' : (s.t != 4611686018427387904) = false := by simp [bne, e8]
                        clear e4 e7
                        go_wp2
                        cases q2
                        · have HF : Hid (R = false) := Lib.hid (by rw [HR.out, HGS2.out]; simp)
                          clear HGS2
                          refine wp_region_ext_lit (by kernel_rfl) (by kernel_rfl) ?_
                          intro X _ g hg hg'
                          have j0 : ∀ n, (g n).cell? ⟨w.heap.size + 1, 0, none⟩ = some (.slice B F.length d) := fun n => (hg n).cell cF
                          have j1 : ∀ n, (g n).cell? ⟨xb, 0, none⟩ = some (.int .i64 s.f) := fun n => (hg n).cell d0
                          have j2 : ∀ n, (g n).cell? ⟨xb, 1, none⟩ = some (.int .i64 s.t) := fun n => (hg n).cell d1
                          have j3 : ∀ n, (g n).cell? ⟨w4.heap.size, 0, none⟩ = some (.slice A4 S.length c4) := fun n => (hg n).cell v2
                          have j4 : ∀ n, (g n).cell? ⟨w.heap.size + 1 + 1, 1, none⟩ = some (.int .i64 wa) := fun n => (hg n).cell c1
                          repeat (go_big_quiet_step (first | (go_at_call 57; exact (HHO.out _ (hx9.trans (hg _))).mono fun e w2 ⟨he, hx⟩ => ⟨he, hg' _ ((hg _).trans hx)⟩) | (go_at_call 23; exact (HWA.out _ (hx9.trans (hg _))).mono fun e w2 ⟨he, hx⟩ => ⟨he, hg' _ ((hg _).trans hx)⟩)))
                          refine wpQuiet_nil ?_
                          rintro w' ⟨m', rfl⟩
                          have hxg := hg m'
                          clear hg hg' j0 j1 j2 j3 j4
                          go_wp2
                          go_ret
                          exact ⟨by rw [HF.out]; rfl, hw7.trans (hx9.trans hxg)⟩
                        · by_cases e10 : q3 ≤ wa
                          · have HG2 : Hid (rg 0 l = rg s.t (l.drop (k + 1))) := Lib.hid (by rw [HGS2.out]; simp [e10])
                            clear HGS2
                            refine wp_region_ext_lit (by kernel_rfl) (by kernel_rfl) ?_
                            intro X _ g hg hg'
                            have j0 : ∀ n, (g n).cell? ⟨w.heap.size + 1, 0, none⟩ = some (.slice B F.length d) := fun n => (hg n).cell cF
                            have j1 : ∀ n, (g n).cell? ⟨xb, 0, none⟩ = some (.int .i64 s.f) := fun n => (hg n).cell d0
                            have j2 : ∀ n, (g n).cell? ⟨xb, 1, none⟩ = some (.int .i64 s.t) := fun n => (hg n).cell d1
                            have j3 : ∀ n, (g n).cell? ⟨w4.heap.size, 0, none⟩ = some (.slice A4 S.length c4) := fun n => (hg n).cell v2
                            have j4 : ∀ n, (g n).cell? ⟨w.heap.size + 1 + 1, 1, none⟩ = some (.int .i64 wa) := fun n => (hg n).cell c1
                            repeat (go_big_quiet_step (first | (go_at_call 57; exact (HHO.out _ (hx9.trans (hg _))).mono fun e w2 ⟨he, hx⟩ => ⟨he, hg' _ ((hg _).trans hx)⟩) | (go_at_call 23; exact (HWA.out _ (hx9.trans (hg _))).mono fun e w2 ⟨he, hx⟩ => ⟨he, hg' _ ((hg _).trans hx)⟩)))
                            refine wpQuiet_nil ?_
                            rintro w' ⟨m', rfl⟩
                            have hxg := hg m'
                            clear hg hg' j0 j1 j2 j3 j4
                            go_wp2
                            go_roundw
                            case rel => exact ⟨k + 1, s.t, by omega, by go_num, rfl, HG2, hx9.trans hxg⟩
                            case measure => simp [intOf]; omega
                          · have HF : Hid (R = false) := Lib.hid (by rw [HR.out, HGS2.out]; simp [e10])
                            clear HGS2
                            refine wp_region_ext_lit (by kernel_rfl) (by kernel_rfl) ?_
                            intro X _ g hg hg'
                            have j0 : ∀ n, (g n).cell? ⟨w.heap.size + 1, 0, none⟩ = some (.slice B F.length d) := fun n => (hg n).cell cF
                            have j1 : ∀ n, (g n).cell? ⟨xb, 0, none⟩ = some (.int .i64 s.f) := fun n => (hg n).cell d0
                            have j2 : ∀ n, (g n).cell? ⟨xb, 1, none⟩ = some (.int .i64 s.t) := fun n => (hg n).cell d1
                            have j3 : ∀ n, (g n).cell? ⟨w4.heap.size, 0, none⟩ = some (.slice A4 S.length c4) := fun n => (hg n).cell v2
                            have j4 : ∀ n, (g n).cell? ⟨w.heap.size + 1 + 1, 1, none⟩ = some (.int .i64 wa) := fun n => (hg n).cell c1
                            repeat (go_big_quiet_step (first | (go_at_call 57; exact (HHO.out _ (hx9.trans (hg _))).mono fun e w2 ⟨he, hx⟩ => ⟨he, hg' _ ((hg _).trans hx)⟩) | (go_at_call 23; exact (HWA.out _ (hx9.trans (hg _))).mono fun e w2 ⟨he, hx⟩ => ⟨he, hg' _ ((hg _).trans hx)⟩)))
                            refine wpQuiet_nil ?_
                            rintro w' ⟨m', rfl⟩
                            have hxg := hg m'
                            clear hg hg' j0 j1 j2 j3 j4
                            go_wp2
                            go_ret
                            exact ⟨by rw [HF.out]; rfl, hw7.trans (hx9.trans hxg)⟩
                    · have e5' : (s.t % u != 0) = false := by simp [bne, e5]
                      cases e8 : (s.t == 4611686018427387904)
                      · have e8' : (s.t != 4611686018427387904) = true := by simp [bne, e8]
                        have e9 : s.t - s.f ≤ mo := by rw [e8] at e7; simpa using e7
                        clear e4 e7
                        go_wp2
                        cases q2
                        · have HF : Hid (R = false) := Lib.hid (by rw [HR.out, HGS2.out]; simp)
                          clear HGS2
                          refine wp_region_ext_lit (by kernel_rfl) (by kernel_rfl) ?_
                          intro X _ g hg hg'
                          have j0 : ∀ n, (g n).cell? ⟨w.heap.size + 1, 0, none⟩ = some (.slice B F.length d) := fun n => (hg n).cell cF
                          have j1 : ∀ n, (g n).cell? ⟨xb, 0, none⟩ = some (.int .i64 s.f) := fun n => (hg n).cell d0
                          have j2 : ∀ n, (g n).cell? ⟨xb, 1, none⟩ = some (.int .i64 s.t) := fun n => (hg n).cell d1
                          have j3 : ∀ n, (g n).cell? ⟨w4.heap.size, 0, none⟩ = some (.slice A4 S.length c4) := fun n => (hg n).cell v2
                          have j4 : ∀ n, (g n).cell? ⟨w.heap.size + 1 + 1, 1, none⟩ = some (.int .i64 wa) := fun n => (hg n).cell c1
                          repeat (go_big_quiet_step (first | (go_at_call 57; exact (HHO.out _ (hx9.trans (hg _))).mono fun e w2 ⟨he, hx⟩ => ⟨he, hg' _ ((hg _).trans hx)⟩) | (go_at_call 23; exact (HWA.out _ (hx9.trans (hg _))).mono fun e w2 ⟨he, hx⟩ => ⟨he, hg' _ ((hg _).trans hx)⟩)))
                          refine wpQuiet_nil ?_
                          rintro w' ⟨m', rfl⟩
                          have hxg := hg m'
                          clear hg hg' j0 j1 j2 j3 j4
                          go_wp2
                          go_ret
                          exact ⟨by rw [HF.out]; rfl, hw7.trans (hx9.trans hxg)⟩
                        · by_cases e10 : q3 ≤ wa
                          · have HG2 : Hid (rg 0 l = rg s.t (l.drop (k + 1))) := Lib.hid (by rw [HGS2.out]; simp [e10])
                            clear HGS2
                            refine wp_region_ext_lit (by kernel_rfl) (by kernel_rfl) ?_
                            intro X _ g hg hg'
                            have j0 : ∀ n, (g n).cell? ⟨w.heap.size + 1, 0, none⟩ = some (.slice B F.length d) := fun n => (hg n).cell cF
                            have j1 : ∀ n, (g n).cell? ⟨xb, 0, none⟩ = some (.int .i64 s.f) := fun n => (hg n).cell d0
                            have j2 : ∀ n, (g n).cell? ⟨xb, 1, none⟩ = some (.int .i64 s.t) := fun n => (hg n).cell d1
                            have j3 : ∀ n, (g n).cell? ⟨w4.heap.size, 0, none⟩ = some (.slice A4 S.length c4) := fun n => (hg n).cell v2
                            have j4 : ∀ n, (g n).cell? ⟨w.heap.size + 1 + 1, 1, none⟩ = some (.int .i64 wa) := fun n => (hg n).cell c1
                            repeat (go_big_quiet_step (first | (go_at_call 57; exact (HHO.out _ (hx9.trans (hg _))).mono fun e w2 ⟨he, hx⟩ => ⟨he, hg' _ ((hg _).trans hx)⟩) | (go_at_call 23; exact (HWA.out _ (hx9.trans (hg _))).mono fun e w2 ⟨he, hx⟩ => ⟨he, hg' _ ((hg _).trans hx)⟩)))
                            refine wpQuiet_nil ?_
                            rintro w' ⟨m', rfl⟩
                            have hxg := hg m'
                            clear hg hg' j0 j1 j2 j3 j4
                            go_wp2
                            go_roundw
                            case rel => exact ⟨k + 1, s.t, by omega, by go_num, rfl, HG2, hx9.trans hxg⟩
                            case measure => simp [intOf]; omega
                          · have HF : Hid (R = false) := Lib.hid (by rw [HR.out, HGS2.out]; simp [e10])
                            clear HGS2
                            refine wp_region_ext_lit (by kernel_rfl) (by kernel_rfl) ?_
                            intro X _ g hg hg'
                            have j0 : ∀ n, (g n).cell? ⟨w.heap.size + 1, 0, none⟩ = some (.slice B F.length d) := fun n => (hg n).cell cF
                            have j1 : ∀ n, (g n).cell? ⟨xb, 0, none⟩ = some (.int .i64 s.f) := fun n => (hg n).cell d0
                            have j2 : ∀ n, (g n).cell? ⟨xb, 1, none⟩ = some (.int .i64 s.t) := fun n => (hg n).cell d1
                            have j3 : ∀ n, (g n).cell? ⟨w4.heap.size, 0, none⟩ = some (.slice A4 S.length c4) := fun n => (hg n).cell v2
                            have j4 : ∀ n, (g n).cell? ⟨w.heap.size + 1 + 1, 1, none⟩ = some (.int .i64 wa) := fun n => (hg n).cell c1
                            repeat (go_big_quiet_step (first | (go_at_call 57; exact (HHO.out _ (hx9.trans (hg _))).mono fun e w2 ⟨he, hx⟩ => ⟨he, hg' _ ((hg _).trans hx)⟩) | (go_at_call 23; exact (HWA.out _ (hx9.trans (hg _))).mono fun e w2 ⟨he, hx⟩ => ⟨he, hg' _ ((hg _).trans hx)⟩)))
                            refine wpQuiet_nil ?_
                            rintro w' ⟨m', rfl⟩
                            have hxg := hg m'
                            clear hg hg' j0 j1 j2 j3 j4
                            go_wp2
                            go_ret
                            exact ⟨by rw [HF.out]; rfl, hw7.trans (hx9.trans hxg)⟩
                      · have e8' : (s.t != 4611686018427387904) = false := by simp [bne, e8]
                        clear e4 e7
                        go_wp2
                        cases q2
                        · have HF : Hid (R = false) := Lib.hid (by rw [HR.out, HGS2.out]; simp)
                          clear HGS2
                          refine wp_region_ext_lit (by kernel_rfl) (by kernel_rfl) ?_
                          intro X _ g hg hg'
                          have j0 : ∀ n, (g n).cell? ⟨w.heap.size + 1, 0, none⟩ = some (.slice B F.length d) := fun n => (hg n).cell cF
                          have j1 : ∀ n, (g n).cell? ⟨xb, 0, none⟩ = some (.int .i64 s.f) := fun n => (hg n).cell d0
                          have j2 : ∀ n, (g n).cell? ⟨xb, 1, none⟩ = some (.int .i64 s.t) := fun n => (hg n).cell d1
                          have j3 : ∀ n, (g n).cell? ⟨w4.heap.size, 0, none⟩ = some (.slice A4 S.length c4) := fun n => (hg n).cell v2
                          have j4 : ∀ n, (g n).cell? ⟨w.heap.size + 1 + 1, 1, none⟩ = some (.int .i64 wa) := fun n => (hg n).cell c1
                          repeat (go_big_quiet_step (first | (go_at_call 57; exact (HHO.out _ (hx9.trans (hg _))).mono fun e w2 ⟨he, hx⟩ => ⟨he, hg' _ ((hg _).trans hx)⟩) | (go_at_call 23; exact (HWA.out _ (hx9.trans (hg _))).mono fun e w2 ⟨he, hx⟩ => ⟨he, hg' _ ((hg _).trans hx)⟩)))
                          refine wpQuiet_nil ?_
                          rintro w' ⟨m', rfl⟩
                          have hxg := hg m'
                          clear hg hg' j0 j1 j2 j3 j4
                          go_wp2
                          go_ret
                          exact ⟨by rw [HF.out]; rfl, hw7.trans (hx9.trans hxg)⟩
                        · by_cases e10 : q3 ≤ wa
                          · have HG2 : Hid (rg 0 l = rg s.t (l.drop (k + 1))) := Lib.hid (by rw [HGS2.out]; simp [e10])
                            clear HGS2
                            refine wp_region_ext_lit (by kernel_rfl) (by kernel_rfl) ?_
                            intro X _ g hg hg'
                            have j0 : ∀ n, (g n).cell? ⟨w.heap.size + 1, 0, none⟩ = some (.slice B F.length d) := fun n => (hg n).cell cF
                            have j1 : ∀ n, (g n).cell? ⟨xb, 0, none⟩ = some (.int .i64 s.f) := fun n => (hg n).cell d0
                            have j2 : ∀ n, (g n).cell? ⟨xb, 1, none⟩ = some (.int .i64 s.t) := fun n => (hg n).cell d1
                            have j3 : ∀ n, (g n).cell? ⟨w4.heap.size, 0, none⟩ = some (.slice A4 S.length c4) := fun n => (hg n).cell v2
                            have j4 : ∀ n, (g n).cell? ⟨w.heap.size + 1 + 1, 1, none⟩ = some (.int .i64 wa) := fun n => (hg n).cell c1
                            repeat (go_big_quiet_step (first | (go_at_call 57; exact (HHO.out _ (hx9.trans (hg _))).mono fun e w2 ⟨he, hx⟩ => ⟨he, hg' _ ((hg _).trans hx)⟩) | (go_at_call 23; exact (HWA.out _ (hx9.trans (hg _))).mono fun e w2 ⟨he, hx⟩ => ⟨he, hg' _ ((hg _).trans hx)⟩)))
                            refine wpQuiet_nil ?_
                            rintro w' ⟨m', rfl⟩
                            have hxg := hg m'
                            clear hg hg' j0 j1 j2 j3 j4
                            go_wp2
                            go_roundw
                            case rel => exact ⟨k + 1, s.t, by omega, by go_num, rfl, HG2, hx9.trans hxg⟩
                            case measure => simp [intOf]; omega
                          · have HF : Hid (R = false) := Lib.hid (by rw [HR.out, HGS2.out]; simp [e10])
                            clear HGS2
                            refine wp_region_ext_lit (by kernel_rfl) (by kernel_rfl) ?_
                            intro X _ g hg hg'
                            have j0 : ∀ n, (g n).cell? ⟨w.heap.size + 1, 0, none⟩ = some (.slice B F.length d) := fun n => (hg n).cell cF
                            have j1 : ∀ n, (g n).cell? ⟨xb, 0, none⟩ = some (.int .i64 s.f) := fun n => (hg n).cell d0
                            have j2 : ∀ n, (g n).cell? ⟨xb, 1, none⟩ = some (.int .i64 s.t) := fun n => (hg n).cell d1
                            have j3 : ∀ n, (g n).cell? ⟨w4.heap.size, 0, none⟩ = some (.slice A4 S.length c4) := fun n => (hg n).cell v2
                            have j4 : ∀ n, (g n).cell? ⟨w.heap.size + 1 + 1, 1, none⟩ = some (.int .i64 wa) := fun n => (hg n).cell c1
                            repeat (go_big_quiet_step (first | (go_at_call 57; exact (HHO.out _ (hx9.trans (hg _))).mono fun e w2 ⟨he, hx⟩ => ⟨he, hg' _ ((hg _).trans hx)⟩) | (go_at_call 23; exact (HWA.out _ (hx9.trans (hg _))).mono fun e w2 ⟨he, hx⟩ => ⟨he, hg' _ ((hg _).trans hx)⟩)))
                            refine wpQuiet_nil ?_
                            rintro w' ⟨m', rfl⟩
                            have hxg := hg m'
                            clear hg hg' j0 j1 j2 j3 j4
                            go_wp2
                            go_ret
                            exact ⟨by rw [HF.out]; rfl, hw7.trans (hx9.trans hxg)⟩
          · have HF : Hid (R = false) := Lib.hid (by rw [HR.out, HGS.out]; simp [e1])
            clear HGS
            go_wp2
            go_ret
            exact ⟨by rw [HF.out]; rfl, hw7.trans hx9⟩
      · obtain rfl : k = l.length := by omega
        have HG2 : Hid (rg 0 l = true) := Lib.hid (by rw [HG.out, List.drop_length]; exact HGN.out a)
        have HR2 : Hid (R = ((lessS S (ofS l)).length == 0)) := Lib.hid (by rw [HR.out, HG2.out]; rfl)
        clear HR HG HG2
        have v2 := hx.cell u0
        have hSr := hS7.ext hx
        have hLr := hL7.ext hx
        have hwr := hw7.trans hx
        have HOF := Lib.hid (fun W (hW : Ext wr W) => of_calls L cl l W (hLr.ext hW) (by omega))
        have hol := of_length l
        have HLS : Hid (∀ W B' d', Ext wr W → SAt W B' (ofS l) → Calls Try.prog 28 #[.agg #[.slice A4 S.length c4], .agg #[.slice B' (ofS l).length d']] W fun e w' => SetPost W (lessS S (ofS l)) e w' ∧ (lessS S (ofS l)).length ≤ S.length + (ofS l).length) := Lib.hid fun W B' d' hW hB => less_calls A4 c4 S B' d' (ofS l) W (hSr.ext hW) hB HNU.out (norm_of l) (by omega) (by omega)
        have HNL : Hid (Norm (lessS S (ofS l))) := Lib.hid (norm_less _ _)
        generalize ofS l = O at *
        generalize lessS S O = LS at *
        have HR3 : Hid (R = !(firstS LS 0).isSome) := Lib.hid (by rw [HR2.out, first_len HNL.out])
        obtain ⟨p, q, hpq⟩ := optV_agg (firstS LS 0)
        obtain ⟨fs, hfs⟩ : ∃ fs, (firstS LS 0).isSome = fs := ⟨_, rfl⟩
        have HFI : Hid (∀ W B' d', SAt W B' LS → LS.length ≤ 400000 → Calls Try.prog 32 #[.agg #[.slice B' LS.length d'], .int .i64 0] W fun e w' => e = .returned (.tuple #[.agg #[.int .i64 p, .int .i64 q], .bool fs]) ∧ Ext W w') := Lib.hid fun W B' d' hB hl => by
          have := first_calls B' d' LS 0 W hB HNL.out (by omega)
          rwa [hpq, hfs] at this
        rw [hfs] at HR3
        clear hpq hfs HR2 hSr hLr hx
        go_wp2
        go_upto_region 19 with (fail)
        go_cut [17, 18] from 103 to 110 (fun p v wx => v = .bool fs ∧ Ext wr wx)
        case first =>
          have HE := Lib.hid (Ext.refl wr).drew
          have HBX := Lib.hid (heap_alloc_new wr (.cells #[.int .i64 0, .int .i64 0] 48))
          have hkk : ∀ (W : World) (bx : Nat) (u v : Value), Ext wr W → wr.heap.size ≤ bx → ((W.setCell ⟨bx, 0, none⟩ u).setCell ⟨bx, 1, none⟩ v).cell? ⟨w4.heap.size, 0, none⟩ = some (.slice A4 S.length c4) := fun W bx u v hE hb => ((hE.setCell (p := ⟨bx, 0, none⟩) hb u).setCell (p := ⟨bx, 1, none⟩) hb v).cell v2
          refine wp_region_noPanic ?_
          go_region_held3 (fun W => W.cell? ⟨w4.heap.size, 0, none⟩ = some (.slice A4 S.length c4))
            (first | (refine (fun hE => Ext.cell hE v2 : Ext wr _ → _) ?_; (repeat' with_reducible first | exact hE6.out | exact hE5.out | exact hE4.out | exact Ext.refl _ | refine Ext.drew ?_ | refine Ext.alloc ?_ _); done) | exact hkk _ _ _ _ hE6.out (Nat.le_refl _) | exact hkk _ _ _ _ hE6.out hE4.out.size | exact hkk _ _ _ _ hE6.out hE5.out.size | exact hkk _ _ _ _ (hE6.out.alloc _) hE6.out.size)
            (first
              | (go_at_call 22
                 (refine (HOF.out _ (by (repeat' with_reducible first | exact hE6.out | exact hE5.out | exact hE4.out | exact Ext.refl _ | refine Ext.drew ?_ | refine Ext.alloc ?_ _))).mono ?_)
                 rintro e y4 ⟨B4, k4, rfl, HT4, _, hz4⟩
                 have hE4 : Hid (Ext wr y4) := Lib.hid (Ext.trans (by (repeat' with_reducible first | exact hE6.out | exact hE5.out | exact hE4.out | exact Ext.refl _ | refine Ext.drew ?_ | refine Ext.alloc ?_ _)) hz4)
                 (try (refine (fun (yb4 : y4.heap[wr.heap.size]? = some (.cells #[.int .i64 0, .int .i64 0] 48 (0, 0))) => ?_) ?_; rotate_left; · (exact hz4.block HBX.out; done)))
        )
              | (go_at_call 28
                 (refine (HLS.out _ _ _ (by (repeat' with_reducible first | exact hE6.out | exact hE5.out | exact hE4.out | exact Ext.refl _ | refine Ext.drew ?_ | refine Ext.alloc ?_ _)) (HT4.out.ext (by (repeat' with_reducible first | exact Ext.refl _ | refine Ext.alloc ?_ _)))).mono ?_)
                 rintro e y5 ⟨⟨B5, k5, rfl, HT5, _, hz5⟩, hl5⟩
                 have hE5 : Hid (Ext wr y5) := Lib.hid (Ext.trans (by (repeat' with_reducible first | exact hE6.out | exact hE5.out | exact hE4.out | exact Ext.refl _ | refine Ext.drew ?_ | refine Ext.alloc ?_ _)) hz5)
                 (try (refine (fun (yb5 : y5.heap[wr.heap.size]? = some (.cells #[.int .i64 0, .int .i64 0] 48 (0, 0))) => ?_) ?_; rotate_left; · (exact hz5.block yb4; done)))
                 (try (refine (fun (yc5 : y5.heap[y4.heap.size]? = some (.cells #[.int .i64 0, .int .i64 0] 48 (0, 0))) => ?_) ?_; rotate_left; · (exact hz5.block (heap_alloc_new y4 _); done))))
              | (go_at_call 32
                 (refine (HFI.out _ _ _ (HT5.out.ext (by (repeat' with_reducible first | exact Ext.refl _ | refine Ext.alloc ?_ _))) (by omega)).mono ?_)
                 rintro e y6 ⟨rfl, hz6⟩
                 have hE6 : Hid (Ext wr y6) := Lib.hid (Ext.trans (by (repeat' with_reducible first | exact hE6.out | exact hE5.out | exact hE4.out | exact Ext.refl _ | refine Ext.drew ?_ | refine Ext.alloc ?_ _)) hz6)
                 (try (refine (fun (yb6 : y6.heap[wr.heap.size]? = some (.cells #[.int .i64 0, .int .i64 0] 48 (0, 0))) => ?_) ?_; rotate_left; · (exact hz6.block yb5; done)))
                 (try (refine (fun (yc6 : y6.heap[y4.heap.size]? = some (.cells #[.int .i64 0, .int .i64 0] 48 (0, 0))) => ?_) ?_; rotate_left; · (exact hz6.block yc5; done)))
                 (try (refine (fun (yd6 : y6.heap[y5.heap.size]? = some (.cells #[.int .i64 0, .int .i64 0] 48 (0, 0))) => ?_) ?_; rotate_left; · (exact hz6.block (heap_alloc_new y5 _); done)))
                 (try (refine (fun (y0 : y6.cell? ⟨wr.heap.size, 0, none⟩ = some (.int .i64 0)) => ?_) ?_; rotate_left; · (rw [cell_of_block yb6]; rfl; done)))
                 (try (refine (fun (y1 : y6.cell? ⟨wr.heap.size, 1, none⟩ = some (.int .i64 0)) => ?_) ?_; rotate_left; · (rw [cell_of_block yb6]; rfl; done)))
                 (try (refine (fun (z0 : y6.frozen? ⟨wr.heap.size, 0, none⟩ = false) => ?_) ?_; rotate_left; · (exact frozen_of_block yb6 0; done)))
                 (try (refine (fun (z1 : y6.frozen? ⟨wr.heap.size, 1, none⟩ = false) => ?_) ?_; rotate_left; · (exact frozen_of_block yb6 1; done)))
                 (try (refine (fun (y0 : y6.cell? ⟨y4.heap.size, 0, none⟩ = some (.int .i64 0)) => ?_) ?_; rotate_left; · (rw [cell_of_block yc6]; rfl; done)))
                 (try (refine (fun (y1 : y6.cell? ⟨y4.heap.size, 1, none⟩ = some (.int .i64 0)) => ?_) ?_; rotate_left; · (rw [cell_of_block yc6]; rfl; done)))
                 (try (refine (fun (z0 : y6.frozen? ⟨y4.heap.size, 0, none⟩ = false) => ?_) ?_; rotate_left; · (exact frozen_of_block yc6 0; done)))
                 (try (refine (fun (z1 : y6.frozen? ⟨y4.heap.size, 1, none⟩ = false) => ?_) ?_; rotate_left; · (exact frozen_of_block yc6 1; done)))
                 (try (refine (fun (y0 : y6.cell? ⟨y5.heap.size, 0, none⟩ = some (.int .i64 0)) => ?_) ?_; rotate_left; · (rw [cell_of_block yd6]; rfl; done)))
                 (try (refine (fun (y1 : y6.cell? ⟨y5.heap.size, 1, none⟩ = some (.int .i64 0)) => ?_) ?_; rotate_left; · (rw [cell_of_block yd6]; rfl; done)))
                 (try (refine (fun (z0 : y6.frozen? ⟨y5.heap.size, 0, none⟩ = false) => ?_) ?_; rotate_left; · (exact frozen_of_block yd6 0; done)))
                 (try (refine (fun (z1 : y6.frozen? ⟨y5.heap.size, 1, none⟩ = false) => ?_) ?_; rotate_left; · (exact frozen_of_block yd6 1; done)))))
          all_goals refine noPanic_intro ?_
          all_goals go_wp2_with fail
          all_goals go_meet
          all_goals first
            | exact ⟨rfl, (hE6.out.setCell (p := ⟨wr.heap.size, 0, none⟩) (Nat.le_refl _) _).setCell (p := ⟨wr.heap.size, 1, none⟩) (Nat.le_refl _) _⟩
            | exact ⟨rfl, (hE6.out.setCell (p := ⟨y4.heap.size, 0, none⟩) hE4.out.size _).setCell (p := ⟨y4.heap.size, 1, none⟩) hE4.out.size _⟩
            | exact ⟨rfl, (hE6.out.setCell (p := ⟨y5.heap.size, 0, none⟩) hE5.out.size _).setCell (p := ⟨y5.heap.size, 1, none⟩) hE5.out.size _⟩
            | exact ⟨rfl, hE6.out.alloc _⟩
            | exact ⟨rfl, ((hE6.out.alloc _).setCell (p := ⟨y6.heap.size, 0, none⟩) hE6.out.size _).setCell (p := ⟨y6.heap.size, 1, none⟩) hE6.out.size _⟩
        case rest =>
          obtain ⟨rfl, hxc⟩ := hcut
          have hwc := hwr.trans hxc
          go_wp2
          go_ret
          exact ⟨by rw [HR3.out]; rfl, hwc⟩
  · have hE0 : E ≠ 0 := by simpa using eE
    have HR : Hid (R = false) := Lib.hid (HN.out hE0)
    clear HN HY HC
    go_wp2
    go_ret
    exact ⟨by rw [HR.out]; rfl, (hx0.trans hx4).alloc _⟩
end Go.Proofs.Ytdcdnnbijjcfmaa
