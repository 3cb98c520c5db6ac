/- The contracts of the reference's whole and Fetch. -/
import Derived.Test.YtdcdnnbijjcfmaaChe
import Derived.BigQuiet
namespace Go.Proofs.Ytdcdnnbijjcfmaa
open Go.RowKit

/-- Is a span one of whole units of an object, not empty? -/
def wholeB (s : Sp) (n u : Int) : Bool := rightB s.f s.t && decide (s.f < s.t) && (s.f % u == 0) && decide (s.t ≤ endI n) && (s.t == 4611686018427387904 || s.t % u == 0 || s.t == n)
set_option maxHeartbeats 4000000 in
set_option maxRecDepth 100000 in
theorem whole_calls (f t n u : Int) (w : World) (hu : 4 ≤ u) (hu2 : u ≤ 1048576) :
    Calls Try.prog 60 #[.agg #[.int .i64 f, .int .i64 t], .int .i64 n, .int .i64 u] w fun e w' => e = .returned (.bool (wholeB ⟨f, t⟩ n u)) ∧ Ext w w' := by
  have hd : wholeB ⟨f, t⟩ n u = (rightB f t && decide (f < t) && (f % u == 0) && decide (t ≤ endI n) && (t == 4611686018427387904 || t % u == 0 || t == n)) := rfl
  generalize wholeB ⟨f, t⟩ n u = R at *
  have HD := Lib.hid hd
  clear hd
  have hu0 : u ≠ 0 := by omega
  have hx0 : Ext w (w.alloc (.cells #[.int .i64 f, .int .i64 t] 48)) := (Ext.refl w).alloc _
  have a0 : (w.alloc (.cells #[.int .i64 f, .int .i64 t] 48)).cell? ⟨w.heap.size, 0, none⟩ = some (.int .i64 f) := by simp [go_sem]
  have a1 : (w.alloc (.cells #[.int .i64 f, .int .i64 t] 48)).cell? ⟨w.heap.size, 1, none⟩ = some (.int .i64 t) := by simp [go_sem]
  have HRR := Lib.hid (fun W => refright_calls f t W)
  have HEN := Lib.hid (fun W => end_calls n W)
  generalize endI n = E at *
  obtain ⟨rb, hrb⟩ : ∃ rb, rightB f t = rb := ⟨_, rfl⟩
  rw [hrb] at HRR HD
  have HRB := Lib.hid hrb
  clear hrb
  go_enter Try.func60, Try.ntmps60
  go_upto_region 1 with (fail)
  generalize (w.alloc (.cells #[.int .i64 f, .int .i64 t] 48)) = w1 at *
  obtain ⟨bq, hbq⟩ : ∃ bq, (!rb || decide (t ≤ f) || (f % u != 0) || decide (E < t)) = bq := ⟨_, rfl⟩
  have HBQ := Lib.hid hbq
  clear hbq
  go_cut [30] from 7 to 30 (fun v wx => v = .bool bq ∧ Ext w1 wx)
  case first =>
    cases rb
    · have HB2 : Hid (bq = true) := Lib.hid (by rw [← HBQ.out]; rfl)
      refine wp_region_ext_lit (by kernel_rfl) (by kernel_rfl) ?_
      intro X _ g hg hg'
      have k0 : ∀ n, (g n).cell? ⟨w.heap.size, 0, none⟩ = some (.int .i64 f) := fun n => (hg n).cell a0
      have k1 : ∀ n, (g n).cell? ⟨w.heap.size, 1, none⟩ = some (.int .i64 t) := fun n => (hg n).cell a1
      repeat (go_big_quiet_step ((go_at_call 53; exact (HRR.out _).mono fun e w2 ⟨he, hx⟩ => ⟨he, hg' _ ((hg _).trans hx)⟩)))
      refine wpQuiet_nil ?_
      rintro w' ⟨m', rfl⟩
      go_wp2
      go_meet
      exact ⟨by rw [HB2.out], hg m'⟩
    · by_cases e1 : t ≤ f
      · have HB2 : Hid (bq = true) := Lib.hid (by rw [← HBQ.out]; simp [e1])
        have e1' : decide (t ≤ f) = true := decide_eq_true e1
        refine wp_region_ext_lit (by kernel_rfl) (by kernel_rfl) ?_
        intro X _ g hg hg'
        have k0 : ∀ n, (g n).cell? ⟨w.heap.size, 0, none⟩ = some (.int .i64 f) := fun n => (hg n).cell a0
        have k1 : ∀ n, (g n).cell? ⟨w.heap.size, 1, none⟩ = some (.int .i64 t) := fun n => (hg n).cell a1
        repeat (go_big_quiet_step ((go_at_call 53; exact (HRR.out _).mono fun e w2 ⟨he, hx⟩ => ⟨he, hg' _ ((hg _).trans hx)⟩)))
        refine wpQuiet_nil ?_
        rintro w' ⟨m', rfl⟩
        go_wp2
        go_meet
        exact ⟨by rw [HB2.out], hg m'⟩
      · have e1' : decide (t ≤ f) = false := decide_eq_false e1
        have hf0 : 0 ≤ f := by have := HRB.out; simp [rightB] at this; omega
        have etm : f.tmod u = f % u := Int.tmod_eq_emod_of_nonneg hf0
        cases e2 : (f % u != 0)
        · have HB2 : Hid (bq = decide (E < t)) := Lib.hid (by rw [← HBQ.out]; simp [e1, e2])
          have e2' := e2
          rw [← etm] at e2'
          clear etm
          refine wp_region_ext_lit (by kernel_rfl) (by kernel_rfl) ?_
          intro X _ g hg hg'
          have k0 : ∀ n, (g n).cell? ⟨w.heap.size, 0, none⟩ = some (.int .i64 f) := fun n => (hg n).cell a0
          have k1 : ∀ n, (g n).cell? ⟨w.heap.size, 1, none⟩ = some (.int .i64 t) := fun n => (hg n).cell a1
          repeat (go_big_quiet_step (first | (go_at_call 53; exact (HRR.out _).mono fun e w2 ⟨he, hx⟩ => ⟨he, hg' _ ((hg _).trans hx)⟩) | (go_at_call 43; exact (HEN.out _).mono fun e w2 ⟨he, hx⟩ => ⟨he, _, hx.symm⟩)))
          refine wpQuiet_nil ?_
          rintro w' ⟨m', rfl⟩
          go_wp2
          go_meet
          exact ⟨by rw [HB2.out], hg m'⟩
        · have HB2 : Hid (bq = true) := Lib.hid (by rw [← HBQ.out]; simp [e2])
          have e2' := e2
          rw [← etm] at e2'
          clear etm
          refine wp_region_ext_lit (by kernel_rfl) (by kernel_rfl) ?_
          intro X _ g hg hg'
          have k0 : ∀ n, (g n).cell? ⟨w.heap.size, 0, none⟩ = some (.int .i64 f) := fun n => (hg n).cell a0
          have k1 : ∀ n, (g n).cell? ⟨w.heap.size, 1, none⟩ = some (.int .i64 t) := fun n => (hg n).cell a1
          repeat (go_big_quiet_step ((go_at_call 53; exact (HRR.out _).mono fun e w2 ⟨he, hx⟩ => ⟨he, hg' _ ((hg _).trans hx)⟩)))
          refine wpQuiet_nil ?_
          rintro w' ⟨m', rfl⟩
          go_wp2
          go_meet
          exact ⟨by rw [HB2.out], hg m'⟩
  case rest =>
    obtain ⟨rfl, hxc⟩ := hcut
    replace a0 := hxc.cell a0
    replace a1 := hxc.cell a1
    have hx1 := hx0.trans hxc
    clear HRR HEN hxc
    cases bq
    · have hb := HBQ.out
      simp only [Bool.or_eq_false_iff, decide_eq_false_iff_not, Bool.not_eq_false'] at hb
      obtain ⟨⟨⟨h1, h2⟩, h3⟩, h4⟩ := hb
      have HD2 : Hid (R = (t == 4611686018427387904 || t % u == 0 || t == n)) := Lib.hid (by
        have h5 : (f % u == 0) = true := by simpa [bne] using h3
        rw [HD.out, h1, h5]; simp; intro _; omega)
      clear HD HBQ h3
      have ht0 : 0 ≤ t := by have := HRB.out; rw [h1] at this; simp [rightB] at this; omega
      cases e5 : (t == 4611686018427387904)
      · cases e6 : (t % u == 0)
        · have HD3 : Hid (R = (t == n)) := Lib.hid (by rw [HD2.out, e5, e6]; rfl)
          clear HD2
          go_wp2
          go_ret
          exact ⟨by rw [HD3.out]; rfl, hx1⟩
        · have HD3 : Hid (R = true) := Lib.hid (by rw [HD2.out, e5, e6]; rfl)
          clear HD2
          go_wp2
          go_ret
          exact ⟨by rw [HD3.out]; rfl, hx1⟩
      · have HD3 : Hid (R = true) := Lib.hid (by rw [HD2.out, e5]; rfl)
        clear HD2
        go_wp2
        go_ret
        exact ⟨by rw [HD3.out]; rfl, hx1⟩
    · have HD2 : Hid (R = false) := Lib.hid (by
        have hb := HBQ.out
        rw [HD.out]
        cases hr : (rb && decide (f < t) && (f % u == 0) && decide (t ≤ E))
        · rfl
        · simp at hr hb
          obtain ⟨⟨⟨h1, h2⟩, h3⟩, h4⟩ := hr
          simp [h1, h3] at hb
          omega)
      clear HD HBQ
      go_wp2
      go_ret
      exact ⟨by rw [HD2.out]; rfl, hx1⟩
/-- May a span be a fetch? -/
def fetchB (s : Sp) (W F : List Sp) (n : Int) (c : Cf) : Bool := wholeB s n c.u && refholdsS F s.f s.t && (s.t == 4611686018427387904 || decide (s.t - s.f ≤ c.mo)) && decide (wasteS s W ≤ c.wa)
set_option maxHeartbeats 4000000 in
set_option maxRecDepth 100000 in
theorem fetch_calls (f t : Int) (A : Option Addr) (a : Nat) (U : List Sp) (B : Option Addr) (b : Nat) (F : List Sp) (n : Int) (c : Cf) (w : World) (hA : SAt w A U) (hB : SAt w B F) (nU : Norm U) (hlU : U.length ≤ 100000) (hlF : F.length ≤ 100000) (hu : 4 ≤ c.u) (hu2 : c.u ≤ 1048576) :
    Calls Try.prog 37 #[.agg #[.int .i64 f, .int .i64 t], .slice A U.length a, .slice B F.length b, .int .i64 n, .agg c.cells.toArray] w fun e w' => e = .returned (.bool (fetchB ⟨f, t⟩ U F n c)) ∧ Ext w w' := by
  obtain ⟨u, wa, mo, r3, r4, r5, r6, r7, r8, r9⟩ := c
  simp only at hu hu2
  show Calls Try.prog 37 #[.agg #[.int .i64 f, .int .i64 t], .slice A U.length a, .slice B F.length b, .int .i64 n, .agg #[.int .i64 u, .int .i64 wa, .int .i64 mo, .int .i64 r3, .int .i64 r4, .int .i64 r5, .int .i64 r6, .int .i64 r7, .int .i64 r8, .int .i64 r9]] w fun e w' => e = .returned (.bool (fetchB ⟨f, t⟩ U F n ⟨u, wa, mo, r3, r4, r5, r6, r7, r8, r9⟩)) ∧ Ext w w'
  have hd : fetchB ⟨f, t⟩ U F n ⟨u, wa, mo, r3, r4, r5, r6, r7, r8, r9⟩ = (wholeB ⟨f, t⟩ n u && refholdsS F f t && (t == 4611686018427387904 || decide (t - f ≤ mo)) && decide (wasteS ⟨f, t⟩ U ≤ wa)) := rfl
  generalize fetchB ⟨f, t⟩ U F n ⟨u, wa, mo, r3, r4, r5, r6, r7, r8, r9⟩ = R at *
  have hbd : wholeB ⟨f, t⟩ n u = true → 0 ≤ f ∧ f ≤ t ∧ t ≤ 4611686018427387904 := fun h => by simp [wholeB, rightB] at h; omega
  have HWH := Lib.hid (fun W => whole_calls f t n u W hu hu2)
  have HHO := Lib.hid (fun W (hW : Ext w W) => refHolds_calls B b F f t W (hB.ext hW) (by omega))
  have HWA := Lib.hid (fun W (hW : Ext w W) => refWaste_calls A a U f t W (hA.ext hW) nU hlU)
  obtain ⟨b1, hb1⟩ : ∃ b1, wholeB ⟨f, t⟩ n u = b1 := ⟨_, rfl⟩
  obtain ⟨b2, hb2⟩ : ∃ b2, refholdsS F f t = b2 := ⟨_, rfl⟩
  rw [hb1] at hd hbd HWH
  rw [hb2] at hd HHO
  have HB1 := Lib.hid hb1
  have HB2 := Lib.hid hb2
  clear hb1 hb2 hA hB
  generalize wasteS ⟨f, t⟩ U = ws at *
  have HD := Lib.hid hd
  have HBD := Lib.hid hbd
  clear hd hbd
  have hx0 : Ext w ((w.alloc (.cells #[.int .i64 f, .int .i64 t] 48)).alloc (.cells #[.int .i64 u, .int .i64 wa, .int .i64 mo, .int .i64 r3, .int .i64 r4, .int .i64 r5, .int .i64 r6, .int .i64 r7, .int .i64 r8, .int .i64 r9] 24)) := ((Ext.refl w).alloc _).alloc _
  have a0 : ((w.alloc (.cells #[.int .i64 f, .int .i64 t] 48)).alloc (.cells #[.int .i64 u, .int .i64 wa, .int .i64 mo, .int .i64 r3, .int .i64 r4, .int .i64 r5, .int .i64 r6, .int .i64 r7, .int .i64 r8, .int .i64 r9] 24)).cell? ⟨w.heap.size, 0, none⟩ = some (.int .i64 f) := by simp [go_sem]
  have a1 : ((w.alloc (.cells #[.int .i64 f, .int .i64 t] 48)).alloc (.cells #[.int .i64 u, .int .i64 wa, .int .i64 mo, .int .i64 r3, .int .i64 r4, .int .i64 r5, .int .i64 r6, .int .i64 r7, .int .i64 r8, .int .i64 r9] 24)).cell? ⟨w.heap.size, 1, none⟩ = some (.int .i64 t) := by simp [go_sem]
  have c0 : ((w.alloc (.cells #[.int .i64 f, .int .i64 t] 48)).alloc (.cells #[.int .i64 u, .int .i64 wa, .int .i64 mo, .int .i64 r3, .int .i64 r4, .int .i64 r5, .int .i64 r6, .int .i64 r7, .int .i64 r8, .int .i64 r9] 24)).cell? ⟨w.heap.size + 1, 0, none⟩ = some (.int .i64 u) := by simp [go_sem]
  have c1 : ((w.alloc (.cells #[.int .i64 f, .int .i64 t] 48)).alloc (.cells #[.int .i64 u, .int .i64 wa, .int .i64 mo, .int .i64 r3, .int .i64 r4, .int .i64 r5, .int .i64 r6, .int .i64 r7, .int .i64 r8, .int .i64 r9] 24)).cell? ⟨w.heap.size + 1, 1, none⟩ = some (.int .i64 wa) := by simp [go_sem]
  have c2 : ((w.alloc (.cells #[.int .i64 f, .int .i64 t] 48)).alloc (.cells #[.int .i64 u, .int .i64 wa, .int .i64 mo, .int .i64 r3, .int .i64 r4, .int .i64 r5, .int .i64 r6, .int .i64 r7, .int .i64 r8, .int .i64 r9] 24)).cell? ⟨w.heap.size + 1, 2, none⟩ = some (.int .i64 mo) := by simp [go_sem]
  go_enter Try.func37, Try.ntmps37
  go_wp2
  generalize ((w.alloc (.cells #[.int .i64 f, .int .i64 t] 48)).alloc (.cells #[.int .i64 u, .int .i64 wa, .int .i64 mo, .int .i64 r3, .int .i64 r4, .int .i64 r5, .int .i64 r6, .int .i64 r7, .int .i64 r8, .int .i64 r9] 24)) = w1 at *
  cases b1
  · have HR : Hid (R = false) := Lib.hid (by rw [HD.out]; rfl)
    refine wp_region_ext_lit (by kernel_rfl) (by kernel_rfl) ?_
    intro X _ g hg hg'
    have k0 : ∀ n, (g n).cell? ⟨w.heap.size, 0, none⟩ = some (.int .i64 f) := fun n => (hg n).cell a0
    have k1 : ∀ n, (g n).cell? ⟨w.heap.size, 1, none⟩ = some (.int .i64 t) := fun n => (hg n).cell a1
    have k2 : ∀ n, (g n).cell? ⟨w.heap.size + 1, 0, none⟩ = some (.int .i64 u) := fun n => (hg n).cell c0
    have k3 : ∀ n, (g n).cell? ⟨w.heap.size + 1, 1, none⟩ = some (.int .i64 wa) := fun n => (hg n).cell c1
    have k4 : ∀ n, (g n).cell? ⟨w.heap.size + 1, 2, none⟩ = some (.int .i64 mo) := fun n => (hg n).cell c2
    repeat (go_big_quiet_step (first | (go_at_call 60; exact (HWH.out _).mono fun e w2 ⟨he, hx⟩ => ⟨he, hg' _ ((hg _).trans hx)⟩) | (go_at_call 61; exact (HHO.out _ (hx0.trans (hg _))).mono fun e w2 ⟨he, hx⟩ => ⟨he, hg' _ ((hg _).trans hx)⟩) | (go_at_call 24; exact (HWA.out _ (hx0.trans (hg _))).mono fun e w2 ⟨he, hx⟩ => ⟨he, hg' _ ((hg _).trans hx)⟩)))
    refine wpQuiet_nil ?_
    rintro w' ⟨m', rfl⟩
    go_wp2
    go_ret
    exact ⟨by rw [HR.out]; rfl, hx0.trans (hg m')⟩
  · cases b2
    · have HR : Hid (R = false) := Lib.hid (by rw [HD.out]; rfl)
      refine wp_region_ext_lit (by kernel_rfl) (by kernel_rfl) ?_
      intro X _ g hg hg'
      have k0 : ∀ n, (g n).cell? ⟨w.heap.size, 0, none⟩ = some (.int .i64 f) := fun n => (hg n).cell a0
      have k1 : ∀ n, (g n).cell? ⟨w.heap.size, 1, none⟩ = some (.int .i64 t) := fun n => (hg n).cell a1
      have k2 : ∀ n, (g n).cell? ⟨w.heap.size + 1, 0, none⟩ = some (.int .i64 u) := fun n => (hg n).cell c0
      have k3 : ∀ n, (g n).cell? ⟨w.heap.size + 1, 1, none⟩ = some (.int .i64 wa) := fun n => (hg n).cell c1
      have k4 : ∀ n, (g n).cell? ⟨w.heap.size + 1, 2, none⟩ = some (.int .i64 mo) := fun n => (hg n).cell c2
      repeat (go_big_quiet_step (first | (go_at_call 60; exact (HWH.out _).mono fun e w2 ⟨he, hx⟩ => ⟨he, hg' _ ((hg _).trans hx)⟩) | (go_at_call 61; exact (HHO.out _ (hx0.trans (hg _))).mono fun e w2 ⟨he, hx⟩ => ⟨he, hg' _ ((hg _).trans hx)⟩) | (go_at_call 24; exact (HWA.out _ (hx0.trans (hg _))).mono fun e w2 ⟨he, hx⟩ => ⟨he, hg' _ ((hg _).trans hx)⟩)))
      refine wpQuiet_nil ?_
      rintro w' ⟨m', rfl⟩
      go_wp2
      go_ret
      exact ⟨by rw [HR.out]; rfl, hx0.trans (hg m')⟩
    · obtain ⟨d1, d2, d3⟩ := HBD.out rfl
      cases e1 : (t == 4611686018427387904)
      · cases e2 : decide (t - f ≤ mo)
        · have HR : Hid (R = false) := Lib.hid (by rw [HD.out, e1, e2]; rfl)
          refine wp_region_ext_lit (by kernel_rfl) (by kernel_rfl) ?_
          intro X _ g hg hg'
          have k0 : ∀ n, (g n).cell? ⟨w.heap.size, 0, none⟩ = some (.int .i64 f) := fun n => (hg n).cell a0
          have k1 : ∀ n, (g n).cell? ⟨w.heap.size, 1, none⟩ = some (.int .i64 t) := fun n => (hg n).cell a1
          have k2 : ∀ n, (g n).cell? ⟨w.heap.size + 1, 0, none⟩ = some (.int .i64 u) := fun n => (hg n).cell c0
          have k3 : ∀ n, (g n).cell? ⟨w.heap.size + 1, 1, none⟩ = some (.int .i64 wa) := fun n => (hg n).cell c1
          have k4 : ∀ n, (g n).cell? ⟨w.heap.size + 1, 2, none⟩ = some (.int .i64 mo) := fun n => (hg n).cell c2
          repeat (go_big_quiet_step (first | (go_at_call 60; exact (HWH.out _).mono fun e w2 ⟨he, hx⟩ => ⟨he, hg' _ ((hg _).trans hx)⟩) | (go_at_call 61; exact (HHO.out _ (hx0.trans (hg _))).mono fun e w2 ⟨he, hx⟩ => ⟨he, hg' _ ((hg _).trans hx)⟩) | (go_at_call 24; exact (HWA.out _ (hx0.trans (hg _))).mono fun e w2 ⟨he, hx⟩ => ⟨he, hg' _ ((hg _).trans hx)⟩)))
          refine wpQuiet_nil ?_
          rintro w' ⟨m', rfl⟩
          go_wp2
          go_ret
          exact ⟨by rw [HR.out]; rfl, hx0.trans (hg m')⟩
        · have HR : Hid (R = decide (ws ≤ wa)) := Lib.hid (by rw [HD.out, e1, e2]; rfl)
          refine wp_region_ext_lit (by kernel_rfl) (by kernel_rfl) ?_
          intro X _ g hg hg'
          have k0 : ∀ n, (g n).cell? ⟨w.heap.size, 0, none⟩ = some (.int .i64 f) := fun n => (hg n).cell a0
          have k1 : ∀ n, (g n).cell? ⟨w.heap.size, 1, none⟩ = some (.int .i64 t) := fun n => (hg n).cell a1
          have k2 : ∀ n, (g n).cell? ⟨w.heap.size + 1, 0, none⟩ = some (.int .i64 u) := fun n => (hg n).cell c0
          have k3 : ∀ n, (g n).cell? ⟨w.heap.size + 1, 1, none⟩ = some (.int .i64 wa) := fun n => (hg n).cell c1
          have k4 : ∀ n, (g n).cell? ⟨w.heap.size + 1, 2, none⟩ = some (.int .i64 mo) := fun n => (hg n).cell c2
          repeat (go_big_quiet_step (first | (go_at_call 60; exact (HWH.out _).mono fun e w2 ⟨he, hx⟩ => ⟨he, hg' _ ((hg _).trans hx)⟩) | (go_at_call 61; exact (HHO.out _ (hx0.trans (hg _))).mono fun e w2 ⟨he, hx⟩ => ⟨he, hg' _ ((hg _).trans hx)⟩) | (go_at_call 24; exact (HWA.out _ (hx0.trans (hg _))).mono fun e w2 ⟨he, hx⟩ => ⟨he, hg' _ ((hg _).trans hx)⟩)))
          refine wpQuiet_nil ?_
          rintro w' ⟨m', rfl⟩
          go_wp2
          go_ret
          exact ⟨by rw [HR.out]; rfl, hx0.trans (hg m')⟩
      · have HR : Hid (R = decide (ws ≤ wa)) := Lib.hid (by rw [HD.out, e1]; rfl)
        refine wp_region_ext_lit (by kernel_rfl) (by kernel_rfl) ?_
        intro X _ g hg hg'
        have k0 : ∀ n, (g n).cell? ⟨w.heap.size, 0, none⟩ = some (.int .i64 f) := fun n => (hg n).cell a0
        have k1 : ∀ n, (g n).cell? ⟨w.heap.size, 1, none⟩ = some (.int .i64 t) := fun n => (hg n).cell a1
        have k2 : ∀ n, (g n).cell? ⟨w.heap.size + 1, 0, none⟩ = some (.int .i64 u) := fun n => (hg n).cell c0
        have k3 : ∀ n, (g n).cell? ⟨w.heap.size + 1, 1, none⟩ = some (.int .i64 wa) := fun n => (hg n).cell c1
        have k4 : ∀ n, (g n).cell? ⟨w.heap.size + 1, 2, none⟩ = some (.int .i64 mo) := fun n => (hg n).cell c2
        repeat (go_big_quiet_step (first | (go_at_call 60; exact (HWH.out _).mono fun e w2 ⟨he, hx⟩ => ⟨he, hg' _ ((hg _).trans hx)⟩) | (go_at_call 61; exact (HHO.out _ (hx0.trans (hg _))).mono fun e w2 ⟨he, hx⟩ => ⟨he, hg' _ ((hg _).trans hx)⟩) | (go_at_call 24; exact (HWA.out _ (hx0.trans (hg _))).mono fun e w2 ⟨he, hx⟩ => ⟨he, hg' _ ((hg _).trans hx)⟩)))
        refine wpQuiet_nil ?_
        rintro w' ⟨m', rfl⟩
        go_wp2
        go_ret
        exact ⟨by rw [HR.out]; rfl, hx0.trans (hg m')⟩
end Go.Proofs.Ytdcdnnbijjcfmaa
