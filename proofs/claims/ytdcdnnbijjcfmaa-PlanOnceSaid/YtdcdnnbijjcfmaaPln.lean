/- The contract of plan.Plan. -/
import Derived.Test.YtdcdnnbijjcfmaaPlp
import Derived.Deep.RegionHeld3
namespace Go.Proofs.Ytdcdnnbijjcfmaa
open Go.RowKit

theorem frozen_of_block {w : World} {k : Nat} {cs : Array Value} {e : TypeId} (h : w.heap[k]? = some (.cells cs e (0, 0))) (j : Nat) : w.frozen? ⟨k, j, none⟩ = false := by
  simp [World.frozen?, h]
theorem noPanic_intro {Q : Exit → Act → World → Prop} {a : Act} {w : World} (h : Q .normal a w) : NoPanic Q .normal a w := h
/-- A span in a box of its own. -/
def SpBox (w : World) (q : Sp) (v : Value) (wx : World) : Prop := ∃ xb, v = .pointer (some ⟨xb, 0, none⟩) ∧ w.heap.size ≤ xb ∧ wx.heap[xb]? = some (.cells #[.int .i64 q.f, .int .i64 q.t] 48 (0, 0)) ∧ Ext w wx
theorem span_fill {w : World} {b : Nat} {t : TypeId} {x y u v : Value} (h : w.heap[b]? = some (.cells #[x, y] t (0, 0))) : ((w.setCell ⟨b, 0, none⟩ u).setCell ⟨b, 1, none⟩ v).heap[b]? = some (.cells #[u, v] t (0, 0)) := by
  rw [heap_setCell_same _ _ _ _ _ _ (heap_setCell_same _ _ _ _ _ _ h)]; rfl

/-- A slice of spans that may be written, in a block of [lo, hi). -/
def RwAt (w : World) (lo hi : Nat) (A : Option Addr) (L : List Sp) : Prop := 0 < L.length → ∃ g o, A = some ⟨g, o, none⟩ ∧ lo ≤ g ∧ g < hi ∧ g < w.heap.size ∧ (∀ j, w.frozen? ⟨g, j, none⟩ = false) ∧
  ∀ k (hk : k < L.length), w.cell? ⟨g, o + k * 2, none⟩ = some (.int .i64 L[k].f) ∧ w.cell? ⟨g, o + k * 2 + 1, none⟩ = some (.int .i64 L[k].t)
theorem RwAt.ext {w w' : World} {lo hi : Nat} {A : Option Addr} {L : List Sp} (h : RwAt w lo hi A L) (hx : Ext w w') : RwAt w' lo hi A L := fun h0 => by
  obtain ⟨g, o, e, h1, h2, h3, h4, h5⟩ := h h0
  exact ⟨g, o, e, h1, h2, Nat.lt_of_lt_of_le h3 hx.size, fun j => (hx.frozen (p := ⟨g, j, none⟩) h3).trans (h4 j), fun k hk => ⟨hx.cell (h5 k hk).1, hx.cell (h5 k hk).2⟩⟩
theorem RwAt.drop {w : World} {lo hi : Nat} {A : Option Addr} {L : List Sp} (h : RwAt w lo hi A L) {c : Nat} (hc : L.length ≤ c) : RwAt w lo hi (if c = 1 then A else A.map (·.add (1 * 2))) (L.drop 1) := fun h0 => by
  rw [List.length_drop] at h0
  obtain ⟨g, o, e, h1, h2, h3, h4, h5⟩ := h (by omega)
  rw [if_neg (by omega), e]
  refine ⟨g, o + 2, by simp [Addr.add], h1, h2, h3, h4, fun k hk => ?_⟩
  rw [List.length_drop] at hk
  obtain ⟨p0, p1⟩ := h5 (k + 1) (by omega)
  rw [List.getElem_drop]
  simp only [show 1 + k = k + 1 by omega]
  rw [show o + 2 + k * 2 = o + (k + 1) * 2 by omega]
  exact ⟨p0, p1⟩
theorem RwAt.far {w w' : World} {lo hi : Nat} {A : Option Addr} {L : List Sp} (h : RwAt w lo hi A L) {e : TypeId} {size n : Nat} {v v' : Value} {xs : List Value} (ho : w.ownsRow hi e size v n xs) (hm : Moved w w' v v') : RwAt w' lo hi A L := fun h0 => by
  obtain ⟨g, o, e', h1, h2, h3, h4, h5⟩ := h h0
  have hb : w'.heap[g]? = w.heap[g]? := hm.1.block g h3 (fun e => by have := own_base ho e.symm; omega)
  exact ⟨g, o, e', h1, h2, Nat.lt_of_lt_of_le h3 hm.1.size, fun j => by rw [← h4 j]; simp [World.frozen?, hb], fun k hk => ⟨(World.cell?_of_block hb).trans (h5 k hk).1, (World.cell?_of_block hb).trans (h5 k hk).2⟩⟩

theorem RwAt.set_head {w : World} {lo hi g o : Nat} {q : Sp} {r : List Sp} (h : RwAt w lo hi (some ⟨g, o, none⟩) (q :: r)) (x : Int) : RwAt (w.setCell ⟨g, o, none⟩ (.int .i64 x)) lo hi (some ⟨g, o, none⟩) (⟨x, q.t⟩ :: r) := fun _ => by
  obtain ⟨g', o', e, h1, h2, h3, h4, h5⟩ := h (by simp)
  cases e
  refine ⟨g, o, rfl, h1, h2, by simpa [World.setCell] using h3, fun j => by rw [← h4 j]; simp [go_sem], fun k hk => ?_⟩
  have p := h5 k hk
  rcases k with _ | k
  · have p0 := p.1
    have p1 := p.2
    rw [Nat.zero_mul, Nat.add_zero] at p0 p1 ⊢
    refine ⟨?_, (World.cell?_setCell_other w _ _ _ (fun e => by injection e; omega)).trans p1⟩
    simp [go_sem, p0]
  · exact ⟨(World.cell?_setCell_other w _ _ _ (fun e => by injection e; omega)).trans p.1, (World.cell?_setCell_other w _ _ _ (fun e => by injection e; omega)).trans p.2⟩
theorem own_low {w : World} {base base' : Nat} {e : TypeId} {size n : Nat} {v : Value} {xs : List Value} (h : w.ownsRow base e size v n xs) (hb : base' ≤ base) : w.ownsRow base' e size v n xs := by
  refine ⟨h.1, ?_⟩
  rcases h.2 with h1 | ⟨g, cap, cur, rfl, hg, r⟩
  · exact .inl h1
  · exact .inr ⟨g, cap, cur, rfl, Nat.le_trans hb hg, r⟩
theorem RwAt.sat {w : World} {lo hi : Nat} {A : Option Addr} {L : List Sp} (h : RwAt w lo hi A L) : SAt w A L := fun k hk => by
  obtain ⟨g, o, e, _, _, _, _, h5⟩ := h (by omega)
  exact ⟨g, o, e, (h5 k hk).1, (h5 k hk).2⟩
theorem rw_of_own {w : World} {base : Nat} {A : Option Addr} {n c : Nat} {l : List Sp} (h : w.ownsRow base 48 2 (.slice A n c) n (spans l)) : RwAt w base w.heap.size A l := fun h0 => by
  have hn : n = l.length := by have := h.1; rw [spans_length] at this; omega
  subst hn
  obtain ⟨g, cap, hv, hgb, hlt⟩ := h.form h0
  cases hv
  refine ⟨g, 0, rfl, own_base h rfl, hlt, hlt, fun j => h.frozenAt _, fun k hk => ?_⟩
  obtain ⟨b, o, e, p0, p1⟩ := sat_of_own h k hk
  cases e
  exact ⟨p0, p1⟩
theorem units_len {g : List Sp} (hg : Norm g) (n u : Int) : (unitsS g n u).length ≤ g.length + 2 := by
  unfold unitsS
  split
  · have h1 := and_len (norm_of ((andS g (boxS n)).map fun s => alnS s u)) (norm_box n)
    have h2 := of_length ((andS g (boxS n)).map fun s => alnS s u)
    have h3 := and_len hg (norm_box n)
    have h4 : (boxS n).length ≤ 1 := norm_one_length _
    rw [List.length_map] at h2
    omega
  · simp
def lenV : Value → Nat
  | .slice _ n _ => n
  | _ => 0
/-- What a plan hands back. -/
def PlanPost (w : World) (P : List Sp) (r : Int) (e : Ending) (w' : World) : Prop := ∃ A c, e = .returned (.tuple #[.slice A P.length c, .int .i64 r]) ∧ Hid (SAt w' A P) ∧ Ext w w'
def planP (n : Int) (c : Cf) (U F : List Sp) : List Sp := if chkE n c U F = 0 then planL F c U else []
/-- All gaps, widened, lie within a hundred units, or have no end. -/
def SmallU (U : List Sp) (u : Int) : Prop := ∀ s ∈ U, s.f ≤ 100 * u ∧ (s.t ≤ 100 * u ∨ s.t = 4611686018427387904)
theorem pok_start {n : Int} {c : Cf} {g F : List Sp} (hg : Norm g) (hF : Norm F) (hE : chkE n c (unitsS g n c.u) F = 0) (hs : SmallU (unitsS g n c.u) c.u) : Pok (unitsS g n c.u) F c (endI n) := by
  unfold chkE at hE
  cases h1 : okB n c
  · rw [h1] at hE; simp at hE
  · rw [h1] at hE
    cases h2 : heldB (unitsS g n c.u) F
    · simp [okB] at h1
      obtain ⟨⟨h3, h4⟩, h5⟩ := h1
      have hU := h3
      simp [measB] at hU
      have hl : lessS (unitsS g n c.u) F = [] := by
        simp [heldB] at h2
        exact h2
      refine ⟨lok_units hg h3, hU.1, h5, h4, hF, fun x hx => ?_, hs⟩
      rcases Classical.em (Mem F x) with h6 | h6
      · exact h6
      · exact absurd ((mem_less (units_norm g n c.u) hF x).2 ⟨hx, h6⟩) (by rw [hl]; exact mem_nil x)
    · rw [h2] at hE; simp at hE

set_option maxHeartbeats 8000000 in
set_option maxRecDepth 100000 in
theorem plan_calls (A : Option Addr) (ca : Nat) (g : List Sp) (B : Option Addr) (d : Nat) (F : List Sp) (n : Int) (c : Cf) (w : World) (hg : SAt w A g) (hF : SAt w B F) (ng : Norm g) (nF : Norm F) (hlg : g.length ≤ 50000) (hlF : F.length ≤ 100000)
    (hs : chkE n c (unitsS g n c.u) F = 0 → SmallU (unitsS g n c.u) c.u) :
    Calls Try.prog 13 #[.agg #[.slice A g.length ca], .agg #[.slice B F.length d], .int .i64 n, .agg c.cells.toArray] w (PlanPost w (planP n c (unitsS g n c.u) F) (chkE n c (unitsS g n c.u) F)) := by
  have hCK := fun W (h1 : SAt W A g) (h2 : SAt W B F) => check_calls A ca g B d F n c W h1 h2 ng nF hlg hlF
  have hPd : planP n c (unitsS g n c.u) F = if chkE n c (unitsS g n c.u) F = 0 then planL F c (unitsS g n c.u) else [] := rfl
  have hSd : chkS n c (unitsS g n c.u) F = if chkE n c (unitsS g n c.u) F = 0 then unitsS g n c.u else [] := rfl
  have hPK := fun h => pok_start ng nF h (hs h)
  have hPE : chkE n c (unitsS g n c.u) F = 0 → planL F c (unitsS g n c.u) = planF F c 101 (unitsS g n c.u) := fun _ => rfl
  generalize planP n c (unitsS g n c.u) F = P at *
  generalize chkS n c (unitsS g n c.u) F = S at *
  generalize hEE : chkE n c (unitsS g n c.u) F = E at *
  have hUl := units_len ng n c.u
  generalize unitsS g n c.u = U at *
  obtain ⟨u, wa, mo, r3, r4, r5, r6, r7, r8, r9⟩ := c
  change ∀ W, SAt W A g → SAt W B F → Calls Try.prog 31 #[.agg #[.slice A g.length ca], .agg #[.slice B F.length d], .int .i64 n, .agg #[.int .i64 u, .int .i64 wa, .int .i64 mo, .int .i64 r3, .int .i64 r4, .int .i64 r5, .int .i64 r6, .int .i64 r7, .int .i64 r8, .int .i64 r9]] W (ChkPost W S E) at hCK
  show Calls Try.prog 13 #[.agg #[.slice A g.length ca], .agg #[.slice B F.length d], .int .i64 n, .agg #[.int .i64 u, .int .i64 wa, .int .i64 mo, .int .i64 r3, .int .i64 r4, .int .i64 r5, .int .i64 r6, .int .i64 r7, .int .i64 r8, .int .i64 r9]] w (PlanPost w P E)
  have HCK := Lib.hid hCK
  have HPK := Lib.hid hPK
  have HPE := Lib.hid hPE
  have HP := Lib.hid hPd
  have HS := Lib.hid hSd
  clear hCK hPK hPd hSd hs hEE hPE
  have hx0 : Ext w (((w.alloc (.cells #[.slice A g.length ca] 30)).alloc (.cells #[.slice B F.length d] 30)).alloc (.cells #[.int .i64 u, .int .i64 wa, .int .i64 mo, .int .i64 r3, .int .i64 r4, .int .i64 r5, .int .i64 r6, .int .i64 r7, .int .i64 r8, .int .i64 r9] 24)) := (((Ext.refl w).alloc _).alloc _).alloc _
  have b1 : (((w.alloc (.cells #[.slice A g.length ca] 30)).alloc (.cells #[.slice B F.length d] 30)).alloc (.cells #[.int .i64 u, .int .i64 wa, .int .i64 mo, .int .i64 r3, .int .i64 r4, .int .i64 r5, .int .i64 r6, .int .i64 r7, .int .i64 r8, .int .i64 r9] 24)).heap[w.heap.size + 1]? = some (.cells #[.slice B F.length d] 30 (0, 0)) := by
    refine ((Ext.refl _).alloc _).block ?_
    have := heap_alloc_new (w.alloc (.cells #[.slice A g.length ca] 30)) (.cells #[.slice B F.length d] 30)
    simpa using this
  have b2 : (((w.alloc (.cells #[.slice A g.length ca] 30)).alloc (.cells #[.slice B F.length d] 30)).alloc (.cells #[.int .i64 u, .int .i64 wa, .int .i64 mo, .int .i64 r3, .int .i64 r4, .int .i64 r5, .int .i64 r6, .int .i64 r7, .int .i64 r8, .int .i64 r9] 24)).heap[w.heap.size + 1 + 1]? = some (.cells #[.int .i64 u, .int .i64 wa, .int .i64 mo, .int .i64 r3, .int .i64 r4, .int .i64 r5, .int .i64 r6, .int .i64 r7, .int .i64 r8, .int .i64 r9] 24 (0, 0)) := by
    have := heap_alloc_new ((w.alloc (.cells #[.slice A g.length ca] 30)).alloc (.cells #[.slice B F.length d] 30)) (.cells #[.int .i64 u, .int .i64 wa, .int .i64 mo, .int .i64 r3, .int .i64 r4, .int .i64 r5, .int .i64 r6, .int .i64 r7, .int .i64 r8, .int .i64 r9] 24)
    simpa using this
  have hcl := HCK.out _ (hg.ext hx0) (hF.ext hx0)
  have HCL := Lib.hid hcl
  have HF := Lib.hid (hF.ext hx0)
  clear hcl HCK hg hF
  go_enter Try.func13, Try.ntmps13
  go_wp2_with fail
  generalize (((w.alloc (.cells #[.slice A g.length ca] 30)).alloc (.cells #[.slice B F.length d] 30)).alloc (.cells #[.int .i64 u, .int .i64 wa, .int .i64 mo, .int .i64 r3, .int .i64 r4, .int .i64 r5, .int .i64 r6, .int .i64 r7, .int .i64 r8, .int .i64 r9] 24)) = w3 at *
  refine HCL.out.mono ?_
  rintro e w4 ⟨A4, c4, rfl, HS4, _, hx4⟩
  cases eE : (E != 0)
  · have hE0 : E = 0 := by simpa using eE
    subst hE0
    have HP2 : Hid (P = planF F ⟨u, wa, mo, r3, r4, r5, r6, r7, r8, r9⟩ 101 U) := Lib.hid (by rw [HP.out, if_pos rfl, HPE.out rfl])
    have HS2 : Hid (S = U) := Lib.hid (by rw [HS.out, if_pos rfl])
    have HOK := Lib.hid (HPK.out rfl)
    clear HP HS HPK HPE HCL
    have hx5 : Ext w3 (w4.alloc (.cells #[.slice A4 S.length c4] 30)) := hx4.alloc _
    have hsp := spans_calls A4 c4 S (w4.alloc (.cells #[.slice A4 S.length c4] 30)) (HS4.out.ext ((Ext.refl w4).alloc _)) (by rw [HS2.out]; omega)
    have HSP := Lib.hid hsp
    clear hsp
    go_wp2_with fail
    generalize w4.alloc (.cells #[.slice A4 S.length c4] 30) = w5 at *
    refine HSP.out.mono ?_
    rintro e w6 ⟨v6, rfl, hown6, hx6⟩
    obtain ⟨A6, c6, rfl, hc6⟩ := own_shape hown6
    have hRW := rw_of_own hown6
    rw [HS2.out] at hRW hown6 hc6
    have hUS : S.length = U.length := by rw [HS2.out]
    rw [hUS]
    have hx36 := hx5.trans hx6
    have HF5 := Lib.hid (HF.out.ext hx5)
    have bF := hx5.block b1
    have bC := hx5.block b2
    have hz5 : w.heap.size + 1 + 1 < w5.heap.size := Nat.lt_of_lt_of_le (Array.getElem?_eq_some_iff.1 b2).1 hx5.size
    have hE5 : Ext w w5 := hx0.trans hx5
    have h56 := hx6.size
    clear hown6 HSP b1 b2 HS4 hx4 HF hUS hx5
    go_wp2
    go_loopw [12, 13] (fun vo vl wr => ∃ (m : Nat) (O L : List Sp) (AL : Option Addr) (cl : Nat), vl = .slice AL L.length cl ∧ L.length ≤ cl ∧ RwAt wr w5.heap.size w6.heap.size AL L ∧ wr.ownsRow w6.heap.size 48 2 vo O.length (spans O) ∧ Ext w5 wr ∧ w6.heap.size ≤ wr.heap.size ∧ L.length ≤ 60000 ∧ O.length + m ≤ 101 ∧
      Hid (O ++ planF F ⟨u, wa, mo, r3, r4, r5, r6, r7, r8, r9⟩ m L = P ∧ Pok L F ⟨u, wa, mo, r3, r4, r5, r6, r7, r8, r9⟩ (endI n) ∧ Enough L u m)) (fun vo _ _ => 102 - lenV vo)
    case atStart => exact ⟨101, [], U, A6, c6, rfl, hc6, hRW, World.ownsRow_nil _ _ _ _, hx6, Nat.le_refl _, by omega, by simp, Lib.hid ⟨by rw [HP2.out]; rfl, HOK.out, enough_start HOK.out⟩⟩
    case round =>
      obtain ⟨m, O, L, AL, cl, rfl, hcl, hrw, hown, hx, hw6, hLl, hOm, HI⟩ := hrel
      obtain ⟨VO, cO, rfl, _⟩ := own_shape hown
      cases L with
      | nil =>
        have hP : Hid (P = O) := Lib.hid (by have := HI.out.1; cases m <;> simpa [planF] using this.symm)
        have hSO := sat_of_own hown
        clear HI HF5 bF bC hrw
        go_wp2
        refine bodyPost_ret (v := .tuple #[.slice VO O.length cO, .int .i64 0]) (by simp [results, Try.results13, go_sem]) rfl ⟨VO, cO, by rw [hP.out], Lib.hid (by rw [hP.out]; exact hSO), hE5.trans hx⟩
      | cons s l =>
        have hPK := HI.out.2.1
        have h0 : 0 < (s :: l).length := by simp
        have hN := hPK.lok.norm
        have hgs := hN.get h0
        simp only [List.getElem_cons_zero] at hgs
        obtain ⟨k, rfl⟩ : ∃ k, m = k + 1 := by
          cases m with
          | zero => exact absurd (enough_no hPK HI.out.2.2) (by simp)
          | succ k => exact ⟨k, rfl⟩
        have hfr := free_upto nF (hPK.free s.f (mem_idx h0 (Int.le_refl _) hgs.2.1))
        have hUb := unit_bound hPK.unit
        have hmo := hPK.most
        have hwa := hPK.wa
        simp only at hUb hmo hwa
        obtain ⟨e, he⟩ : ∃ e, endC (s :: l) (freeT F s.f) ⟨u, wa, mo, r3, r4, r5, r6, r7, r8, r9⟩ = e := ⟨_, rfl⟩
        have hstep := pok_step hPK h0 he
        simp only [List.getElem_cons_zero] at hstep
        have hen := enough_step hPK h0 HI.out.2.2 he
        have hPl : O ++ (⟨s.f, e⟩ :: planF F ⟨u, wa, mo, r3, r4, r5, r6, r7, r8, r9⟩ k (cutL (s :: l) e)) = P := by rw [← HI.out.1]; show _ = O ++ (_ :: _); rw [he]
        have HST := Lib.hid (And.intro hstep (And.intro hen hPl))
        obtain ⟨rf, hrf⟩ : ∃ rf, ((firstS F s.f).getD ⟨0, 0⟩).f = rf := ⟨_, rfl⟩
        obtain ⟨rb, hrb⟩ : ∃ rb, (firstS F s.f).isSome = rb := ⟨_, rfl⟩
        obtain ⟨rt, hrt⟩ : ∃ rt, freeT F s.f = rt := ⟨_, rfl⟩
        have HRD : Hid (∀ W, Ext wr W → Calls Try.prog 32 #[.agg #[.slice B F.length d], .int .i64 s.f] W fun e w' => e = .returned (.tuple #[.agg #[.int .i64 rf, .int .i64 rt], .bool rb]) ∧ Ext W w') := Lib.hid fun W hW => by
          have := first_calls B d F s.f W (HF5.out.ext (hx.trans hW)) nF (by omega)
          rw [hrb] at this
          rw [← hrf, ← hrt]
          exact this
        have HED : Hid (∀ W, RwAt W w5.heap.size w6.heap.size AL (s :: l) → Calls Try.prog 33 #[.slice AL (s :: l).length cl, .int .i64 rt, .agg #[.int .i64 u, .int .i64 wa, .int .i64 mo, .int .i64 r3, .int .i64 r4, .int .i64 r5, .int .i64 r6, .int .i64 r7, .int .i64 r8, .int .i64 r9]] W fun e' w' => e' = .returned (.int .i64 e) ∧ Ext W w') := Lib.hid fun W hW => by
          have := endp_calls AL cl (s :: l) rt ⟨u, wa, mo, r3, r4, r5, r6, r7, r8, r9⟩ W hW.sat hN (by omega) h0 hUb.1 hUb.2 hmo hwa (by omega)
          rw [← hrt, he] at this
          rw [← hrt]
          exact this
        have kF := hx.block bF
        have kC := hx.block bC
        have hz6 : w.heap.size + 1 + 1 < wr.heap.size := Nat.lt_of_lt_of_le hz5 hx.size
        obtain ⟨g, o, rfl, g1, g2, g3, g4, g5⟩ := id (hrw h0)
        have p0 := (g5 0 h0).1
        rw [Nat.zero_mul, Nat.add_zero] at p0
        simp only [List.getElem_cons_zero] at p0
        have cF : wr.cell? ⟨w.heap.size + 1, 0, none⟩ = some (.slice B F.length d) := by rw [cell_of_block kF]; rfl
        have i0 : (0 : Int) < ((s :: l).length : Int) := by rw [List.length_cons]; omega
        obtain ⟨ll, hll⟩ : ∃ ll, (s :: l).length = ll := ⟨_, rfl⟩
        rw [hll] at i0 HED hcl hLl ⊢
        have HLL := Lib.hid hll
        have HRW := Lib.hid hrw
        have HKK := Lib.hid (And.intro kF kC)
        have HG := Lib.hid (And.intro g1 (And.intro g2 g3))
        have HE := Lib.hid (Ext.refl wr).drew
        have HEa := Lib.hid ((Ext.refl wr).alloc (.cells #[.int .i64 0, .int .i64 0] 48)).drew
        have HBX := Lib.hid (heap_alloc_new wr (.cells #[.int .i64 0, .int .i64 0] 48))
        have keep : Hid (∀ W, Ext wr W → W.cell? ⟨w.heap.size + 1, 0, none⟩ = some (.slice B F.length d) ∧ W.cell? ⟨g, o, none⟩ = some (.int .i64 s.f)) := Lib.hid fun W hx => ⟨hx.cell cF, hx.cell p0⟩
        clear hfr hstep hen hPl hrf hrb hrt he hgs hN hPK hll hrw kF kC g4 g5 cF h0 hUb hmo hwa
        go_upto_region 7 with (fail)
        rw [show decide (0 < ll) = true from decide_eq_true (by omega)]
        go_cut [14, 15] from 33 to 41 (fun v q wx => SpBox wr ⟨rf, rt⟩ v wx ∧ q = .bool rb)
        case first =>
          refine wp_region_noPanic ?_
          go_region_held3 (fun W => W.cell? ⟨w.heap.size + 1, 0, none⟩ = some (.slice B F.length d) ∧ W.cell? ⟨g, o, none⟩ = some (.int .i64 s.f))
            ((with_reducible refine keep.out _ ?_; (repeat' with_reducible first | exact HE.out | exact HEa.out | exact hE3 | exact hE5' _ _ | exact hE7 _ _ | exact Ext.refl _ | refine Ext.drew ?_ | refine Ext.alloc ?_ _)))
            ((go_at_call 32
              refine (HRD.out _ (by first | exact HEa.out | exact HE.out)).mono ?_
              rintro e3 w7 ⟨rfl, hx7⟩
              (first
                | (have hE3 : Ext wr w7 := HE.out.trans hx7
                   have hE5' : ∀ u v, Ext wr (((w7.alloc (.cells #[.int .i64 0, .int .i64 0] 48)).setCell ⟨w7.heap.size, 0, none⟩ u).setCell ⟨w7.heap.size, 1, none⟩ v) := fun u v => ((hE3.alloc _).setCell (p := ⟨w7.heap.size, 0, none⟩) hE3.size u).setCell (p := ⟨w7.heap.size, 1, none⟩) hE3.size v)
                | (have hE3 : Ext wr w7 := HEa.out.trans hx7
                   have bx3 : w7.heap[wr.heap.size]? = some (.cells #[.int .i64 0, .int .i64 0] 48 (0, 0)) := hx7.block HBX.out
                   have hE7 : ∀ u v, Ext wr ((w7.setCell ⟨wr.heap.size, 0, none⟩ u).setCell ⟨wr.heap.size, 1, none⟩ v) := fun u v => (hE3.setCell (p := ⟨wr.heap.size, 0, none⟩) (Nat.le_refl _) u).setCell (p := ⟨wr.heap.size, 1, none⟩) (Nat.le_refl _) v
                   have q0 : w7.cell? ⟨wr.heap.size, 0, none⟩ = some (.int .i64 0) := (by rw [cell_of_block bx3]; rfl)
                   have q1 : w7.cell? ⟨wr.heap.size, 1, none⟩ = some (.int .i64 0) := (by rw [cell_of_block bx3]; rfl)
                   have z0 : w7.frozen? ⟨wr.heap.size, 0, none⟩ = false := frozen_of_block bx3 0
                   have z1 : w7.frozen? ⟨wr.heap.size, 1, none⟩ = false := frozen_of_block bx3 1))))
          all_goals refine noPanic_intro ?_
          all_goals go_wp2_with fail
          all_goals go_meet
          all_goals first
            | exact ⟨⟨wr.heap.size, rfl, Nat.le_refl _, span_fill bx3, hE7 _ _⟩, rfl⟩
            | exact ⟨⟨w7.heap.size, rfl, hE3.size, heap_alloc_new _ _, hE3.alloc _⟩, rfl⟩
            | exact ⟨⟨w7.heap.size, rfl, hE3.size, span_fill (heap_alloc_new _ _), hE5' _ _⟩, rfl⟩
        case rest =>
          obtain ⟨⟨xa, rfl, hxa, bxa, hEa⟩, rfl⟩ := hcut
          have a1 : wc.cell? ⟨xa, 1, none⟩ = some (.int .i64 rt) := by rw [cell_of_block bxa]; rfl
          have hrwc := HRW.out.ext hEa
          have kC := hEa.block HKK.out.2
          have y0 := hEa.cell p0
          have u0 : wc.cell? ⟨w.heap.size + 1 + 1, 0, none⟩ = some (.int .i64 u) := by rw [cell_of_block kC]; rfl
          have u1 : wc.cell? ⟨w.heap.size + 1 + 1, 1, none⟩ = some (.int .i64 wa) := by rw [cell_of_block kC]; rfl
          have u2 : wc.cell? ⟨w.heap.size + 1 + 1, 2, none⟩ = some (.int .i64 mo) := by rw [cell_of_block kC]; rfl
          have u3 : wc.cell? ⟨w.heap.size + 1 + 1, 3, none⟩ = some (.int .i64 r3) := by rw [cell_of_block kC]; rfl
          have u4 : wc.cell? ⟨w.heap.size + 1 + 1, 4, none⟩ = some (.int .i64 r4) := by rw [cell_of_block kC]; rfl
          have u5 : wc.cell? ⟨w.heap.size + 1 + 1, 5, none⟩ = some (.int .i64 r5) := by rw [cell_of_block kC]; rfl
          have u6 : wc.cell? ⟨w.heap.size + 1 + 1, 6, none⟩ = some (.int .i64 r6) := by rw [cell_of_block kC]; rfl
          have u7 : wc.cell? ⟨w.heap.size + 1 + 1, 7, none⟩ = some (.int .i64 r7) := by rw [cell_of_block kC]; rfl
          have u8 : wc.cell? ⟨w.heap.size + 1 + 1, 8, none⟩ = some (.int .i64 r8) := by rw [cell_of_block kC]; rfl
          have u9 : wc.cell? ⟨w.heap.size + 1 + 1, 9, none⟩ = some (.int .i64 r9) := by rw [cell_of_block kC]; rfl
          have hown2 := ownsRow_ext hown hEa
          have hx2 := hx.trans hEa
          have hw62 := Nat.le_trans hw6 hEa.size
          have HRW2 := Lib.hid hrwc
          have HE2 := Lib.hid (Ext.refl wc).drew
          have HEa2 := Lib.hid ((Ext.refl wc).alloc (.cells #[.int .i64 0, .int .i64 0] 48)).drew
          have HBX2 := Lib.hid (heap_alloc_new wc (.cells #[.int .i64 0, .int .i64 0] 48))
          have keep2 : Hid (∀ W, Ext wc W → W.cell? ⟨xa, 1, none⟩ = some (.int .i64 rt) ∧ W.cell? ⟨g, o, none⟩ = some (.int .i64 s.f) ∧ W.cell? ⟨w.heap.size + 1 + 1, 0, none⟩ = some (.int .i64 u) ∧ W.cell? ⟨w.heap.size + 1 + 1, 1, none⟩ = some (.int .i64 wa) ∧ W.cell? ⟨w.heap.size + 1 + 1, 2, none⟩ = some (.int .i64 mo) ∧ W.cell? ⟨w.heap.size + 1 + 1, 3, none⟩ = some (.int .i64 r3) ∧ W.cell? ⟨w.heap.size + 1 + 1, 4, none⟩ = some (.int .i64 r4) ∧ W.cell? ⟨w.heap.size + 1 + 1, 5, none⟩ = some (.int .i64 r5) ∧ W.cell? ⟨w.heap.size + 1 + 1, 6, none⟩ = some (.int .i64 r6) ∧ W.cell? ⟨w.heap.size + 1 + 1, 7, none⟩ = some (.int .i64 r7) ∧ W.cell? ⟨w.heap.size + 1 + 1, 8, none⟩ = some (.int .i64 r8) ∧ W.cell? ⟨w.heap.size + 1 + 1, 9, none⟩ = some (.int .i64 r9)) := Lib.hid fun W hx => ⟨hx.cell a1, hx.cell y0, hx.cell u0, hx.cell u1, hx.cell u2, hx.cell u3, hx.cell u4, hx.cell u5, hx.cell u6, hx.cell u7, hx.cell u8, hx.cell u9⟩
          clear keep HBX HEa HE HRD HRW hown hx hrwc kC hEa bxa hxa a1 y0 p0 u0 u1 u2 u3 u4 u5 u6 u7 u8 u9
          go_upto_region 8 with (fail)
          go_cut [16] from 42 to 51 (fun v wx => SpBox wc ⟨s.f, e⟩ v wx)
          case first =>
            refine wp_region_noPanic ?_
            go_region_held3 (fun W => W.cell? ⟨xa, 1, none⟩ = some (.int .i64 rt) ∧ W.cell? ⟨g, o, none⟩ = some (.int .i64 s.f) ∧ W.cell? ⟨w.heap.size + 1 + 1, 0, none⟩ = some (.int .i64 u) ∧ W.cell? ⟨w.heap.size + 1 + 1, 1, none⟩ = some (.int .i64 wa) ∧ W.cell? ⟨w.heap.size + 1 + 1, 2, none⟩ = some (.int .i64 mo) ∧ W.cell? ⟨w.heap.size + 1 + 1, 3, none⟩ = some (.int .i64 r3) ∧ W.cell? ⟨w.heap.size + 1 + 1, 4, none⟩ = some (.int .i64 r4) ∧ W.cell? ⟨w.heap.size + 1 + 1, 5, none⟩ = some (.int .i64 r5) ∧ W.cell? ⟨w.heap.size + 1 + 1, 6, none⟩ = some (.int .i64 r6) ∧ W.cell? ⟨w.heap.size + 1 + 1, 7, none⟩ = some (.int .i64 r7) ∧ W.cell? ⟨w.heap.size + 1 + 1, 8, none⟩ = some (.int .i64 r8) ∧ W.cell? ⟨w.heap.size + 1 + 1, 9, none⟩ = some (.int .i64 r9))
              ((with_reducible refine keep2.out _ ?_; (repeat' with_reducible first | exact HE2.out | exact HEa2.out | exact hE3 | exact hE5' _ _ | exact hE7 _ _ | exact Ext.refl _ | refine Ext.drew ?_ | refine Ext.alloc ?_ _)))
              ((go_at_call 33
                refine (HED.out _ (by first | exact HRW2.out.ext HEa2.out | exact HRW2.out.ext HE2.out)).mono ?_
                rintro e3 w7 ⟨rfl, hx7⟩
                (first
                  | (have hE3 : Ext wc w7 := HE2.out.trans hx7
                     have hE5' : ∀ u v, Ext wc (((w7.alloc (.cells #[.int .i64 0, .int .i64 0] 48)).setCell ⟨w7.heap.size, 0, none⟩ u).setCell ⟨w7.heap.size, 1, none⟩ v) := fun u v => ((hE3.alloc _).setCell (p := ⟨w7.heap.size, 0, none⟩) hE3.size u).setCell (p := ⟨w7.heap.size, 1, none⟩) hE3.size v)
                  | (have hE3 : Ext wc w7 := HEa2.out.trans hx7
                     have bx3 : w7.heap[wc.heap.size]? = some (.cells #[.int .i64 0, .int .i64 0] 48 (0, 0)) := hx7.block HBX2.out
                     have hE7 : ∀ u v, Ext wc ((w7.setCell ⟨wc.heap.size, 0, none⟩ u).setCell ⟨wc.heap.size, 1, none⟩ v) := fun u v => (hE3.setCell (p := ⟨wc.heap.size, 0, none⟩) (Nat.le_refl _) u).setCell (p := ⟨wc.heap.size, 1, none⟩) (Nat.le_refl _) v
                     have q0 : w7.cell? ⟨wc.heap.size, 0, none⟩ = some (.int .i64 0) := (by rw [cell_of_block bx3]; rfl)
                     have q1 : w7.cell? ⟨wc.heap.size, 1, none⟩ = some (.int .i64 0) := (by rw [cell_of_block bx3]; rfl)
                     have z0 : w7.frozen? ⟨wc.heap.size, 0, none⟩ = false := frozen_of_block bx3 0
                     have z1 : w7.frozen? ⟨wc.heap.size, 1, none⟩ = false := frozen_of_block bx3 1))))
            all_goals refine noPanic_intro ?_
            all_goals go_wp2_with fail
            all_goals go_meet
            all_goals first
              | exact ⟨wc.heap.size, rfl, Nat.le_refl _, span_fill bx3, hE7 _ _⟩
              | exact ⟨w7.heap.size, rfl, hE3.size, heap_alloc_new _ _, hE3.alloc _⟩
              | exact ⟨w7.heap.size, rfl, hE3.size, span_fill (heap_alloc_new _ _), hE5' _ _⟩
          case rest =>
            obtain ⟨xf, rfl, hxf, bxf, hEf⟩ := hcut
            have f0 : wc.cell? ⟨xf, 0, none⟩ = some (.int .i64 s.f) := by rw [cell_of_block bxf]; rfl
            have f1 : wc.cell? ⟨xf, 1, none⟩ = some (.int .i64 e) := by rw [cell_of_block bxf]; rfl
            have hne : (Value.slice VO O.length cO).ownBlock ≠ some xf := fun e => by have := own_lt hown2 e; omega
            have hown3 := ownsRow_ext hown2 hEf
            have hx3 := hx2.trans hEf
            have hrw3 := HRW2.out.ext hEf
            have h56' : w5.heap.size ≤ w6.heap.size := h56
            have hb6 : w6.heap.size ≤ wc.heap.size := by
              have h8 := hEf.size
              omega
            clear keep2 HBX2 HEa2 HE2 HED HRW2 hown2 hx2
            go_wp2_with (at_builtin; refine wpList_append_new _ rfl _ _ 22 rfl w6.heap.size 48 _ 2 16 Try.underlying22 infoSpan rfl (by omega) _ _ _ rfl hown3 1 1 _ (by simp) _ rfl rfl (by simp [Value.oneCell']) (by simp [maxLen]; omega) (by omega) hb6 ?_; intro v8 w8 hown4 hm)
            have hxfw : xf < wc.heap.size := (Array.getElem?_eq_some_iff.1 bxf).1
            have f18 := (moved_cell hm (p := ⟨xf, 1, none⟩) hxfw hne).trans f1
            have hx8 : Ext w5 w8 := ext_moved hx3 (own_low hown3 h56') hm
            have hrw8 := hrw3.far hown3 hm
            clear hrw3 hx3 hown3 f0 f1
            have hxf8 : xf < w8.heap.size := Nat.lt_of_lt_of_le hxfw hm.1.size
            have hw68 : w6.heap.size ≤ w8.heap.size := Nat.le_trans hb6 hm.1.size
            have hlast : O.length + 1 = (O ++ [(⟨s.f, e⟩ : Sp)]).length := by simp
            have hspan : spans O ++ [.int .i64 s.f, .int .i64 e] = spans (O ++ [⟨s.f, e⟩]) := by rw [spans_append, spans_one]
            have hown5 : w8.ownsRow w6.heap.size 48 2 v8 (O.length + 1) (spans (O ++ [⟨s.f, e⟩])) := by rw [← hspan]; exact hown4
            have HOW := Lib.hid hown5
            clear hm hown4 hspan hlast hne bxf hxfw hb6 hEf hxf
            obtain ⟨VP, cP, rfl, _⟩ := own_shape hown5
            clear hown5
            go_loopw [13] (fun vl wr => ∃ (j lj : Nat) (A' : Option Addr) (c' : Nat), vl = .slice A' lj c' ∧ Hid (j + lj = ll) ∧ lj ≤ c' ∧ RwAt wr w5.heap.size w6.heap.size A' ((s :: l).drop j) ∧ Hid (∀ i (h : i < (s :: l).length), i < j → (s :: l)[i].t ≤ e) ∧ Ext w8 wr) (fun vl _ => lenV vl)
            case atStart => exact ⟨0, ll, _, cl, rfl, Lib.hid (by omega), hcl, hrw8, Lib.hid (fun i h hi => absurd hi (by omega)), Ext.refl _⟩
            case round =>
              obtain ⟨j, lj, A', c', rfl, HJ, hlc, hrw, HLE, hx⟩ := hrel
              have hdl : ((s :: l).drop j).length = lj := by rw [List.length_drop, HLL.out]; have := HJ.out; omega
              obtain ⟨hs1, hs2, hs3, hs4, hs5⟩ := HST.out.1
              cases lj with
              | zero =>
                have hC : Hid (cutL (s :: l) e = []) := Lib.hid (cut_nil fun i hi => HLE.out i hi (by have := HJ.out; have := HLL.out; omega))
                go_wp2
                refine wp_region_ext_lit (by kernel_rfl) (by kernel_rfl) ?_
                intro X _ g hg hg'
                repeat (go_big_quiet_step (fail))
                refine wpQuiet_nil ?_
                rintro w' ⟨m', rfl⟩
                have hxg := hg m'
                clear hg hg'
                go_wp2
                go_roundw
                case rel =>
                  refine ⟨k, O ++ [⟨s.f, e⟩], [], A', c', rfl, Nat.zero_le _, fun h => absurd h (by simp), ?_, (hx8.trans hx).trans hxg, Nat.le_trans hw68 (hx.trans hxg).size, by simp, by rw [List.length_append]; simp; omega, Lib.hid ⟨?_, ?_, ?_⟩⟩
                  · rw [List.length_append]; exact ownsRow_ext HOW.out (hx.trans hxg)
                  · rw [← HST.out.2.2, hC.out]; simp
                  · rw [← hC.out]; exact hs3
                  · rw [← hC.out]; exact HST.out.2.1
                case measure => simp [lenV]; omega
              | succ lk =>
                have hj : j < (s :: l).length := by have := HJ.out; have := HLL.out; omega
                have hdc : (s :: l).drop j = (s :: l)[j] :: (s :: l).drop (j + 1) := List.drop_eq_getElem_cons hj
                have hCA := fun h2 => cut_at (l := s :: l) (x := e) hj (fun i hi hij => HLE.out i hi hij) h2
                have hLE2 : (s :: l)[j].t ≤ e → ∀ i (h : i < (s :: l).length), i < j + 1 → (s :: l)[i].t ≤ e := fun h2 i hi hij => by
                  rcases Nat.lt_or_ge i j with h3 | h3
                  · exact HLE.out i hi h3
                  · obtain rfl : i = j := by omega
                    exact h2
                obtain ⟨q, hq⟩ : ∃ q, (s :: l)[j] = q := ⟨_, rfl⟩
                rw [hq] at hdc hCA hLE2
                rw [hdc] at hrw
                obtain ⟨g', o', rfl, g1, g2, g3, g4, g5⟩ := id (hrw (by simp))
                have p0 := (g5 0 (by simp)).1
                have p1 := (g5 0 (by simp)).2
                rw [Nat.zero_mul, Nat.add_zero] at p0 p1
                simp only [List.getElem_cons_zero] at p0 p1
                have f1 := hx.cell f18
                have HCA := Lib.hid hCA
                have HL2 := Lib.hid hLE2
                have HRW := Lib.hid hrw
                have HDC := Lib.hid hdc
                have i1 : (0 : Int) < ((lk + 1 : Nat) : Int) := by omega
                have hgf := g4 o'
                have hlk : lk + 1 ≤ 60000 := by have := HJ.out; omega
                clear hCA hLE2 hq hrw hdc hdl g4 g5 HLE
                by_cases c1 : q.t ≤ e
                · go_wp2
                  refine wp_region_ext_lit (by kernel_rfl) (by kernel_rfl) ?_
                  intro X _ g hg hg'
                  have k1 : ∀ n, (g n).cell? ⟨g', o' + 1, none⟩ = some (.int .i64 q.t) := fun n => (hg n).cell p1
                  have k2 : ∀ n, (g n).cell? ⟨xf, 1, none⟩ = some (.int .i64 e) := fun n => (hg n).cell f1
                  repeat (go_big_quiet_step (fail))
                  refine wpQuiet_nil ?_
                  rintro w' ⟨m', rfl⟩
                  have hxg := hg m'
                  clear hg hg' k1 k2
                  go_wp2
                  go_roundw
                  case rel =>
                    refine ⟨j + 1, lk, _, c' - 1, rfl, Lib.hid (by have := HJ.out; omega), by omega, ?_, Lib.hid (HL2.out c1), hx.trans hxg⟩
                    have hd1 := (HRW.out.drop (c := c') (by rw [List.length_cons, List.length_drop, HLL.out]; have := HJ.out; omega)).ext hxg
                    rw [List.drop_succ_cons, List.drop_zero] at hd1
                    simpa [Addr.add] using hd1
                  case measure => simp [lenV]
                · have hC : Hid (cutL (s :: l) e = ⟨max q.f e, q.t⟩ :: (s :: l).drop (j + 1)) := Lib.hid (HCA.out (by omega))
                  clear HCA HL2
                  go_wp2
                  refine wp_region_ext_lit (by kernel_rfl) (by kernel_rfl) ?_
                  intro X _ g hg hg'
                  have k1 : ∀ n, (g n).cell? ⟨g', o' + 1, none⟩ = some (.int .i64 q.t) := fun n => (hg n).cell p1
                  have k2 : ∀ n, (g n).cell? ⟨xf, 1, none⟩ = some (.int .i64 e) := fun n => (hg n).cell f1
                  repeat (go_big_quiet_step (fail))
                  refine wpQuiet_nil ?_
                  rintro w' ⟨m', rfl⟩
                  have hxg := hg m'
                  clear hg hg' k1 k2
                  replace p0 := hxg.cell p0
                  replace f1 := hxg.cell f1
                  have hgf2 := (hxg.frozen (p := ⟨g', o', none⟩) g3).trans hgf
                  have hx9 := hx.trans hxg
                  have hrw9 := HRW.out.ext hxg
                  generalize g m' = wm at *
                  go_wp2
                  go_region
                  have hx10 := (((hx8.trans hx9).setCell (p := ⟨g', o', none⟩) g1 (.int .i64 (max q.f e))).drew)
                  have hrw10 := (hrw9.set_head (max q.f e)).ext (Ext.refl _).drew
                  have hown10 := ownsRow_ext (ownsRow_setCell_below (ownsRow_ext HOW.out hx9) (a := ⟨g', o', none⟩) g2 (.int .i64 (max q.f e))) (Ext.refl _).drew
                  have hsz : w6.heap.size ≤ (wm.setCell ⟨g', o', none⟩ (.int .i64 (max q.f e))).drew.heap.size := Nat.le_trans hw68 (by simpa [World.setCell] using hx9.size)
                  have hlen : (((⟨max q.f e, q.t⟩ : Sp) :: (s :: l).drop (j + 1)).length) = lk + 1 := by rw [List.length_cons, List.length_drop, HLL.out]; have := HJ.out; omega
                  generalize (wm.setCell ⟨g', o', none⟩ (.int .i64 (max q.f e))).drew = wf at *
                  go_wp2
                  go_roundw
                  case rel =>
                    refine ⟨k, O ++ [⟨s.f, e⟩], ⟨max q.f e, q.t⟩ :: (s :: l).drop (j + 1), _, c', by rw [hlen], by rw [hlen]; exact hlc, hrw10, ?_, hx10, hsz, by rw [hlen]; exact hlk, by rw [List.length_append]; simp; omega, Lib.hid ⟨?_, ?_, ?_⟩⟩
                    · rw [List.length_append]; exact hown10
                    · rw [← HST.out.2.2, hC.out]; simp
                    · rw [← hC.out]; exact hs3
                    · rw [← hC.out]; exact HST.out.2.1
                  case measure => simp [lenV]; omega
  · have hE0 : E ≠ 0 := by simpa using eE
    have HP2 : Hid (P = []) := Lib.hid (by rw [HP.out, if_neg hE0])
    clear HP HS HPK HPE HCL
    go_wp2
    refine bodyPost_ret (v := .tuple #[.slice none 0 0, .int .i64 E]) (by simp [results, Try.results13, go_sem]) rfl ⟨none, 0, by rw [HP2.out]; rfl, Lib.hid (by rw [HP2.out]; exact SAt.nil _ _), (hx0.trans hx4).alloc _⟩
end Go.Proofs.Ytdcdnnbijjcfmaa
