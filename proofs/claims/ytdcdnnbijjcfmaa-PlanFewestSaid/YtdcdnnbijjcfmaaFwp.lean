/- No plan has fewer fetches: plain. -/
import Derived.Test.YtdcdnnbijjcfmaaRit
namespace Go.Proofs.Ytdcdnnbijjcfmaa

/-- The fewest fetches, by trying all; at most so many. -/
def fewS (W F : List Sp) (n : Int) (c : Cf) : Nat → List Sp → Int
  | 0, _ => 0
  | _ + 1, [] => 0
  | k + 1, s :: l => (endsE s.f c.u (s :: l)).foldl (fun b e => if fetchB ⟨s.f, e⟩ W F n c then min b (1 + fewS W F n c k (lessS (s :: l) (ofS [⟨s.f, e⟩]))) else b) 1000
/-- Units that end. -/
def Shut (L : List Sp) : Prop := ∀ s ∈ L, s.t ≠ 4611686018427387904
theorem fewer_len {F : List Sp} {c : Cf} : ∀ (k : Nat) (L : List Sp), (planF F c k L).length ≤ k := by
  intro k
  induction k with
  | zero => intro L; exact Nat.le_refl _
  | succ k ih =>
    intro L
    cases L with
    | nil => exact Nat.zero_le _
    | cons s l =>
      show (_ :: planF F c k _).length ≤ _
      rw [List.length_cons]
      exact Nat.succ_le_succ (ih _)
/-- A fetch of any end leaves what lies behind it. -/
theorem any_step {U F : List Sp} {c : Cf} {n : Int} {L : List Sp} {a : Int} (h : Pok L F c (endI n)) (hS : Shut L) (hR : Rest U L a) (h0 : 0 < L.length) {e : Int} (he : e ∈ endsE L[0].f c.u L) {k : Nat} (hk : Enough L c.u (k + 1)) :
    L[0].f < e ∧ lessS L (ofS [⟨L[0].f, e⟩]) = cutL L e ∧ Pok (cutL L e) F c (endI n) ∧ Shut (cutL L e) ∧ Rest U (cutL L e) e ∧ Enough (cutL L e) c.u k ∧ (∀ y, Mem (cutL L e) y ↔ Mem L y ∧ e ≤ y) ∧ ∃ j, ∃ hj : j < L.length, L[j].f < e ∧ e ≤ L[j].t ∧ (e = L[j].t ∨ e % c.u = 0) := by
  have hN := h.lok.norm
  have hge := first_le hN h0
  have hg0 := hN.get h0
  obtain ⟨u1, u2⟩ := unit_bound h.unit
  obtain ⟨i1, i2, i3, i4, _⟩ := endsE_inv (from_ := L[0].f) u1 u2 L hN (fun s hs => ⟨h.lok.f s hs, hge s hs, h.small s hs⟩)
  obtain ⟨s, hs, s1, s2, s3⟩ := i1 e he
  obtain ⟨j, hj, rfl⟩ := List.mem_iff_getElem.1 hs
  have hlt : L[0].f < e := by have := hge _ hs; omega
  have hgj := hN.get hj
  obtain ⟨c1, c2, c3⟩ := cut_lok (x := e) h.lok (fun v hv a b => by
    obtain ⟨q, hq, rfl⟩ := List.mem_iff_getElem.1 hv
    obtain rfl := span_one hN hq hj a (Int.le_of_lt b) s1 s2
    rcases s3 with h1 | h1
    · omega
    · exact h1)
  have hcm : ∀ v ∈ cutL L e, ∃ v' ∈ L, v.t = v'.t := fun v hv => by
    rcases cut_find L e with h1 | ⟨q, hq, h1, h2⟩
    · rw [cut_nil h1] at hv; simp at hv
    · rw [cut_at hq h1 h2] at hv
      rcases List.mem_cons.1 hv with rfl | hv
      · exact ⟨L[q], List.getElem_mem hq, rfl⟩
      · exact ⟨v, List.mem_of_mem_drop hv, rfl⟩
  have hSC : Shut (cutL L e) := fun v hv => by obtain ⟨v', hv', e1⟩ := hcm v hv; rw [e1]; exact hS v' hv'
  have hsm : ∀ v ∈ cutL L e, v.f ≤ 100 * c.u ∧ (v.t ≤ 100 * c.u ∨ v.t = 4611686018427387904) := fun v hv => by
    obtain ⟨v', hv', e1⟩ := hcm v hv
    have h1 := (h.small v' hv').2
    have h2 := hS v' hv'
    have h3 := (c1.norm.1 v hv).2.1
    rw [e1]
    refine ⟨by omega, h1⟩
  refine ⟨hlt, ?_, ⟨c1, h.unit, h.most, h.wa, h.norm, fun x hx => h.free x ((c2 x).1 hx).1, hsm⟩, hSC, fun y => ?_, fun v hv => ?_, c2, j, hj, s1, s2, s3⟩
  · refine norm_ext (norm_less _ _) c1.norm fun x => ?_
    rw [mem_less hN (norm_of _), mem_of, c2]
    simp only [List.mem_singleton, exists_eq_left]
    have hok : (Sp.mk L[0].f e).ok := ⟨hg0.1, hlt, by show e ≤ _; omega⟩
    constructor
    · rintro ⟨x1, x2⟩
      refine ⟨x1, ?_⟩
      rcases lt_or_ge x e with h5 | h5
      · obtain ⟨v, hv, v1, _⟩ := x1
        have := hge v hv
        exact absurd ⟨hok, by show L[0].f ≤ x; omega, h5⟩ x2
      · exact h5
    · rintro ⟨x1, x2⟩
      exact ⟨x1, fun hx => by have : x < e := hx.2.2; omega⟩
  · have ha : a ≤ L[0].f := ((hR L[0].f).1 (mem_idx h0 (Int.le_refl _) hg0.2.1)).2
    rw [c2, hR]
    constructor
    · rintro ⟨⟨y1, _⟩, y2⟩; exact ⟨y1, y2⟩
    · rintro ⟨y1, y2⟩; exact ⟨⟨y1, by omega⟩, y2⟩
  · have h1 := c3 v hv
    have h2 := mult_step (show 0 < c.u by omega) (h.lok.f _ (List.getElem_mem h0)) (c1.f v hv) (by omega)
    have h3 := hk L[0] (List.getElem_mem h0)
    rw [show ((k + 1 : Nat) : Int) = (k : Int) + 1 by omega, Int.add_mul] at h3
    omega
theorem fold_min {p : Int → Bool} {f : Int → Int} (m : Int) : ∀ (l : List Int) (b : Int), m ≤ b → (∀ x ∈ l, p x = true → m ≤ f x) → (b = m ∨ ∃ x ∈ l, p x = true ∧ f x = m) → l.foldl (fun b x => if p x then min b (f x) else b) b = m := by
  intro l
  induction l with
  | nil =>
    intro b _ _ h
    rcases h with h | ⟨x, hx, _⟩
    · exact h
    · simp at hx
  | cons y l ih =>
    intro b hb hl h
    rw [List.foldl_cons]
    have hy := hl y (by simp)
    refine ih _ ?_ (fun x hx => hl x (by simp [hx])) ?_
    · split
      · rename_i hp; have := hy hp; omega
      · exact hb
    · rcases h with h | ⟨x, hx, hp, hf⟩
      · left
        split
        · rename_i hp; have := hy hp; omega
        · exact h
      · rcases List.mem_cons.1 hx with rfl | hx
        · left; rw [if_pos hp]; omega
        · exact .inr ⟨x, hx, hp, hf⟩
theorem few_eq {U F : List Sp} {c : Cf} {n : Int} (hL : lengthB n = true) (hU : Norm U) : ∀ (k : Nat) (L : List Sp) (a : Int), k ≤ 900 → Pok L F c (endI n) → Shut L → Rest U L a → Enough L c.u k → fewS U F n c k L = (planF F c k L).length := by
  intro k
  induction k with
  | zero => intro L a _ h _ _ _; rfl
  | succ k ih =>
    intro L a hk9 h hS hR hk
    cases L with
    | nil => rfl
    | cons s l =>
      have h0 : 0 < (s :: l).length := by simp
      have hN := h.lok.norm
      have hstp := fun e he => any_step h hS hR h0 (e := e) he hk
      simp only [List.getElem_cons_zero] at hstp
      obtain ⟨⟨j, hj⟩, hmax⟩ := endC_spec h.lok h.unit h.most h.wa h.norm h.free h0
      have hbe := best_eq h hL hU hR h0
      simp only [List.getElem_cons_zero] at hbe hj hmax
      obtain ⟨u1, u2⟩ := unit_bound h.unit
      have hge := first_le hN h0
      obtain ⟨i1, i2, i3, i4, _⟩ := endsE_inv (from_ := s.f) u1 u2 (s :: l) hN (fun v hv => ⟨h.lok.f v hv, hge v hv, h.small v hv⟩)
      generalize hem : endC (s :: l) (freeT F s.f) c = e at *
      have hjl := hj.hj
      have hlo := hj.lo
      have hhi := hj.hi
      have hal := hj.al
      rw [getD_i hjl] at hlo hhi hal
      have hfe := (fetch_fe h hL hU hR h0 hjl hlo hhi hal).2 hj
      have hme : e ∈ endsE s.f c.u (s :: l) := i3 _ (List.getElem_mem hjl) e hlo hhi hal (hS _ (List.getElem_mem hjl))
      obtain ⟨a1, a2, a3, a4, a5, a6, a7, _⟩ := hstp e hme
      have hbest := ih (cutL (s :: l) e) e (by omega) a3 a4 a5 a6
      show (endsE s.f c.u (s :: l)).foldl (fun b e => if fetchB ⟨s.f, e⟩ U F n c then min b (1 + fewS U F n c k (lessS (s :: l) (ofS [⟨s.f, e⟩]))) else b) 1000 = ((⟨s.f, endC (s :: l) (freeT F s.f) c⟩ :: planF F c k (cutL (s :: l) (endC (s :: l) (freeT F s.f) c))).length : Int)
      rw [hem, List.length_cons]
      have hlen := fewer_len (F := F) (c := c) k (cutL (s :: l) e)
      refine fold_min (p := fun e => fetchB ⟨s.f, e⟩ U F n c) (f := fun e => 1 + fewS U F n c k (lessS (s :: l) (ofS [⟨s.f, e⟩]))) _ _ _ (by omega) (fun x hx hp => ?_) (.inr ⟨e, hme, hfe, ?_⟩)
      · obtain ⟨b1, b2, b3, b4, b5, b6, b7, q, hq, q1, q2, q3⟩ := hstp x hx
        show _ ≤ 1 + fewS U F n c k (lessS (s :: l) (ofS [⟨s.f, x⟩]))
        rw [b2, ih (cutL (s :: l) x) x (by omega) b3 b4 b5 b6]
        have hxe : x ≤ e := hmax q x ((fetch_fe h hL hU hR h0 hq q1 q2 q3).1 hp)
        have := fewer (F := F) (c := c) (c' := c) rfl (Int.le_refl _) (Int.le_refl _) k (cutL (s :: l) x) (cutL (s :: l) e) e b3 a3 fun y => by
          rw [a7, b7]
          constructor
          · rintro ⟨y1, y2⟩; exact ⟨⟨y1, by omega⟩, y2⟩
          · rintro ⟨⟨y1, _⟩, y2⟩; exact ⟨y1, y2⟩
        omega
      · show 1 + fewS U F n c k (lessS (s :: l) (ofS [⟨s.f, e⟩])) = _
        rw [a2, hbest]
        omega
end Go.Proofs.Ytdcdnnbijjcfmaa
