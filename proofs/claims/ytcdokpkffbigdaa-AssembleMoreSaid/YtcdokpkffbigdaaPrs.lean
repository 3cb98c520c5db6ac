/- Next and Seal of a body whose parts are those of a list, texts' spans aside; what lists may be a body's. -/
import Derived.Test.YtcdokpkffbigdaaOpenA
namespace Go.Proofs.Ytcdokpkffbigdaa
open Go.RowKit

theorem canS_nz (p : Pt) (S : List Sp) : canS p.nz S = canS p S := by
  by_cases h : p.s = []
  · rw [nz_span h]
  · rw [canS_text h, canS_text (by rw [nz_s]; exact h), nz_s]
theorem cutA_nz (p : Pt) (m : Int) : cutA p.nz m = cutA p m := by
  by_cases h : p.s = []
  · rw [nz_span h]
  · unfold cutA; rw [nz_s, if_neg h, if_neg h]
theorem cutB_nz (p : Pt) (m : Int) : cutB p.nz m = cutB p m := by
  by_cases h : p.s = []
  · rw [nz_span h]
  · unfold cutB; rw [nz_s, if_neg h, if_neg h]
theorem nz_cutB (p : Pt) (m : Int) : (cutB p m).nz = cutB p m := by
  unfold cutB
  split
  · exact nz_span rfl
  · unfold Pt.nz; split <;> rfl
theorem restS_nz (p : Pt) (m : Int) (l : List Pt) : restS (cutB p m) (l.map Pt.nz) = (restS (cutB p m) l).map Pt.nz := by
  unfold restS
  split
  · rfl
  · rw [List.map_cons, nz_cutB]
theorem nextS_nz (L : List Pt) (S : List Sp) (most : Int) : nextS (L.map Pt.nz) S most = (nextS L S most).map fun x => (x.1, x.2.1.map Pt.nz, x.2.2) := by
  rcases L with _ | ⟨p, l⟩
  · rfl
  · simp only [List.map_cons, nextS, canS_nz, cutA_nz, cutB_nz, restS_nz]
    split <;> rfl
theorem sealS_nz (L : List Pt) (x : Int) : sealS (L.map Pt.nz) x = ((sealS L x).1.map Pt.nz, (sealS L x).2) := by
  rcases List.eq_nil_or_concat L with rfl | ⟨l, p, rfl⟩
  · rfl
  · rw [List.concat_eq_append, List.map_append, List.map_cons, List.map_nil, sealS_snoc, sealS_snoc, nz_open]
    by_cases ho : p.open_ = true
    · have hs := ((open_iff _).1 ho).1
      rw [nz_span hs]
      simp only [ho, if_true]
      split
      · simp [nz_span hs]
      · split
        · simp [nz_span hs]
        · split
          · simp
          · simp [Pt.nz]
    · simp only [ho]
      simp
/-- What Next comes to. -/
def NxPost (lo hi pb : Nat) (n : Int) (r : Option (Pt × List Pt × Int)) (w : World) (e : Ending) (w' : World) : Prop :=
  match r with
  | none => e = .returned (.tuple #[.agg #[.string ⟨#[]⟩, .int .i64 0, .int .i64 0], .bool false]) ∧ Ext w w'
  | some x => e = .returned (.tuple #[.agg #[.string ⟨x.1.s.toArray⟩, .int .i64 x.1.f, .int .i64 x.1.t], .bool true]) ∧ Hid (BodyAt lo hi w' pb (x.2.1.map Pt.nz) (n + x.2.2)) ∧ Chg lo hi w w'
theorem nx_calls (lo hi pb : Nat) (R : List Pt) (n : Int) (A : Option Addr) (c : Nat) (S : List Sp) (most : Int) (w : World) (h : BodyAt lo hi w pb (R.map Pt.nz) n) (hS : SAt w A S) (hN : Norm S) (hlS : S.length ≤ 1000000) (hR : ROk R) (hn : 0 ≤ n ∧ n + sumS R ≤ 9000000000000000000) (hhi : hi ≤ w.heap.size) :
    Calls Try.prog 16 #[.pointer (some ⟨pb, 0, none⟩), .agg #[.slice A S.length c], .int .i64 most] w (NxPost lo hi pb n (nextS R S most) w) := by
  have key : ∀ r e w', NextPost lo hi pb n (r.map fun x : Pt × List Pt × Int => (x.1, x.2.1.map Pt.nz, x.2.2)) w e w' → NxPost lo hi pb n r w e w' := fun r e w' h => by
    cases r with
    | none => exact h
    | some x => exact h
  rcases R with _ | ⟨p, l⟩
  · exact (next_nil lo hi pb [] n A c S most w h (.inl rfl) none rfl).mono fun e w' h => key none e w' h
  · by_cases hm : most < 1
    · have e : nextS (p :: l) S most = none := by simp only [nextS]; rw [if_pos (by omega)]
      rw [e]
      exact (next_nil lo hi pb _ n A c S most w h (.inr hm) none rfl).mono fun e w' h => key none e w' h
    · obtain ⟨h1, h2⟩ := hR.each p (by simp)
      have hl := hR.len
      have hz := hR.tail.sum
      rw [sumS_cons] at hn
      refine (next_calls lo hi pb p.nz (l.map Pt.nz) n A c S most w h hS hN hlS (by omega) ?_ ?_ ⟨hn.1, ?_⟩ (by simp at hl ⊢; omega) hhi).mono fun e w' h => ?_
      · intro hs
        rw [nz_s] at hs
        rw [nz_span hs]
        exact h2 hs
      · intro hs
        rw [nz_s] at hs
        have e : p.nz = ⟨p.s, 0, 0⟩ := by unfold Pt.nz; rw [if_neg hs]
        rw [e]
        exact ⟨rfl, rfl, by simp only; omega⟩
      · rw [nz_size]; omega
      · have e : nextS (p.nz :: l.map Pt.nz) S most = _ := nextS_nz (p :: l) S most
        rw [e] at h
        exact key _ _ _ h
theorem sl_calls (lo hi pb : Nat) (R : List Pt) (n x : Int) (w : World) (h : BodyAt lo hi w pb (R.map Pt.nz) n) (hl : R.length ≤ 1000) :
    Calls Try.prog 20 #[.pointer (some ⟨pb, 0, none⟩), .int .i64 x] w fun e w' => e = .returned (.int .i64 (sealS R x).2) ∧ Hid (BodyAt lo hi w' pb ((sealS R x).1.map Pt.nz) n) ∧ Chg lo hi w w' := by
  rcases List.eq_nil_or_concat R with rfl | ⟨l, p, rfl⟩
  · exact (seal_nil lo hi pb n x w h).mono fun e w' h => h
  · rw [List.concat_eq_append] at *
    have e := sealS_nz (l ++ [p]) x
    rw [List.map_append, List.map_cons, List.map_nil] at e h
    refine (seal_calls lo hi pb (l.map Pt.nz) p.nz n x w h (by simp at hl ⊢; omega)).mono fun e' w' h => ?_
    unfold SealPost at h
    rw [e] at h
    exact h
theorem rsl_calls (A : Option Addr) (c : Nat) (R : List Pt) (n x : Int) (w : World) (h : PAt w A R) (hc : R.length ≤ c) (hl : R.length ≤ 1000) :
    Calls Try.prog 28 #[.agg #[.slice A R.length c, .int .i64 n], .int .i64 x] w (RSealPost A n (sealS R x) w) := by
  rcases List.eq_nil_or_concat R with rfl | ⟨l, p, rfl⟩
  · exact rseal_nil A c n x w
  · rw [List.concat_eq_append] at *
    exact rseal_calls A c l p n x w h hc (by simp at hl; omega)

theorem lok_of {L : List Pt} (h1 : smallB L = true) (h2 : okL L = true) : LOk L := by
  unfold smallB at h1
  simp only [Bool.and_eq_true, decide_eq_true_eq] at h1
  obtain ⟨hs, hl⟩ := h1
  have key : ∀ L : List Pt, okL L = true → (∀ p ∈ L, p.s = [] → 0 ≤ p.f ∧ p.f < p.t) ∧ ∀ k (h : k + 1 < L.length), L[k].open_ = false := by
    intro L
    induction L with
    | nil => intro _; exact ⟨fun p hp => by simp at hp, fun k hk => by simp at hk⟩
    | cons p l ih =>
      intro h
      simp only [okL, Bool.and_eq_true] at h
      obtain ⟨hp, hl⟩ := h
      obtain ⟨i1, i2⟩ := ih hl
      refine ⟨fun q hq e => ?_, fun k hk => ?_⟩
      · rcases List.mem_cons.1 hq with rfl | hq
        · simp [Pt.okB, e, rightB] at hp
          omega
        · exact i1 q hq e
      · rcases k with _ | k
        · rw [List.getElem_cons_zero]
          rcases l with _ | ⟨q, l⟩
          · simp at hk
          · simp [Pt.okB] at hp
            simp [Pt.open_]
            intro e
            rcases hp with hp | hp
            · exact absurd e hp
            · exact hp.2
        · rw [List.getElem_cons_succ]
          exact i2 k (by simpa using hk)
  obtain ⟨k1, k2⟩ := key L h2
  refine ⟨hl, fun p hp => ?_, k2⟩
  have := List.all_eq_true.1 hs p hp
  simp [Pt.smB] at this
  exact ⟨this.1, fun e => by have := k1 p hp e; omega⟩
theorem LOk.tail {p : Pt} {l : List Pt} (h : LOk (p :: l)) : LOk l :=
  ⟨by have := h.len; simp at this; omega, fun x hx => h.each x (by simp [hx]), fun k hk => by
    have := h.shut (k + 1) (by simpa using hk)
    rwa [List.getElem_cons_succ] at this⟩
theorem cutB_open {p : Pt} {m : Int} (h : p.open_ = false) : (cutB p m).open_ = false := by
  unfold cutB
  by_cases hs : p.s = []
  · rw [if_pos hs]
    simp [Pt.open_, hs] at h ⊢
    exact h
  · rw [if_neg hs]
    simp [Pt.open_]
theorem next_lok {L L' : List Pt} {q : Pt} {m most : Int} {S : List Sp} (h : LOk L) (hn : nextS L S most = some (q, L', m)) : LOk L' := by
  have hr := (next_ok h.rok hn).1
  rcases L with _ | ⟨p, l⟩
  · cases hn
  · simp only [nextS] at hn
    split at hn
    · cases hn
    · cases hn
      unfold restS at hr ⊢
      split
      · exact h.tail
      · rename_i hE
        rw [if_neg hE] at hr
        have hp := h.each p (by simp)
        refine ⟨hr.len, fun x hx => ?_, fun k hk => ?_⟩
        · rcases List.mem_cons.1 hx with rfl | hx
          · have h1 := hr.each (cutB p (min (canS p S) most)) (by simp)
            refine ⟨h1.1, fun e => ?_⟩
            have h2 := h1.2 e
            refine ⟨h2.1, h2.2.1, ?_⟩
            by_cases hs : p.s = []
            · have := (hp.2 hs).2.2
              unfold cutB
              rw [if_pos hs]
              exact this
            · unfold cutB
              rw [if_neg hs]
              exact .inl (by simp)
          · exact h.each x (by simp [hx])
        · rcases k with _ | k
          · rw [List.getElem_cons_zero]
            exact cutB_open (h.shut 0 (by simpa using hk))
          · rw [List.getElem_cons_succ]
            have := h.shut (k + 1) (by simpa using hk)
            rwa [List.getElem_cons_succ] at this
theorem sumS_append (a b : List Pt) : sumS (a ++ b) = sumS a + sumS b := by simp [sumS]
theorem seal_lok {L : List Pt} {x : Int} (h : LOk L) : LOk (sealS L x).1 ∧ sumS (sealS L x).1 ≤ sumS L := by
  rcases List.eq_nil_or_concat L with rfl | ⟨l, p, rfl⟩
  · exact ⟨h, Int.le_refl _⟩
  · rw [List.concat_eq_append] at *
    have hl : LOk l := ⟨by have := h.len; simp at this; omega, fun q hq => h.each q (by simp [hq]), fun k hk => by
      have := h.shut k (by simp; omega)
      rwa [List.getElem_append_left (by omega)] at this⟩
    have hp := h.each p (by simp)
    rw [sealS_snoc]
    by_cases ho : p.open_ = true
    · have hs := (open_iff _).1 ho
      have hp2 := hp.2 hs.1
      have hsz := (h.rok.size (p := p) (by simp)).1
      rw [if_pos ho]
      split
      · exact ⟨h, Int.le_refl _⟩
      · rename_i hx
        split
        · exact ⟨h, Int.le_refl _⟩
        · rename_i hf
          split
          · rw [List.append_nil, sumS_append]
            refine ⟨hl, ?_⟩
            simp [sumS]
            omega
          · rename_i hne
            refine ⟨⟨by have := h.len; simp at this ⊢; omega, fun q hq => ?_, fun k hk => ?_⟩, ?_⟩
            · rcases List.mem_append.1 hq with hq | hq
              · exact hl.each q hq
              · rw [List.mem_singleton.1 hq]
                exact ⟨by simp, fun _ => ⟨hp2.1, by simp only; omega, by simp only; omega⟩⟩
            · have hk2 : k < l.length := by simpa using hk
              rw [List.getElem_append_left hk2]
              have := h.shut k (by simp; omega)
              rwa [List.getElem_append_left hk2] at this
            · rw [sumS_append, sumS_append]
              have e1 : sumS [p] = p.size := by simp [sumS]
              have e2 : sumS [⟨[], p.f, x⟩] = x - p.f := by simp [sumS, Pt.size]
              have e3 : p.size = p.t - p.f := by unfold Pt.size; rw [if_pos hs.1]
              rw [e1, e2, e3, hs.2]
              omega
    · rw [if_neg ho]
      exact ⟨h, Int.le_refl _⟩
end Go.Proofs.Ytcdokpkffbigdaa
