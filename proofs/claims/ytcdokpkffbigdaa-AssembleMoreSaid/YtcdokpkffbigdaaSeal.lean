/- Body.Seal. -/
import Derived.Test.YtcdokpkffbigdaaNxt
import Derived.BigQuiet
import Derived.Deep.QuietTactic
import Derived.IntWalk
namespace Go.Proofs.Ytcdokpkffbigdaa
open Go.RowKit

def sealS (L : List Pt) (x : Int) : List Pt × Int :=
  match L.getLast? with
  | none => (L, 6)
  | some p => if p.open_ then (if x < 0 ∨ 1099511627776 < x then (L, 1) else if x < p.f then (L, 11) else (L.dropLast ++ (if p.f = x then [] else [⟨[], p.f, x⟩]), 0)) else (L, 6)
def SealPost (lo hi pb : Nat) (n : Int) (r : List Pt × Int) (w : World) (e : Ending) (w' : World) : Prop :=
  e = .returned (.int .i64 r.2) ∧ Hid (BodyAt lo hi w' pb r.1 n) ∧ Chg lo hi w w'
theorem sealS_snoc (l : List Pt) (p : Pt) (x : Int) : sealS (l ++ [p]) x = if p.open_ then (if x < 0 ∨ 1099511627776 < x then (l ++ [p], 1) else if x < p.f then (l ++ [p], 11) else (l ++ (if p.f = x then [] else [⟨[], p.f, x⟩]), 0)) else (l ++ [p], 6) := by
  simp [sealS]
theorem LAt.sealed {lo hi pb b o : Nat} {w : World} {p : Pt} {l : List Pt} (h : LAt lo hi pb w (some ⟨b, o, none⟩) (l ++ [p])) (x : Int) (k : Nat) (hk : k = l.length) : LAt lo hi pb (w.setCell ⟨b, o + k * 3 + 2, none⟩ (.int .i64 x)) (some ⟨b, o, none⟩) (l ++ [⟨p.s, p.f, x⟩]) := fun j hj => by
  subst hk
  obtain ⟨b', o', e, hb, hf, p0, p1, p2⟩ := h j (by simpa using hj)
  cases e
  have hne : ∀ i, i < 3 → (j < l.length ∨ i < 2) → (⟨b, o + l.length * 3 + 2, none⟩ : Addr) ≠ ⟨b, o + j * 3 + i, none⟩ := fun i h1 h2 e => by
    have h3 : o + l.length * 3 + 2 = o + j * 3 + i := congrArg Addr.off e
    simp only [List.length_append, List.length_singleton] at hj
    omega
  refine ⟨b, o, rfl, hb, fun i => by rw [← hf i]; simp [go_sem], ?_⟩
  by_cases hlt : j < l.length
  · simp only [List.getElem_append_left hlt] at p0 p1 p2 ⊢
    exact ⟨(World.cell?_setCell_other w _ _ _ (hne 0 (by omega) (.inl hlt))).trans p0, (World.cell?_setCell_other w _ _ _ (hne 1 (by omega) (.inl hlt))).trans p1, (World.cell?_setCell_other w _ _ _ (hne 2 (by omega) (.inl hlt))).trans p2⟩
  · have hj' : j = l.length := by simp at hj; omega
    subst hj'
    simp only [List.getElem_concat_length] at p0 p1 p2 ⊢
    exact ⟨(World.cell?_setCell_other w _ _ _ (hne 0 (by omega) (.inr (by omega)))).trans p0, (World.cell?_setCell_other w _ _ _ (hne 1 (by omega) (.inr (by omega)))).trans p1, World.cell?_setCell_same w _ _ p2⟩
theorem LAt.init {lo hi pb : Nat} {w : World} {A : Option Addr} {l m : List Pt} (h : LAt lo hi pb w A (l ++ m)) : LAt lo hi pb w A l := fun k hk => by
  obtain ⟨b, o, e, hb, hf, p⟩ := h k (by simp; omega)
  simp only [List.getElem_append_left hk] at p
  exact ⟨b, o, e, hb, hf, p⟩

set_option maxHeartbeats 1000000 in
set_option maxRecDepth 100000 in
theorem seal_nil (lo hi pb : Nat) (n x : Int) (w : World) (h : BodyAt lo hi w pb [] n) :
    Calls Try.prog 20 #[.pointer (some ⟨pb, 0, none⟩), .int .i64 x] w (SealPost lo hi pb n ([], 6) w) := by
  have hB := Lib.hid h
  obtain ⟨A, c, h1, _⟩ := h
  have c0 : w.cell? ⟨pb, 0, none⟩ = some (.slice A 0 c) := by rw [cell_of_row _ _ _ _ _ _ h1]; rfl
  clear h1
  go_enter Try.func20, Try.ntmps20
  go_wp2
  refine wp_region_ext_lit (by kernel_rfl) (by kernel_rfl) ?_
  intro X _ g hg hg'
  have q0 : ∀ n, (g n).cell? ⟨pb, 0, none⟩ = some (.slice A 0 c) := fun n => (hg n).cell c0
  repeat (go_big_quiet_step (fail))
  refine wpQuiet_nil ?_
  rintro w2 ⟨m, rfl⟩
  go_wp2
  go_ret
  exact ⟨rfl, Lib.hid (hB.out.ext (hg m)), Chg.of_ext (hg m)⟩

set_option maxHeartbeats 4000000 in
set_option maxRecDepth 100000 in
theorem seal_calls (lo hi pb : Nat) (l : List Pt) (p : Pt) (n x : Int) (w : World) (h : BodyAt lo hi w pb (l ++ [p]) n) (hl : l.length ≤ 1000) :
    Calls Try.prog 20 #[.pointer (some ⟨pb, 0, none⟩), .int .i64 x] w (SealPost lo hi pb n (sealS (l ++ [p]) x) w) := by
  have hB := Lib.hid h
  have HS := Lib.hid (sealS_snoc l p x)
  obtain ⟨A', c, h1, h2, h3, h4, h5⟩ := h
  obtain ⟨b, o, rfl, hb, hfz, p0, p1, p2⟩ := h5 l.length (by simp)
  simp only [List.getElem_concat_length] at p0 p1 p2
  obtain ⟨k, hk⟩ : ∃ k, l.length = k := ⟨_, rfl⟩
  obtain ⟨nl, hnl⟩ : ∃ nl, (l ++ [p]).length = nl := ⟨_, rfl⟩
  have hnk : nl = k + 1 := by rw [← hnl, ← hk]; simp
  rw [hnl] at h1 h4
  rw [hk] at p0 p1 p2 hl
  have HK := Lib.hid hk
  have HN := Lib.hid hnl
  have H5 := Lib.hid h5
  have HPB := Lib.hid h1
  have hpf : ∀ j, w.frozen? ⟨pb, j, none⟩ = false := fun j => frozen_of_block h1 j
  have c0 : w.cell? ⟨pb, 0, none⟩ = some (.slice (some ⟨b, o, none⟩) nl c) := by rw [cell_of_row _ _ _ _ _ _ h1]; rfl
  clear hk hnl h5 h1
  rcases p with ⟨s, f, t⟩
  simp only at p0 p1 p2
  have e1 : ((nl : Int) == 0) = false := beq_eq_false_iff_ne.2 (by omega)
  have i1 : IntKind.i64.wrap ((nl : Int) - 1) = (k : Int) := by rw [IntWalk.i64_in _ (by omega)]; omega
  have i2 : (k : Int) < nl := by omega
  have i3 : k < nl := by omega
  have HNK := Lib.hid hnk
  clear hnk
  go_enter Try.func20, Try.ntmps20
  go_wp2
  refine wp_region_ext_lit (by kernel_rfl) (by kernel_rfl) ?_
  intro X _ g hg hg'
  have q0 : ∀ n, (g n).cell? ⟨pb, 0, none⟩ = some (.slice (some ⟨b, o, none⟩) nl c) := fun n => (hg n).cell c0
  have k0 : ∀ n, (g n).cell? ⟨b, o + k * 3, none⟩ = some (.string ⟨s.toArray⟩) := fun n => (hg n).cell p0
  have k1 : ∀ n, (g n).cell? ⟨b, o + k * 3 + 1, none⟩ = some (.int .i64 f) := fun n => (hg n).cell p1
  have k2 : ∀ n, (g n).cell? ⟨b, o + k * 3 + 2, none⟩ = some (.int .i64 t) := fun n => (hg n).cell p2
  repeat (go_big_quiet_step ((go_at_call 35; exact (open_calls s f t _).mono fun e w2 ⟨he, hx⟩ => ⟨he, hg' _ ((hg _).trans hx)⟩)))
  refine wpQuiet_nil ?_
  rintro w2 ⟨m, rfl⟩
  have hB1 := Lib.hid (hB.out.ext (hg m))
  have hC1 := Lib.hid (Chg.of_ext (lo := lo) (hi := hi) (hg m))
  have H51 := Lib.hid (H5.out.ext (hg m))
  have HPB1 := Lib.hid ((hg m).block HPB.out)
  replace q0 := q0 m
  replace k0 := k0 m
  replace k1 := k1 m
  replace k2 := k2 m
  clear hB H5 HPB c0 p0 p1 p2 hpf hfz
  generalize g m = w1 at *
  clear hg hg'
  have hpf : ∀ j, w1.frozen? ⟨pb, j, none⟩ = false := fun j => frozen_of_block HPB1.out j
  have hfz : ∀ j, w1.frozen? ⟨b, j, none⟩ = false := fun j => by
    obtain ⟨b', o', e, _, hf, _⟩ := H51.out l.length (by simp)
    cases e
    exact hf j
  cases eo : Pt.open_ ⟨s, f, t⟩
  · have HR : Hid (sealS (l ++ [⟨s, f, t⟩]) x = (l ++ [⟨s, f, t⟩], 6)) := Lib.hid (by rw [HS.out, eo]; rfl)
    go_wp2
    go_ret
    rw [HR.out]
    exact ⟨rfl, hB1, hC1.out⟩
  · rw [eo] at HS
    cases e2 : decide (x < 0)
    case true =>
      have e3 : x < 0 := by simpa using e2
      have HR : Hid (sealS (l ++ [⟨s, f, t⟩]) x = (l ++ [⟨s, f, t⟩], 1)) := Lib.hid (by rw [HS.out, if_pos rfl, if_pos (.inl e3)])
      go_wp2
      go_ret
      rw [HR.out]
      exact ⟨rfl, hB1, hC1.out⟩
    case false =>
    have e3 : ¬ x < 0 := by simpa using e2
    cases e4 : decide (1099511627776 < x)
    case true =>
      have e5 : 1099511627776 < x := by simpa using e4
      have HR : Hid (sealS (l ++ [⟨s, f, t⟩]) x = (l ++ [⟨s, f, t⟩], 1)) := Lib.hid (by rw [HS.out, if_pos rfl, if_pos (.inr e5)])
      go_wp2
      go_ret
      rw [HR.out]
      exact ⟨rfl, hB1, hC1.out⟩
    case false =>
    have e5 : ¬ 1099511627776 < x := by simpa using e4
    have HS2 : Hid (sealS (l ++ [⟨s, f, t⟩]) x = if x < f then (l ++ [⟨s, f, t⟩], 11) else (l ++ (if f = x then [] else [⟨[], f, x⟩]), 0)) := Lib.hid (by rw [HS.out, if_pos rfl, if_neg (by omega)])
    have hs : s = [] := ((open_iff _).1 eo).1
    subst hs
    clear HS
    go_wp2
    refine wp_region_ext_lit (by kernel_rfl) (by kernel_rfl) ?_
    intro X _ g hg hg'
    have q1 : ∀ n, (g n).cell? ⟨pb, 0, none⟩ = some (.slice (some ⟨b, o, none⟩) nl c) := fun n => (hg n).cell q0
    repeat (go_big_quiet_step (fail))
    refine wpQuiet_nil ?_
    rintro w2 ⟨m2, rfl⟩
    have HB2 := Lib.hid (hB1.out.ext (hg m2))
    have HC2 := Lib.hid (hC1.out.trans (Chg.of_ext (lo := lo) (hi := hi) (hg m2)))
    have H52 := Lib.hid (H51.out.ext (hg m2))
    have HPB2 := Lib.hid ((hg m2).block HPB1.out)
    replace q1 := q1 m2
    have k3 := (hg m2).cell k0
    have k4 := (hg m2).cell k1
    have k5 := (hg m2).cell k2
    clear hB1 hC1 H51 HPB1 q0 k0 k1 k2 hpf hfz eo
    generalize g m2 = w3 at *
    clear hg hg'
    have hpf : ∀ j, w3.frozen? ⟨pb, j, none⟩ = false := fun j => frozen_of_block HPB2.out j
    have hfz : ∀ j, w3.frozen? ⟨b, j, none⟩ = false := fun j => by
      obtain ⟨b', o', e, _, hf, _⟩ := H52.out l.length (by simp)
      cases e
      exact hf j
    cases e6 : decide (x < f)
    case true =>
      have e7 : x < f := by simpa using e6
      have HR : Hid (sealS (l ++ [⟨[], f, t⟩]) x = (l ++ [⟨[], f, t⟩], 11)) := Lib.hid (by rw [HS2.out, if_pos e7])
      go_wp2
      go_ret
      rw [HR.out]
      exact ⟨rfl, HB2, HC2.out⟩
    case false =>
    have e7 : ¬ x < f := by simpa using e6
    have HS3 : Hid (sealS (l ++ [⟨[], f, t⟩]) x = (l ++ (if f = x then [] else [⟨[], f, x⟩]), 0)) := Lib.hid (by rw [HS2.out, if_neg e7])
    have n5 : ¬ b = pb := hb.2.2
    have n6 : ¬ pb = b := fun e => hb.2.2 e.symm
    have HL3 := Lib.hid (H52.out.sealed x k HK.out.symm)
    have HPB3 := Lib.hid ((Below.heap_setCell w3 ⟨b, o + k * 3 + 2, none⟩ (.int .i64 x) pb n6).trans HPB2.out)
    have HC3 := Lib.hid (HC2.out.set_ (p := ⟨b, o + k * 3 + 2, none⟩) (.inl ⟨hb.1, hb.2.1⟩) (.int .i64 x))
    have hgl : Hid ((l ++ [⟨[], f, x⟩] : List Pt).length = nl) := Lib.hid (by rw [← HN.out]; simp)
    cases e8 : decide (f = x)
    · have e9 : ¬ f = x := by simpa using e8
      have HR : Hid (sealS (l ++ [⟨[], f, t⟩]) x = (l ++ [⟨[], f, x⟩], 0)) := Lib.hid (by rw [HS3.out, if_neg e9])
      clear e8
      go_wp2
      go_ret
      rw [HR.out]
      exact ⟨rfl, Lib.hid ⟨_, _, by rw [hgl.out]; exact HPB3.out, h2, h3, by rw [hgl.out]; exact h4, HL3.out⟩, HC3.out⟩
    · have e9 : f = x := by simpa using e8
      have HR : Hid (sealS (l ++ [⟨[], f, t⟩]) x = (l, 0)) := Lib.hid (by rw [HS3.out, if_pos e9, List.append_nil])
      subst e9
      clear e8
      go_upto_region 10 with (fail)
      have d0 : (w3.setCell ⟨b, o + k * 3 + 2, none⟩ (.int .i64 f)).cell? ⟨pb, 0, none⟩ = some (.slice (some ⟨b, o, none⟩) nl c) := by simp [go_sem, *]
      have df : ∀ j, (w3.setCell ⟨b, o + k * 3 + 2, none⟩ (.int .i64 f)).frozen? ⟨pb, j, none⟩ = false := fun j => by simp [go_sem, *]
      generalize (w3.setCell ⟨b, o + k * 3 + 2, none⟩ (.int .i64 f)) = wd at *
      have i4 : (k : Int) ≤ c := by omega
      have i5 : k ≤ c := by omega
      clear k3 k4 k5 q1 hpf hfz HB2 HC2 H52 HPB2 hgl
      go_region
      go_wp2
      go_ret
      rw [HR.out]
      have hB2 : ∀ cc, k ≤ cc → BodyAt lo hi (wd.setCell ⟨pb, 0, none⟩ (.slice (some ⟨b, o, none⟩) k cc)) pb l n := fun cc hcc => ⟨some ⟨b, o, none⟩, cc, by rw [heap_setCell_same _ _ _ _ _ _ HPB3.out, HK.out]; rfl, h2, h3, by rw [HK.out]; exact hcc, (HL3.out.init).setpb _⟩
      exact ⟨rfl, Lib.hid (hB2 _ (by omega)).drew_, (HC3.out.set_ (.inl ⟨h2, h3⟩) _).drew_⟩
end Go.Proofs.Ytcdokpkffbigdaa
