/- The contract of Map.Drop. -/
import Derived.Test.YtjiabibnbpjhaaaPut
namespace Go.Proofs.Ytjiabibnbpjhaaa
open Go.RowKit

def drop1 (f : Int) (r : Rn) (out : List Rn) : List Rn := if r.f < f then out ++ [⟨r.f, min r.t f, r.v⟩] else out
def drop2 (t : Int) (r : Rn) (out : List Rn) : List Rn := if t < r.t then out ++ [⟨max r.f t, r.t, r.v⟩] else out
def dropTo (f t : Int) (l : List Rn) : List Rn := l.foldl (fun out r => drop2 t r (drop1 f r out)) []
theorem dropTo_snoc (f t : Int) (l : List Rn) (r : Rn) : dropTo f t (l ++ [r]) = drop2 t r (drop1 f r (dropTo f t l)) := by simp [dropTo]
theorem drop1_length (f : Int) (r : Rn) (out : List Rn) : (drop1 f r out).length ≤ out.length + 1 := by unfold drop1; split <;> simp
theorem drop2_length (t : Int) (r : Rn) (out : List Rn) : (drop2 t r out).length ≤ out.length + 1 := by unfold drop2; split <;> simp
theorem dropTo_length (f t : Int) (l : List Rn) : (dropTo f t l).length ≤ 2 * l.length := by
  suffices h : ∀ (l : List Rn) (s : List Rn), (l.foldl (fun out r => drop2 t r (drop1 f r out)) s).length ≤ s.length + 2 * l.length by
    have := h l []
    simpa [dropTo] using this
  intro l
  induction l with
  | nil => intro s; simp
  | cons r l ih =>
    intro s
    have h1 := ih (drop2 t r (drop1 f r s))
    have h2 := drop1_length f r s
    have h3 := drop2_length t r (drop1 f r s)
    simp only [List.foldl_cons, List.length_cons]
    omega

def DropPost (mb : Nat) (l : List Rn) (w : World) (e : Ending) (w' : World) : Prop := e = .returned (.tuple #[]) ∧ Holds w' mb l ∧ w.grownBy w' (some mb)

set_option maxRecDepth 100000 in
theorem drop_good (mb : Nat) (l : List Rn) (f t : Int) (w : World) (hm : Holds w mb l) (hr : (rightB f t && decide (f < t)) = true) (hn : l.length ≤ 100000) :
    Calls Try.prog 22 #[.pointer (some ⟨mb, 0, none⟩), .agg #[.int .i64 f, .int .i64 t]] w (DropPost mb (dropTo f t l) w) := by
  obtain ⟨A, c, hmb, hlc, hcell⟩ := hm
  have hm0 : w.cell? ⟨mb, 0, none⟩ = some (.slice A l.length c) := by rw [cell_of_row w mb 0 _ _ _ hmb]; rfl
  go_enter Try.func22, Try.ntmps22
  go_wp2_with fail
  refine (proper_calls _ _ _).mono ?_
  rintro e w1 ⟨rfl, hx⟩
  rw [hr]
  have hx1 : Ext w w1 := ((Ext.refl w).alloc _).trans hx
  have s0 := hx.cell (p := ⟨w.heap.size, 0, none⟩) (u := .int .i64 f) (by simp)
  have s1 := hx.cell (p := ⟨w.heap.size, 1, none⟩) (u := .int .i64 t) (by simp)
  have hm1 := hx1.cell hm0
  have hz1 : w.heap.size + 1 ≤ w1.heap.size := by have := hx.size; simpa using this
  obtain ⟨i0, hi, hz0, hz1', hz2⟩ := info_parts info80
  go_wp2_with (at_make; refine wpList_make_own _ rfl _ _ 71 rfl (w.heap.size + 1) 80 i0 _ 3 Try.underlying71 hi hz0 hz1' _ _ _ (l.length + 1) rfl rfl (by omega) (by rw [hz2]; omega) (by simp [maxLen]; omega) hz1 ?_; intro w2 hown2 hg2; have hm2 := (ext_of_grown hg2).cell hm1)
  have hx2 := hx1.trans (ext_of_grown hg2)
  have hPI : PI w f t w2 (.slice (some ⟨w1.heap.size, 0, none⟩) 0 (l.length + 1)) [] := ⟨hx2, hown2, (ext_of_grown hg2).cell s0, (ext_of_grown hg2).cell s1, Nat.le_trans hz1 hg2.size⟩
  clear hx hx1 s0 s1 hm1 hz1 hi hz0 hz1' hz2 hown2 hg2 hm2 hx2 hr
  go_loopw [4, 26] (fun v i wr => ∃ k : Nat, k ≤ l.length ∧ i = .int .i64 k ∧ PI w f t wr v (dropTo f t (l.take k))) (fun _ i _ => l.length - (intOf i).toNat)
  case atStart => exact ⟨0, Nat.zero_le _, rfl, hPI⟩
  case round =>
    obtain ⟨k, hk, rfl, hpi⟩ := hrel
    clear hPI
    by_cases hlt : k < l.length
    · obtain ⟨b, rfl, hne, p0, p1, p2⟩ := holds_at hcell hlt
      obtain ⟨r, hr⟩ : ∃ r, l[k] = r := ⟨_, rfl⟩
      rw [hr] at p0 p1 p2
      have hlen := dropTo_length f t (l.take k)
      have hl2 : (l.take k).length ≤ l.length := by simp; omega
      have hts : dropTo f t (l.take (k + 1)) = drop2 t r (drop1 f r (dropTo f t (l.take k))) := by
        rw [List.take_succ_eq_append_getElem hlt, dropTo_snoc, hr]
      generalize dropTo f t (l.take k) = out at *
      replace p0 := hpi.1.cell p0
      replace p1 := hpi.1.cell p1
      replace p2 := hpi.1.cell p2
      have HS := Lib.hid hts
      clear hts hr hcell hmb hm0
      have hpb : PI w f t (wr.alloc (.cells #[.int .i64 r.f, .int .i64 r.t, .int .i64 r.v] 80)) u4 out := hpi.ext ((Ext.refl _).alloc _)
      have hbx : PB (wr.alloc (.cells #[.int .i64 r.f, .int .i64 r.t, .int .i64 r.v] 80)) u4 wr.heap.size r :=
        ⟨by simp, by simp, by simp, fun e => by have := (own_lt hpi.2.1 e).2; omega⟩
      have t0 := hpb.2.2.1
      have t1 := hpb.2.2.2.1
      go_upto_if 35 with (fail)
      clear p0 p1 p2 t0 t1 hpi
      generalize wr.alloc (.cells #[.int .i64 r.f, .int .i64 r.t, .int .i64 r.v] 80) = wb at *
      generalize wr.heap.size = rb at *
      go_cut [4] from 27 to 74 (fun v wx => PI w f t wx v (drop1 f r out) ∧ PB wx v rb r)
      case first =>
        have r0 := hbx.1
        have r1 := hbx.2.1
        have r2 := hbx.2.2.1
        have s0 := hpb.2.2.1
        obtain ⟨A', c', rfl, _⟩ := own_shape hpb.2.1
        by_cases h1 : r.f < f
        · go_wp2_with (at_builtin; refine wpList_append_new _ rfl _ _ 71 rfl (w.heap.size + 1) 80 _ 3 24 Try.underlying71 info80 rfl (by omega) (.slice A' out.length c') _ _ rfl hpb.2.1 1 1 _ (by simp) _ rfl rfl (by simp [Value.oneCell']) (by simp [maxLen]; omega) (by omega) hpb.2.2.2.2 ?_; intro v1 w1 hown2 hm)
          go_meet
          case rel =>
            unfold drop1; rw [if_pos h1]
            refine hpb.pushed hbx ?_ hm
            rw [List.length_append, flat_append, flat_one]; exact hown2
        · go_wp2
          go_meet
          case rel => unfold drop1; rw [if_neg (by omega)]; exact ⟨hpb, hbx⟩
      case rest =>
        obtain ⟨hpi, hbx⟩ := hcut
        have hl1 := drop1_length f r out
        clear hpb
        have r0 := hbx.1
        have r1 := hbx.2.1
        have r2 := hbx.2.2.1
        have s1 := hpi.2.2.2.1
        obtain ⟨A', c', hv, _⟩ := own_shape hpi.2.1
        subst hv
        by_cases h3 : t < r.t
        · go_wp2_with (at_builtin; refine wpList_append_new _ rfl _ _ 71 rfl (w.heap.size + 1) 80 _ 3 24 Try.underlying71 info80 rfl (by omega) (.slice A' (drop1 f r out).length c') _ _ rfl hpi.2.1 1 1 _ (by simp) _ rfl rfl (by simp [Value.oneCell']) (by simp [maxLen]; omega) (by omega) hpi.2.2.2.2 ?_; intro v1 w1 hown2 hm)
          go_roundw
          case rel =>
            refine ⟨k + 1, by omega, by go_num, ?_⟩
            rw [HS.out]; unfold drop2; rw [if_pos h3]
            refine (hpi.pushed hbx ?_ hm).1
            rw [List.length_append, flat_append, flat_one]; exact hown2
          case measure => simp [intOf]; omega
        · go_wp2
          go_roundw
          case rel =>
            refine ⟨k + 1, by omega, by go_num, ?_⟩
            rw [HS.out]; unfold drop2; rw [if_neg (by omega)]; exact hpi
          case measure => simp [intOf]; omega
    · obtain rfl : k = l.length := by omega
      rw [List.take_length] at hpi
      have hmb1 := hpi.1.block hmb
      have hm1 := hpi.1.cell hm0
      have hf1 : wr.frozen? ⟨mb, 0, none⟩ = false := by simp [World.frozen?, hmb1]
      have hlt := (Array.getElem?_eq_some_iff.1 hmb).1
      clear hcell hmb hm0
      obtain ⟨A', c', hv, _⟩ := own_shape hpi.2.1
      subst hv
      go_wp2
      go_end0
      exact ⟨rfl, holds_set hmb1 (by omega) hpi.2.1, only_set hpi.1 hlt⟩

set_option maxRecDepth 100000 in
theorem drop_bad (mb : Nat) (f t : Int) (w : World) (hr : (rightB f t && decide (f < t)) = false) :
    Calls Try.prog 22 #[.pointer (some ⟨mb, 0, none⟩), .agg #[.int .i64 f, .int .i64 t]] w fun e w' => e = .returned (.tuple #[]) ∧ Ext w w' := by
  go_enter Try.func22, Try.ntmps22
  go_wp2_with fail
  refine (proper_calls _ _ _).mono ?_
  rintro e w1 ⟨rfl, hx⟩
  rw [hr]
  go_wp2
  first | go_end0 | refine bodyPost_ret (results_none rfl _ _ _) rfl ?_
  exact ⟨rfl, ((Ext.refl w).alloc _).trans hx⟩

set_option maxRecDepth 100000 in
theorem drop_none (f t : Int) (w : World) :
    Calls Try.prog 22 #[.pointer none, .agg #[.int .i64 f, .int .i64 t]] w fun e w' => e = .returned (.tuple #[]) ∧ Ext w w' := by
  go_enter Try.func22, Try.ntmps22
  go_wp2
  first | go_end0 | refine bodyPost_ret (results_none rfl _ _ _) rfl ?_
  exact ⟨rfl, (Ext.refl w).alloc _⟩
end Go.Proofs.Ytjiabibnbpjhaaa
