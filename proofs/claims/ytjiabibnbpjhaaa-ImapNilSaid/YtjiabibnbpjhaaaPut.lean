/- The contract of Map.Put. -/
import Derived.Test.YtjiabibnbpjhaaaPush
import Derived.Deep.Cut
import Derived.Deep.CutRange
namespace Go.Proofs.Ytjiabibnbpjhaaa
open Go.RowKit

/-- A round of Put. -/
def put1 (f : Int) (r : Rn) (out : List Rn) : List Rn := if r.f < f then pushR out ⟨r.f, min r.t f, r.v⟩ else out
def put2b (f : Int) (r : Rn) (put : Bool) : Bool := !put && decide (f < r.t)
def put2 (f t v : Int) (r : Rn) (put : Bool) (out : List Rn) : List Rn := if put2b f r put then pushR out ⟨f, t, v⟩ else out
def put3 (t : Int) (r : Rn) (out : List Rn) : List Rn := if t < r.t then pushR out ⟨max r.f t, r.t, r.v⟩ else out
def putStep (f t v : Int) (s : List Rn × Bool) (r : Rn) : List Rn × Bool :=
  (put3 t r (put2 f t v r s.2 (put1 f r s.1)), s.2 || put2b f r s.2)
def putTo (f t v : Int) (l : List Rn) : List Rn × Bool := l.foldl (putStep f t v) ([], false)
def putR (f t v : Int) (l : List Rn) : List Rn := let s := putTo f t v l; if s.2 then s.1 else pushR s.1 ⟨f, t, v⟩

theorem pushR_length (l : List Rn) (r : Rn) : (pushR l r).length ≤ l.length + 1 := by
  rcases List.eq_nil_or_concat l with rfl | ⟨l0, q, rfl⟩
  · simp [pushR]
  · rw [List.concat_eq_append]
    cases h : joins q r
    · rw [pushR_two _ _ _ h]; simp
    · rw [pushR_one _ _ _ h]; simp
theorem putTo_snoc (f t v : Int) (l : List Rn) (r : Rn) : putTo f t v (l ++ [r]) = putStep f t v (putTo f t v l) r := by simp [putTo]
theorem putStep_length (f t v : Int) (s : List Rn × Bool) (r : Rn) : (putStep f t v s r).1.length ≤ s.1.length + 3 := by
  unfold putStep put3 put2 put1
  have h1 := pushR_length s.1 ⟨r.f, min r.t f, r.v⟩
  simp only
  repeat' split
  all_goals first | omega | (have h := fun a b => pushR_length a b; grind)
theorem putTo_length (f t v : Int) (l : List Rn) : (putTo f t v l).1.length ≤ 3 * l.length := by
  suffices h : ∀ (l : List Rn) (s : List Rn × Bool), (l.foldl (putStep f t v) s).1.length ≤ s.1.length + 3 * l.length by
    have := h l ([], false)
    simpa [putTo] using this
  intro l
  induction l with
  | nil => intro s; simp
  | cons r l ih =>
    intro s
    have h1 := ih (putStep f t v s r)
    have h2 := putStep_length f t v s r
    simp only [List.foldl_cons, List.length_cons]
    omega

/-- Block mb is a map whose runs are l. -/
def Holds (w : World) (mb : Nat) (l : List Rn) : Prop :=
  ∃ A c, w.heap[mb]? = some (.cells #[.slice A l.length c] 73 (0, 0)) ∧ l.length ≤ c ∧ ∀ j u, (flat l)[j]? = some u → ∃ b, A = some ⟨b, 0, none⟩ ∧ b ≠ mb ∧ w.cell? ⟨b, j, none⟩ = some u

theorem holds_at {w : World} {mb : Nat} {l : List Rn} {A : Option Addr} (h : ∀ j u, (flat l)[j]? = some u → ∃ b, A = some ⟨b, 0, none⟩ ∧ b ≠ mb ∧ w.cell? ⟨b, j, none⟩ = some u) {k : Nat} (hk : k < l.length) :
    ∃ b, A = some ⟨b, 0, none⟩ ∧ b ≠ mb ∧ w.cell? ⟨b, k * 3, none⟩ = some (.int .i64 l[k].f) ∧ w.cell? ⟨b, k * 3 + 1, none⟩ = some (.int .i64 l[k].t) ∧ w.cell? ⟨b, k * 3 + 2, none⟩ = some (.int .i64 l[k].v) := by
  obtain ⟨b, rfl, hne, p0⟩ := h (k * 3 + 0) _ (by rw [flat_get l k 0 hk (by omega)]; rfl)
  obtain ⟨b', e', _, p1⟩ := h (k * 3 + 1) _ (by rw [flat_get l k 1 hk (by omega)]; rfl)
  obtain ⟨b'', e'', _, p2⟩ := h (k * 3 + 2) _ (by rw [flat_get l k 2 hk (by omega)]; rfl)
  simp only [Option.some.injEq, Addr.mk.injEq, and_true] at e' e''
  subst e'
  subst e''
  exact ⟨b, rfl, hne, p0, p1, p2⟩

/-- What the loop of Put keeps. -/
def PI (w : World) (f t : Int) (wr : World) (v : Value) (out : List Rn) : Prop :=
  Ext w wr ∧ wr.ownsRow (w.heap.size + 1) 80 3 v out.length (flat out) ∧ wr.cell? ⟨w.heap.size, 0, none⟩ = some (.int .i64 f) ∧ wr.cell? ⟨w.heap.size, 1, none⟩ = some (.int .i64 t) ∧ w.heap.size + 1 ≤ wr.heap.size

/-- The box of a round's run. -/
def PB (wr : World) (v : Value) (rb : Nat) (r : Rn) : Prop :=
  wr.cell? ⟨rb, 0, none⟩ = some (.int .i64 r.f) ∧ wr.cell? ⟨rb, 1, none⟩ = some (.int .i64 r.t) ∧ wr.cell? ⟨rb, 2, none⟩ = some (.int .i64 r.v) ∧ v.ownBlock ≠ some rb

theorem PI.ext {w wr w' : World} {f t : Int} {v : Value} {out : List Rn} (h : PI w f t wr v out) (hx : Ext wr w') : PI w f t w' v out :=
  ⟨h.1.trans hx, ownsRow_ext h.2.1 hx, hx.cell h.2.2.1, hx.cell h.2.2.2.1, Nat.le_trans h.2.2.2.2 hx.size⟩
theorem own_lt {w : World} {base : Nat} {e : TypeId} {size : Nat} {v : Value} {n : Nat} {xs : List Value} (h : w.ownsRow base e size v n xs) {g : Nat} (hg : v.ownBlock = some g) : base ≤ g ∧ g < w.heap.size := by
  rcases h.2 with ⟨rfl, _⟩ | ⟨g', cap, cur, rfl, hb, hh, _⟩
  · simp [Value.ownBlock] at hg
  · simp [Value.ownBlock] at hg
    subst hg
    exact ⟨hb, (Array.getElem?_eq_some_iff.1 hh).1⟩
theorem PI.pushed1 {w wr w' : World} {f t : Int} {v v' : Value} {out out' : List Rn} (h : PI w f t wr v out)
    (ho : w'.ownsRow (w.heap.size + 1) 80 3 v' out'.length (flat out')) (hm : Moved wr w' v v') : PI w f t w' v' out' := by
  have hne : v.ownBlock ≠ some w.heap.size := fun e => by have := (own_lt h.2.1 e).1; omega
  have hx : Ext w w' := ⟨hm.1.os.trans h.1.os, hm.1.tape.trans h.1.tape, hm.1.output.trans h.1.output, Nat.le_trans h.1.size hm.1.size, fun k hk => (hm.1.block k (Nat.lt_of_lt_of_le hk h.1.size) (fun e => by have := (own_lt h.2.1 e.symm).1; omega)).trans (Below.block h.1 k hk)⟩
  have far : ∀ (g i : Nat) (u : Value), v.ownBlock ≠ some g → wr.cell? ⟨g, i, none⟩ = some u → w'.cell? ⟨g, i, none⟩ = some u := fun g i u hg hc =>
    (hm.1.cell_far ⟨g, i, none⟩ (block_of_cell hc) (fun e => hg e.symm)).trans hc
  exact ⟨hx, ho, far _ _ _ hne h.2.2.1, far _ _ _ hne h.2.2.2.1, Nat.le_trans h.2.2.2.2 hm.1.size⟩
theorem PI.pushed {w wr w' : World} {f t : Int} {v v' : Value} {out out' : List Rn} {rb : Nat} {r : Rn} (h : PI w f t wr v out) (hb : PB wr v rb r)
    (ho : w'.ownsRow (w.heap.size + 1) 80 3 v' out'.length (flat out')) (hm : Moved wr w' v v') : PI w f t w' v' out' ∧ PB w' v' rb r := by
  have far : ∀ (g i : Nat) (u : Value), v.ownBlock ≠ some g → wr.cell? ⟨g, i, none⟩ = some u → w'.cell? ⟨g, i, none⟩ = some u := fun g i u hg hc =>
    (hm.1.cell_far ⟨g, i, none⟩ (block_of_cell hc) (fun e => hg e.symm)).trans hc
  refine ⟨h.pushed1 ho hm, far _ _ _ hb.2.2.2 hb.1, far _ _ _ hb.2.2.2 hb.2.1, far _ _ _ hb.2.2.2 hb.2.2.1, ?_⟩
  rcases hm.2 with e | ⟨j, hj, e⟩
  · rw [e]; exact hb.2.2.2
  · rw [e]
    intro e2
    have := block_of_cell hb.1
    simp only [Option.some.injEq] at e2
    simp only at this
    omega

theorem only_set {w w' : World} {g : Nat} {u : Value} (h : Ext w w') (_hg : g < w.heap.size) : w.grownBy (w'.setCell ⟨g, 0, none⟩ u) (some g) :=
  ⟨h.os, h.tape, h.output, by simpa [World.setCell] using h.size, fun i hi hne => (Below.heap_setCell w' ⟨g, 0, none⟩ u i (fun e => hne (by rw [e]))).trans (Below.block h i hi)⟩
/-- A map's one cell, written anew. -/
theorem holds_set {w : World} {mb base : Nat} {v0 : Value} {A : Option Addr} {c : Nat} {l : List Rn} (hb : w.heap[mb]? = some (.cells #[v0] 73 (0, 0))) (hlt : mb < base) (ho : w.ownsRow base 80 3 (.slice A l.length c) l.length (flat l)) :
    Holds (w.setCell ⟨mb, 0, none⟩ (.slice A l.length c)) mb l := by
  refine ⟨A, c, ?_, ?_, ?_⟩
  · exact heap_setCell_same w mb 0 #[v0] 73 _ hb
  · obtain ⟨A', c', e, h⟩ := own_shape ho
    cases e; exact h
  · intro j u hj
    have hl : 0 < l.length := by
      rcases l with _ | ⟨r, l⟩
      · simp [flat] at hj
      · simp
    obtain ⟨g, cap, hv, hg, hgl⟩ := ho.form hl
    cases hv
    have hne : g ≠ mb := by omega
    refine ⟨g, rfl, hne, ?_⟩
    rw [World.cell?_setCell_other _ _ _ _ (fun e => hne (congrArg Addr.block e).symm), ho.cellAt j (by have := (List.getElem?_eq_some_iff.1 hj).1; rw [flat_length] at this; exact this)]
    exact hj

set_option maxRecDepth 100000 in
theorem put_good (mb : Nat) (l : List Rn) (f t x : Int) (w : World) (hm : Holds w mb l) (hr : (rightB f t && decide (f < t)) = true) (hn : l.length ≤ 100000) :
    Calls Try.prog 23 #[.pointer (some ⟨mb, 0, none⟩), .agg #[.int .i64 f, .int .i64 t], .int .i64 x] w fun e w' => e = .returned (.int .i64 0) ∧ Holds w' mb (putR f t x l) ∧ w.grownBy w' (some mb) := by
  obtain ⟨A, c, hmb, hlc, hcell⟩ := hm
  have hm0 : w.cell? ⟨mb, 0, none⟩ = some (.slice A l.length c) := by rw [cell_of_row w mb 0 _ _ _ hmb]; rfl
  have hq : ∀ (a : Addr) (w : World), (binOp .eql 24 (.pointer (some a)) (.pointer none)).run Try.prog w = .ok (.bool false) w := fun a w => by simp [go_sem]
  go_enter Try.func23, Try.ntmps23
  go_wp2_with fail
  refine (proper_calls _ _ _).mono ?_
  rintro e w1 ⟨rfl, hx⟩
  rw [hr]
  have hx1 : Ext w w1 := ((Ext.refl w).alloc _).trans hx
  have s0 := hx.cell (p := ⟨w.heap.size, 0, none⟩) (u := .int .i64 f) (by simp)
  have s1 := hx.cell (p := ⟨w.heap.size, 1, none⟩) (u := .int .i64 t) (by simp)
  have hm1 := hx1.cell hm0
  have hz1 : w.heap.size + 1 ≤ w1.heap.size := by have := hx.size; simpa using this
  obtain ⟨i0, hi, hz0, hz1', hz2⟩ := info_parts info80
  go_wp2_with (at_make; refine wpList_make_own _ rfl _ _ 71 rfl (w.heap.size + 1) 80 i0 _ 3 Try.underlying71 hi hz0 hz1' _ _ _ (l.length + 2) rfl rfl (by omega) (by rw [hz2]; omega) (by simp [maxLen]; omega) hz1 ?_; intro w2 hown2 hg2; have hm2 := (ext_of_grown hg2).cell hm1)
  have hx2 := hx1.trans (ext_of_grown hg2)
  have hPI : PI w f t w2 (.slice (some ⟨w1.heap.size, 0, none⟩) 0 (l.length + 2)) [] := ⟨hx2, hown2, (ext_of_grown hg2).cell s0, (ext_of_grown hg2).cell s1, Nat.le_trans hz1 hg2.size⟩
  clear hx hx1 s0 s1 hm1 hz1 hi hz0 hz1' hz2 hown2 hg2 hm2 hx2 hr
  go_loopw [7, 8, 28] (fun v p i wr => ∃ k : Nat, k ≤ l.length ∧ i = .int .i64 k ∧ p = .bool (putTo f t x (l.take k)).2 ∧ PI w f t wr v (putTo f t x (l.take k)).1) (fun _ _ i _ => l.length - (intOf i).toNat)
  case atStart => exact ⟨0, Nat.zero_le _, rfl, rfl, hPI⟩
  case round =>
    obtain ⟨k, hk, rfl, rfl, hpi⟩ := hrel
    clear hPI
    by_cases hlt : k < l.length
    · obtain ⟨b, rfl, hne, p0, p1, p2⟩ := holds_at hcell hlt
      obtain ⟨r, hr⟩ : ∃ r, l[k] = r := ⟨_, rfl⟩
      rw [hr] at p0 p1 p2
      have hlen := putTo_length f t x (l.take k)
      have hl2 : (l.take k).length ≤ l.length := by simp; omega
      have hts : putTo f t x (l.take (k + 1)) = putStep f t x (putTo f t x (l.take k)) r := by
        rw [List.take_succ_eq_append_getElem hlt, putTo_snoc, hr]
      generalize putTo f t x (l.take k) = s at *
      obtain ⟨out, put⟩ := s
      replace p0 := hpi.1.cell p0
      replace p1 := hpi.1.cell p1
      replace p2 := hpi.1.cell p2
      have HS := Lib.hid hts
      clear hts hr hcell hmb hm0
      simp only at hlen hpi ⊢
      have hpb : PI w f t (wr.alloc (.cells #[.int .i64 r.f, .int .i64 r.t, .int .i64 r.v] 80)) u7 out := hpi.ext ((Ext.refl _).alloc _)
      have hbx : PB (wr.alloc (.cells #[.int .i64 r.f, .int .i64 r.t, .int .i64 r.v] 80)) u7 wr.heap.size r :=
        ⟨by simp, by simp, by simp, fun e => by have := (own_lt hpi.2.1 e).2; omega⟩
      have t0 := hpb.2.2.1
      have t1 := hpb.2.2.2.1
      go_upto_if 37 with (fail)
      clear p0 p1 p2 t0 t1 hpi
      generalize wr.alloc (.cells #[.int .i64 r.f, .int .i64 r.t, .int .i64 r.v] 80) = wb at *
      generalize wr.heap.size = rb at *
      go_cut [7] from 29 to 89 (fun v wx => PI w f t wx v (put1 f r out) ∧ PB wx v rb r)
      case first =>
        have r0 := hbx.1
        have r1 := hbx.2.1
        have r2 := hbx.2.2.1
        have s0 := hpb.2.2.1
        by_cases h1 : r.f < f
        · go_wp2_with fail
          refine (push_calls (w.heap.size + 1) u7 out _ _ _ _ hpb.2.1 hpb.2.2.2.2 (by omega)).mono ?_
          rintro e wx ⟨v', rfl, ho, hm⟩
          clear r0 r1 r2 s0
          go_wp2
          go_meet
          case rel =>
            unfold put1; rw [if_pos h1]; exact hpb.pushed hbx ho hm
        · go_wp2
          go_meet
          case rel => unfold put1; rw [if_neg (by omega)]; exact ⟨hpb, hbx⟩
      case rest =>
        obtain ⟨hpi, hbx⟩ := hcut
        have hl1 : (put1 f r out).length ≤ out.length + 1 := by unfold put1; split; exact pushR_length _ _; omega
        clear hpb
        go_step
        go_step
        go_cut [7, 8] from 29 to 89 (fun v p wx => p = .bool (put || put2b f r put) ∧ PI w f t wx v (put2 f t x r put (put1 f r out)) ∧ PB wx v rb r)
        case first =>
          have r0 := hbx.1
          have r1 := hbx.2.1
          have r2 := hbx.2.2.1
          have s0 := hpi.2.2.1
          have s1 := hpi.2.2.2.1
          cases e1 : put2b f r put
          · have : put = true ∨ (put = false ∧ ¬ f < r.t) := by
              cases put <;> simp [put2b] at e1 ⊢; omega
            rcases this with rfl | ⟨rfl, h2⟩
            all_goals
              go_wp2
              go_meet
              case rel => unfold put2; rw [e1]; exact ⟨by simp, hpi, hbx⟩
          · obtain ⟨rfl, h2⟩ : put = false ∧ f < r.t := by simpa [put2b] using e1
            go_wp2_with fail
            refine (push_calls (w.heap.size + 1) _ _ _ _ _ _ hpi.2.1 hpi.2.2.2.2 (by omega)).mono ?_
            rintro e wx ⟨v', rfl, ho, hm⟩
            clear r0 r1 r2 s0 s1
            go_wp2
            go_meet
            case rel => unfold put2; rw [e1]; exact ⟨by simp, hpi.pushed hbx ho hm⟩
        case rest =>
          obtain ⟨rfl, hpi2, hbx2⟩ := hcut
          have hl2 : (put2 f t x r put (put1 f r out)).length ≤ (put1 f r out).length + 1 := by unfold put2; split; exact pushR_length _ _; omega
          clear hpi hbx
          have r0 := hbx2.1
          have r1 := hbx2.2.1
          have r2 := hbx2.2.2.1
          have s1 := hpi2.2.2.2.1
          by_cases h3 : t < r.t
          · go_wp2_with fail
            refine (push_calls (w.heap.size + 1) _ _ _ _ _ _ hpi2.2.1 hpi2.2.2.2.2 (by omega)).mono ?_
            rintro e wx ⟨v', rfl, ho, hm⟩
            clear r0 r1 r2 s1
            have hpi3 := (hpi2.pushed hbx2 ho hm).1
            go_wp2
            go_roundw
            case rel =>
              refine ⟨k + 1, by omega, by go_num, ?_, ?_⟩
              · rw [HS.out]; rfl
              · rw [HS.out]; simp only [putStep, put3, if_pos h3]; exact hpi3
            case measure => simp [intOf]; omega
          · go_wp2
            go_roundw
            case rel =>
              refine ⟨k + 1, by omega, by go_num, ?_, ?_⟩
              · rw [HS.out]; rfl
              · rw [HS.out]; simp only [putStep, put3, if_neg (show ¬ t < r.t by omega)]; exact hpi2
            case measure => simp [intOf]; omega
    · obtain rfl : k = l.length := by omega
      rw [List.take_length] at hpi ⊢
      have hlen := putTo_length f t x l
      have hP : putR f t x l = if (putTo f t x l).2 then (putTo f t x l).1 else pushR (putTo f t x l).1 ⟨f, t, x⟩ := rfl
      have hmb1 := hpi.1.block hmb
      have hm1 := hpi.1.cell hm0
      have hf1 : wr.frozen? ⟨mb, 0, none⟩ = false := by simp [World.frozen?, hmb1]
      have s0 := hpi.2.2.1
      have s1 := hpi.2.2.2.1
      have hlt := (Array.getElem?_eq_some_iff.1 hmb).1
      generalize putTo f t x l = s at *
      obtain ⟨out, put⟩ := s
      have HP := Lib.hid hP
      clear hP hcell hmb hm0
      simp only at hlen hpi ⊢
      cases put
      · go_wp2_with fail
        refine (push_calls (w.heap.size + 1) _ _ _ _ _ _ hpi.2.1 hpi.2.2.2.2 (by omega)).mono ?_
        rintro e wx ⟨v', rfl, ho, hm⟩
        have hpi3 := hpi.pushed1 ho hm
        obtain ⟨A', c', rfl, _⟩ := own_shape ho
        have hmb2 := hm.1.block mb (by have := hpi.1.size; omega) (fun e => by have := (own_lt hpi.2.1 e.symm).1; omega)
        rw [hmb1] at hmb2
        have hf2 : wx.frozen? ⟨mb, 0, none⟩ = false := by simp [World.frozen?, hmb2]
        have hm2 : wx.cell? ⟨mb, 0, none⟩ = some (.slice A l.length c) := by rw [cell_of_row wx mb 0 _ _ _ hmb2]; rfl
        clear hm1 hf1 hm
        go_wp2
        go_ret
        refine ⟨rfl, ?_, ?_⟩
        · rw [HP.out]; exact holds_set hmb2 (by omega) ho
        · exact only_set hpi3.1 hlt
      · obtain ⟨A', c', hv, _⟩ := own_shape hpi.2.1
        subst hv
        go_wp2
        go_ret
        refine ⟨rfl, ?_, ?_⟩
        · rw [HP.out]; exact holds_set hmb1 (by omega) hpi.2.1
        · exact only_set hpi.1 hlt

set_option maxRecDepth 100000 in
theorem put_bad (mb : Nat) (f t x : Int) (w : World) (hr : (rightB f t && decide (f < t)) = false) :
    Calls Try.prog 23 #[.pointer (some ⟨mb, 0, none⟩), .agg #[.int .i64 f, .int .i64 t], .int .i64 x] w fun e w' => e = .returned (.int .i64 1) ∧ Ext w w' := by
  go_enter Try.func23, Try.ntmps23
  go_wp2_with fail
  refine (proper_calls _ _ _).mono ?_
  rintro e w1 ⟨rfl, hx⟩
  rw [hr]
  go_wp2
  go_ret
  exact ⟨rfl, ((Ext.refl w).alloc _).trans hx⟩

set_option maxRecDepth 100000 in
theorem put_none (f t x : Int) (w : World) :
    Calls Try.prog 23 #[.pointer none, .agg #[.int .i64 f, .int .i64 t], .int .i64 x] w fun e w' => e = .returned (.int .i64 6) ∧ Ext w w' := by
  go_enter Try.func23, Try.ntmps23
  go_wp2
  go_ret
  exact ⟨rfl, (Ext.refl w).alloc _⟩
end Go.Proofs.Ytjiabibnbpjhaaa
