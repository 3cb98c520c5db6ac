/- The contract of the reference's of. -/
import Derived.Test.YtgcplndmhlideaaGreatRgRefB
import Derived.Deep.CutRange
import Derived.Test.YtgcplndmhlideaaGreatFirst
import Derived.Laws.StructEq
namespace Go.Proofs.YtgcplndmhlideaaGreat.Rg
open Go.RowKit

theorem cells_succ (E : List Int) (p : Int → Bool) {k : Nat} (hk : k + 1 < E.length) : cellsL E p (k + 1) = cstep (cellsL E p k) E[k] E[k + 1] (p E[k]) := by
  show cstep _ _ _ _ = _
  rw [getD_at hk, getD_at (by omega : k < E.length)]
theorem cells_length (E : List Int) (p : Int → Bool) (k : Nat) : (cellsL E p k).length ≤ k := by
  induction k with
  | zero => exact Nat.le_refl _
  | succ k ih =>
    show (cstep _ _ _ _).length ≤ _
    generalize cellsL E p k = L at *
    cases p (E.getD k 0)
    · rw [cstep_no]; omega
    · rcases List.eq_nil_or_concat L with rfl | ⟨L, q, rfl⟩
      · rw [cstep_nil]; simp
      · rw [List.concat_eq_append] at *
        rw [cstep_snoc]
        split <;> simp at ih ⊢ <;> omega

/-- As SPost; and the list lies in a new block. -/
def SPostN (w : World) (l : List Sp) (e : Ending) (w' : World) : Prop := ∃ A c, e = .returned (.slice A l.length c) ∧ Hid (SAt w' A l) ∧ Hid (NewA w A) ∧ Ext w w'
set_option maxHeartbeats 8000000 in
set_option maxRecDepth 100000 in
theorem refofN_calls (op : Int) (hop : op = 1 ∨ op = 2 ∨ op = 3) (A : Option Addr) (c : Nat) (a : List Sp) (B : Option Addr) (d : Nat) (b : List Sp) (w : World) (ha : SAt w A a) (hb : SAt w B b) (hla : a.length ≤ 200000) (hlb : b.length ≤ 200000) :
    Calls Tryz.prog 54 #[.slice A a.length c, .slice B b.length d, .int .i64 op] w (SPostN w (ofL op a b)) := by
  have hel : (endsL (a ++ b)).length ≤ 800000 := by
    have := (ends_inv (a ++ b)).2.2
    simp at this ⊢; omega
  have HOP := Lib.hid hop
  clear hop
  go_enter Tryz.func54, Tryz.ntmps54
  go_wp2_with fail
  refine (ends_calls A c a B d b w ha hb hla hlb).mono ?_
  rintro e w1 ⟨V, cv, rfl, HE, hx1⟩
  replace ha := ha.ext hx1
  replace hb := hb.ext hx1
  have HZ : Hid (ofL op a b = cellsL (endsL (a ++ b)) (ofP op a b) ((endsL (a ++ b)).length - 1)) := Lib.hid rfl
  generalize endsL (a ++ b) = E at *
  go_wp2
  go_loopw [7, 9] (fun v i wr => ∃ k : Nat, (k = 0 ∨ k < E.length) ∧ i = .int .i64 k ∧ wr.ownsRow w1.heap.size 53 2 v (cellsL E (ofP op a b) k).length (spans (cellsL E (ofP op a b) k)) ∧ Ext w1 wr) (fun _ i _ => E.length - (intOf i).toNat)
  case atStart => exact ⟨0, .inl rfl, rfl, World.ownsRow_nil _ _ _ _, Ext.refl w1⟩
  case round =>
    obtain ⟨k, hk, rfl, hown, hx⟩ := hrel
    by_cases hlt : k + 1 < E.length
    · have hE := HE.out.ext hx
      obtain ⟨be, oe, rfl, q0⟩ := hE k (by omega)
      obtain ⟨be', oe', eA, q1⟩ := hE (k + 1) hlt
      cases eA
      have hbe : be < w1.heap.size := by
        obtain ⟨b1, o1, e1, c1⟩ := HE.out k (by omega)
        cases e1
        exact block_of_cell c1
      have hts := cells_succ E (ofP op a b) hlt
      have hlen := cells_length E (ofP op a b) k
      generalize cellsL E (ofP op a b) k = L at *
      have hpv : ofP op a b E[k] = opB op (inB a E[k]) (inB b E[k]) := rfl
      have hak : ∀ W, Ext wr W → Calls Tryz.prog 71 #[.slice A a.length c, .int .i64 E[k]] W fun e w' => e = .returned (.bool (inB a E[k])) ∧ Ext W w' := fun W hW => in_calls A c a E[k] W ((ha.ext hx).ext hW) (by omega)
      have hbk : ∀ W, Ext wr W → Calls Tryz.prog 71 #[.slice B b.length d, .int .i64 E[k]] W fun e w' => e = .returned (.bool (inB b E[k])) ∧ Ext W w' := fun W hW => in_calls B d b E[k] W ((hb.ext hx).ext hW) (by omega)
      generalize E[k] = x at *
      generalize E[k + 1] = y at *
      generalize inB a x = ia at *
      generalize inB b x = ib at *
      have HT := Lib.hid hts
      have HP := Lib.hid hpv
      have HA := Lib.hid hak
      have HB := Lib.hid hbk
      obtain ⟨LV, lc, rfl, _⟩ := own_shape hown
      have i0 : (0 : Int) ≤ (k : Int) := by omega
      have i1 : (k : Int) < (E.length : Int) := by omega
      clear hts hpv hak hbk ha hb hE hk
      go_wp2
      refine wp_region_ext_lit (by kernel_rfl) (by kernel_rfl) ?_
      intro X _ g hg hg'
      have k0 : ∀ n, (g n).cell? ⟨be, oe + k, none⟩ = some (.int .i64 x) := fun n => (hg n).cell q0
      repeat (go_big_quiet_step (first | (go_at_call 71; with_reducible exact (HA.out _ (hg _)).mono fun e w2 ⟨he, hx⟩ => ⟨he, hg' _ ((hg _).trans hx)⟩) | (go_at_call 71; with_reducible exact (HB.out _ (hg _)).mono fun e w2 ⟨he, hx⟩ => ⟨he, hg' _ ((hg _).trans hx)⟩)))
      refine wpQuiet_nil ?_
      rintro w' ⟨n, rfl⟩
      have hxg := hg n
      clear hg hg' HA HB k0
      generalize g n = wg at *
      replace q0 := hxg.cell q0
      replace q1 := hxg.cell q1
      replace hown := ownsRow_ext hown hxg
      replace hx := hx.trans hxg
      clear hxg
      go_upto_region 7 with (fail)
      go_cut [12] from 17 to 105 (fun v wx => v = .bool (ofP op a b x) ∧ wx = wg)
      case first =>
        clear HT HE hown q0 q1
        rcases HOP.out with rfl | rfl | rfl <;> cases ia <;> cases ib
        all_goals
          go_wp2
          go_meet
          case rel => exact ⟨by rw [HP.out]; rfl, rfl⟩
      case rest =>
        obtain ⟨rfl, rfl⟩ := hcut
        generalize ofP op a b x = pv at *
        have i2 : (k : Int) + 1 < (E.length : Int) := by omega
        have i3 : (0 : Int) ≤ (k : Int) + 1 := by omega
        have i4 : ((k : Int) + 1).toNat = k + 1 := by omega
        have i5 : IntKind.i64.wrap ((k : Int) + 1) = (k : Int) + 1 := IntWalk.i64_in _ (by omega)
        have I4 := Lib.hid i4
        have I5 := Lib.hid i5
        clear i4 i5 HP
        cases pv
        · have HG : Hid (cellsL E (ofP op a b) (k + 1) = L) := Lib.hid (by rw [HT.out, cstep_no])
          clear HT q0 q1
          go_wp2
          go_roundw
          case rel => exact ⟨k + 1, .inr hlt, by go_num, by rw [HG.out]; exact hown, hx⟩
          case measure => simp [intOf]; omega
        · rcases List.eq_nil_or_concat L with rfl | ⟨L, q, rfl⟩
          · replace hown : wc.ownsRow w1.heap.size 53 2 _ 0 [] := hown
            go_wp2
            refine wp_region_ext_lit (by kernel_rfl) (by kernel_rfl) ?_
            intro X _ g hg hg'
            repeat (go_big_quiet_step (fail))
            refine wpQuiet_nil ?_
            rintro w' ⟨n, rfl⟩
            have hxg := hg n
            clear hg hg'
            generalize g n = wg at *
            replace q0 := hxg.cell q0
            replace q1 := hxg.cell q1
            replace hown := ownsRow_ext hown hxg
            replace hx := hx.trans hxg
            clear hxg
            go_wp2
            have i4 := I4.out
            have i5 := I5.out
            go_region_held3 (fun w' => w'.cell? ⟨be, oe + k, none⟩ = some (.int .i64 x) ∧ w'.cell? ⟨be, oe + (k + 1), none⟩ = some (.int .i64 y))
              (first
                | go_keep
                | (go_split_ands
                   exact ⟨far_cell hownD hm1 (p := ⟨be, oe + k, none⟩) hbe (by assumption), far_cell hownD hm1 (p := ⟨be, oe + (k + 1), none⟩) hbe (by assumption)⟩))
              ((have hownD : ((wg.alloc (.cells #[.int .i64 x, .int .i64 y] 53)).drew).ownsRow w1.heap.size 53 2 _ 0 [] := (hown.alloc _).drew
                refine step_append_new _ (by rfl) _ _ _ (by rfl) w1.heap.size 53 _ 2 16 Tryz.underlying37 infoSpan rfl (by omega) _ 0 [] (by rfl) hownD wg.heap.size 1 1 #[.int .i64 x, .int .i64 y] (0, 0) (by rfl) (heap_alloc_new wg _) (by rfl) (by simp [Value.oneCell']) (by simp [maxLen] <;> omega) (by omega) (by have := hx.size; simp; omega) ?_; intro v1 w4 hown1 hm1))
            have hx4 : Ext w1 w4 := ext_moved (((hx.alloc (.cells #[.int .i64 x, .int .i64 y] 53))).drew) ((hown.alloc _).drew) hm1
            clear hm1 hown hx i4 i5
            go_wp2
            go_roundw
            case rel => exact ⟨k + 1, .inr hlt, by go_num, by rw [HT.out, cstep_nil]; exact hown1, hx4⟩
            case measure => simp [intOf]; omega
          · rw [List.concat_eq_append] at *
            have hlq : (L ++ [q]).length = L.length + 1 := by simp
            generalize hm : L.length = m at *
            generalize (L ++ [q]).length = n0 at *
            subst hlq
            obtain ⟨gb, cap, hvv, hgb1, _⟩ := hown.form (by omega)
            cases hvv
            have hq1 : wc.cell? ⟨gb, m * 2 + 1, none⟩ = some (.int .i64 q.t) := by rw [hown.cellAt _ (by omega), ← hm]; exact spans_at L q 1
            have HM := Lib.hid hm
            clear hm
            cases e2 : (q.t == x)
            all_goals
              go_wp2
              refine wp_region_ext_lit (by kernel_rfl) (by kernel_rfl) ?_
              intro X _ g hg hg'
              have k0 : ∀ n, (g n).cell? ⟨be, oe + k, none⟩ = some (.int .i64 x) := fun n => (hg n).cell q0
              have k1 : ∀ n, (g n).cell? ⟨gb, m * 2 + 1, none⟩ = some (.int .i64 q.t) := fun n => (hg n).cell hq1
              repeat (go_big_quiet_step (fail))
              refine wpQuiet_nil ?_
              rintro w' ⟨n, rfl⟩
              have hxg := hg n
              clear hg hg' k0 k1
              generalize g n = wg at *
              replace q0 := hxg.cell q0
              replace q1 := hxg.cell q1
              replace hq1 := hxg.cell hq1
              replace hown := ownsRow_ext hown hxg
              replace hx := hx.trans hxg
              clear hxg
            · have HG : Hid (cellsL E (ofP op a b) (k + 1) = (L ++ [q]) ++ [⟨x, y⟩]) := Lib.hid (by
                rw [HT.out, cstep_snoc, if_neg (by simpa using e2)])
              clear HT e2 hq1
              go_wp2
              have i4 := I4.out
              have i5 := I5.out
              go_region_held3 (fun w' => w'.cell? ⟨be, oe + k, none⟩ = some (.int .i64 x) ∧ w'.cell? ⟨be, oe + (k + 1), none⟩ = some (.int .i64 y))
                (first
                  | go_keep
                  | (go_split_ands
                     exact ⟨far_cell hownD hm1 (p := ⟨be, oe + k, none⟩) hbe (by assumption), far_cell hownD hm1 (p := ⟨be, oe + (k + 1), none⟩) hbe (by assumption)⟩))
                ((have hownD : ((wg.alloc (.cells #[.int .i64 x, .int .i64 y] 53)).drew).ownsRow w1.heap.size 53 2 (.slice (some ⟨gb, 0, none⟩) (m + 1) _) (m + 1) (spans (L ++ [q])) := (hown.alloc _).drew
                  refine step_append_new _ (by rfl) _ _ _ (by rfl) w1.heap.size 53 _ 2 16 Tryz.underlying37 infoSpan rfl (by omega) (.slice (some ⟨gb, 0, none⟩) (m + 1) _) (m + 1) (spans (L ++ [q])) (by rfl) hownD wg.heap.size 1 1 #[.int .i64 x, .int .i64 y] (0, 0) (by rfl) (heap_alloc_new wg _) (by rfl) (by simp [Value.oneCell']) (by simp [maxLen] <;> omega) (by omega) (by have := hx.size; simp; omega) ?_; intro v1 w4 hown1 hm1))
              have hx4 : Ext w1 w4 := ext_moved (((hx.alloc (.cells #[.int .i64 x, .int .i64 y] 53))).drew) ((hown.alloc _).drew) hm1
              clear hm1 hown hx i4 i5
              go_wp2
              go_roundw
              case rel => exact ⟨k + 1, .inr hlt, by go_num, by rw [HG.out, spans_append, List.length_append, List.length_append, HM.out]; exact hown1, hx4⟩
              case measure => simp [intOf]; omega
            · have HG : Hid (cellsL E (ofP op a b) (k + 1) = L ++ [⟨q.f, y⟩]) := Lib.hid (by
                rw [HT.out, cstep_snoc, if_pos (by simpa using e2)])
              have fz : wg.frozen? ⟨gb, m * 2 + 1, none⟩ = false := hown.frozenAt _
              have h3 := (hown.stored (m * 2 + 1) (.int .i64 y)).1
              have h4 := hx.setCell (p := ⟨gb, m * 2 + 1, none⟩) (by exact hgb1) (.int .i64 y)
              have H3 := Lib.hid h3
              clear HT e2 h3 hown
              have i4 := I4.out
              have i5 := I5.out
              go_wp2
              go_roundw
              case rel =>
                have h5 := H3.out
                rw [← HM.out, spans_set] at h5
                exact ⟨k + 1, .inr hlt, by go_num, by rw [HG.out, List.length_append, ← HM.out]; exact h5, h4⟩
              case measure => simp [intOf]; omega
    · have hkE : E.length - 1 = k ∨ (E = [] ∧ k = 0) := by
        rcases Nat.eq_zero_or_pos E.length with h0 | h0
        · exact .inr ⟨List.eq_nil_of_length_eq_zero h0, by omega⟩
        · exact .inl (by omega)
      have hz : cellsL E (ofP op a b) k = ofL op a b := by
        rw [HZ.out]
        rcases hkE with h | ⟨rfl, rfl⟩
        · rw [h]
        · rfl
      rw [hz] at hown
      generalize ofL op a b = R at *
      obtain ⟨LV, lc, rfl, _⟩ := own_shape hown
      have hkb : k ≤ 800000 := by omega
      clear hz hkE hk HZ
      go_wp2
      go_ret
      exact ⟨LV, lc, rfl, Lib.hid (sat_of_own hown), Lib.hid (newA_of hown hx1.size), hx1.trans hx⟩
theorem refof_calls (op : Int) (hop : op = 1 ∨ op = 2 ∨ op = 3) (A : Option Addr) (c : Nat) (a : List Sp) (B : Option Addr) (d : Nat) (b : List Sp) (w : World) (ha : SAt w A a) (hb : SAt w B b) (hla : a.length ≤ 200000) (hlb : b.length ≤ 200000) :
    Calls Tryz.prog 54 #[.slice A a.length c, .slice B b.length d, .int .i64 op] w (SPost w (ofL op a b)) :=
  (refofN_calls op hop A c a B d b w ha hb hla hlb).mono fun _ _ ⟨A', c', he, h1, _, h2⟩ => ⟨A', c', he, h1, h2⟩
end Go.Proofs.YtgcplndmhlideaaGreat.Rg

namespace Go.Proofs.YtgcplndmhlideaaGreat.Rg
open Go.RowKit

theorem refOfN_calls (A : Option Addr) (c : Nat) (l : List Sp) (w : World) (h : SAt w A l) (hl : l.length ≤ 200000) :
    Calls Tryz.prog 33 #[.slice A l.length c] w (SPostN w (ofS l)) := by
  have hof := fun W (hx : Ext w W) => refofN_calls 1 (.inl rfl) A c l none 0 [] W (h.ext hx) (SAt.nil _ _) hl (by simp)
  rw [ofL_one, List.append_nil] at hof
  have HO := Lib.hid hof
  clear hof
  generalize ofS l = R at *
  go_enter Tryz.func33, Tryz.ntmps33
  go_wp2_with fail
  refine (HO.out _ (Ext.refl w)).mono ?_
  rintro e w1 ⟨V, cv, rfl, HS, HN, hx⟩
  go_wp2
  go_ret
  exact ⟨V, cv, rfl, HS, HN, hx⟩
theorem refOf_calls (A : Option Addr) (c : Nat) (l : List Sp) (w : World) (h : SAt w A l) (hl : l.length ≤ 200000) :
    Calls Tryz.prog 33 #[.slice A l.length c] w (SPost w (ofS l)) :=
  (refOfN_calls A c l w h hl).mono fun _ _ ⟨A', c', he, h1, _, h2⟩ => ⟨A', c', he, h1, h2⟩

theorem beh_ge {l : List Sp} {x : Int} {k : Nat} (hk : k ≤ l.length) (h : ∀ i (hi : i < l.length), i < k → l[i].t ≤ x) : k ≤ beh l x := by
  unfold beh
  induction l generalizing k with
  | nil => simpa using hk
  | cons s l ih =>
    rcases k with _ | k
    · exact Nat.zero_le _
    · have h0 : s.t ≤ x := h 0 (by simp) (by omega)
      rw [List.takeWhile_cons, if_pos (by simpa using h0), List.length_cons]
      exact Nat.succ_le_succ (ih (by simpa using hk) (fun i hi hik => h (i + 1) (by simp; omega) (by omega)))
theorem beh_eq {l : List Sp} {x : Int} {k : Nat} (hk : k < l.length) (h : ∀ i (hi : i < l.length), i < k → l[i].t ≤ x) (h1 : x < l[k].t) : beh l x = k := by
  have h2 := beh_ge (Nat.le_of_lt hk) h
  rcases Nat.lt_or_ge k (beh l x) with h3 | h3
  · have := beh_lo hk h3; omega
  · omega


theorem neqSpan (a b a' b' : Int) (w : World) : (binOp .neq 53 (.agg #[.int .i64 a, .int .i64 b]) (.agg #[.int .i64 a', .int .i64 b'])).run Tryz.prog w = .ok (.bool (!(a == a' && b == b'))) w := by
  have h1 : Tryz.prog.underlying 53 = some (.struct (Tryz.prog.fieldsOf 53)) := by kernel_rfl
  have h2 : Tryz.prog.stoodInHeld 53 = false := by kernel_rfl
  rw [run_neq_struct, run_equalIn_agg _ _ _ _ _ h1 h2]
  simp [go_sem]
  by_cases x1 : a = a' <;> by_cases x2 : b = b' <;> simp [x1, x2]
theorem guardSpan : Tryz.prog.eqGuardType Tryz.prog.depth 53 = false := by kernel_rfl
theorem Sp.beq_iff (a b : Sp) : a = b ↔ a.f = b.f ∧ a.t = b.t := by
  cases a; cases b; simp

set_option maxHeartbeats 2000000 in
set_option maxRecDepth 100000 in
theorem list_calls (A B : Option Addr) (c d : Nat) (la lb : List Sp) (w : World) (ha : SAt w A la) (hb : SAt w B lb) (hl : la.length ≤ 1000000) (_hl2 : lb.length ≤ 1000000) :
    Calls Tryz.prog 11 #[.slice A la.length c, .slice B lb.length d] w fun e w' => e = .returned (.bool (decide (la = lb))) ∧ Ext w w' := by
  by_cases hlen : la.length = lb.length
  · rw [← hlen]
    have HE := Lib.hid hlen
    clear hlen _hl2
    go_enter Tryz.func11, Tryz.ntmps11
    go_wp2
    go_loopw [5] (fun i wr => ∃ k : Nat, k ≤ la.length ∧ i = .int .i64 k ∧ la.take k = lb.take k ∧ Ext w wr) (fun i _ => la.length - (intOf i).toNat)
    case atStart => exact ⟨0, Nat.zero_le _, rfl, rfl, Ext.refl _⟩
    case round =>
      obtain ⟨k, hk, rfl, htk, hx⟩ := hrel
      have HT := Lib.hid htk
      clear htk
      by_cases hlt : k < la.length
      · obtain ⟨b1, o1, rfl, p0, p1⟩ := ha.ext hx k hlt
        obtain ⟨b2, o2, rfl, q0, q1⟩ := hb.ext hx k (by have := HE.out; omega)
        have hlt2 : k < lb.length := by have := HE.out; omega
        obtain ⟨r, hr⟩ : ∃ r, la[k] = r := ⟨_, rfl⟩
        obtain ⟨s, hs⟩ : ∃ s, lb[k] = s := ⟨_, rfl⟩
        rw [hr] at p0 p1
        rw [hs] at q0 q1
        have HR := Lib.hid hr
        have HS := Lib.hid hs
        clear hr hs
        go_wp2
        refine wp_region_ext_lit (by kernel_rfl) (by kernel_rfl) ?_
        intro X _ g hg hg'
        have P0 : ∀ n, (g n).cell? ⟨b1, o1 + k * 2, none⟩ = some (.int .i64 r.f) := fun n => (hg n).cell p0
        have P1 : ∀ n, (g n).cell? ⟨b1, o1 + k * 2 + 1, none⟩ = some (.int .i64 r.t) := fun n => (hg n).cell p1
        have Q0 : ∀ n, (g n).cell? ⟨b2, o2 + k * 2, none⟩ = some (.int .i64 s.f) := fun n => (hg n).cell q0
        have Q1 : ∀ n, (g n).cell? ⟨b2, o2 + k * 2 + 1, none⟩ = some (.int .i64 s.t) := fun n => (hg n).cell q1
        have hq := neqSpan r.f r.t s.f s.t
        have hg50 := guardSpan
        cases e1 : (r.f == s.f && r.t == s.t)
        · rw [e1] at hq
          repeat (go_big_quiet_step (fail))
          refine wpQuiet_nil ?_
          rintro w' ⟨n, rfl⟩
          have hxg := hx.trans (hg n)
          clear P0 P1 Q0 Q1 hq hg hg'
          go_wp2
          go_ret
          refine ⟨?_, hxg⟩
          have hne : la ≠ lb := fun h => by
            subst h
            have h1 : r = s := HR.out.symm.trans HS.out
            subst h1
            simp at e1
          simp [hne]
        · rw [e1] at hq
          repeat (go_big_quiet_step (fail))
          refine wpQuiet_nil ?_
          rintro w' ⟨n, rfl⟩
          have hxg := hx.trans (hg n)
          clear P0 P1 Q0 Q1 hq hg hg'
          go_wp2
          go_roundw
          case rel =>
            refine ⟨k + 1, by omega, by go_num, ?_, hxg⟩
            have hrs : r = s := by
              simp at e1
              exact (Sp.beq_iff r s).2 e1
            rw [List.take_succ_eq_append_getElem hlt, List.take_succ_eq_append_getElem hlt2, HT.out, HR.out, HS.out, hrs]
          case measure => simp [intOf]; omega
      · obtain rfl : k = la.length := by omega
        have hll : la = lb := by
          have := HT.out
          rw [List.take_length, HE.out, List.take_length] at this
          exact this
        have HL := Lib.hid hll
        clear hll
        go_wp2
        go_ret
        exact ⟨by rw [decide_eq_true HL.out]; rfl, hx⟩
  · have hne : la ≠ lb := fun h => hlen (by rw [h])
    have HN := Lib.hid hne
    clear hne
    have h2 : ((la.length : Int) == (lb.length : Int)) = false := by simp; omega
    have h3 : ((la.length : Int) != (lb.length : Int)) = true := by simp; omega
    clear hlen
    go_enter Tryz.func11, Tryz.ntmps11
    go_wp2
    go_ret
    exact ⟨by rw [decide_eq_false HN.out]; rfl, Ext.refl w⟩

end Go.Proofs.YtgcplndmhlideaaGreat.Rg
