/- The contract of the reference's Runs. -/
import Derived.Test.YtjiabibnbpjhaaaEnds
import Derived.Test.YtjiabibnbpjhaaaPush
import Derived.Deep.RegionHeld3
namespace Go.Proofs.Ytjiabibnbpjhaaa
open Go.RowKit

theorem info50' : (Try.prog.info? 50).map (fun i => (i.zero, i.size, i.bytes)) = some (some (.agg #[.int .i64 0, .int .i64 0, .int .i64 0]), 3, 24) := by kernel_rfl

/-- A round of Runs. -/
def runStep (l : List Ac) (out : List Rn) (a b : Int) : List Rn := if toldB l a then pushR out ⟨a, b, toldV l a⟩ else out
def runsTo (l : List Ac) (e : List Int) : Nat → List Rn
  | 0 => []
  | k + 1 => runStep l (runsTo l e k) (e.getD k 0) (e.getD (k + 1) 0)
def runsR (l : List Ac) : List Rn := runsTo l (endsR l) ((endsR l).length - 1)
theorem pushR_len (l : List Rn) (r : Rn) : (pushR l r).length ≤ l.length + 1 := by
  rcases List.eq_nil_or_concat l with rfl | ⟨l0, q, rfl⟩
  · simp [pushR]
  · rw [List.concat_eq_append]
    cases h : joins q r
    · rw [pushR_two _ _ _ h]; simp
    · rw [pushR_one _ _ _ h]; simp
theorem runsTo_length (l : List Ac) (e : List Int) (k : Nat) : (runsTo l e k).length ≤ k := by
  induction k with
  | zero => simp [runsTo]
  | succ k ih =>
    unfold runsTo runStep
    have := pushR_len (runsTo l e k) ⟨e.getD k 0, e.getD (k + 1) 0, toldV l (e.getD k 0)⟩
    split <;> omega

theorem _root_.Go.World.ownsRow.rebase {w : World} {base base' : Nat} {e : TypeId} {size : Nat} {v : Value} {n : Nat} {xs : List Value} (h : w.ownsRow base e size v n xs) (hb : base' ≤ base) : w.ownsRow base' e size v n xs := by
  refine ⟨h.1, ?_⟩
  rcases h.2 with h2 | ⟨g, cap, cur, hv, hg, r⟩
  · exact .inl h2
  · exact .inr ⟨g, cap, cur, hv, Nat.le_trans hb hg, r⟩


set_option maxHeartbeats 4000000 in
set_option maxRecDepth 100000 in
theorem runs_calls (A : Option Addr) (c : Nat) (l : List Ac) (w : World) (ha : Acts w A l) (hl : l.length ≤ 10000) :
    Calls Try.prog 13 #[.slice A l.length c] w (ListPost w (runsR l)) := by
  go_enter Try.func13, Try.ntmps13
  go_wp2_with fail
  refine (ends_calls A c l w ha hl).mono ?_
  rintro e0 w1 ⟨Ae, ce, rfl, hce, hI, hx⟩
  have hel := endsR_length l
  have hRR : runsR l = runsTo l (endsR l) ((endsR l).length - 1) := rfl
  generalize endsR l = es at *
  have HR := Lib.hid hRR
  clear hRR
  go_wp2
  go_loopw [3, 5] (fun v i wr => ∃ k : Nat, k ≤ es.length - 1 ∧ i = .int .i64 k ∧ wr.ownsRow w1.heap.size 50 3 v (runsTo l es k).length (flat (runsTo l es k)) ∧ Ext w1 wr) (fun _ i _ => es.length - (intOf i).toNat)
  case atStart => exact ⟨0, Nat.zero_le _, rfl, World.ownsRow_nil _ _ _ _, Ext.refl _⟩
  case round =>
    obtain ⟨k, hk, rfl, hown, hxr⟩ := hrel
    by_cases hlt : k + 1 < es.length
    · obtain ⟨b, rfl, p0⟩ := hI.ext hxr k (by omega)
      obtain ⟨b', e', p1⟩ := hI.ext hxr (k + 1) hlt
      simp only [Option.some.injEq, Addr.mk.injEq, and_true] at e'
      subst e'
      have hst : runsTo l es (k + 1) = runStep l (runsTo l es k) (es.getD k 0) (es.getD (k + 1) 0) := rfl
      have g0 : es.getD k 0 = es[k] := by simp [List.getD, show k < es.length by omega]
      have g1 : es.getD (k + 1) 0 = es[k + 1] := by simp [List.getD, hlt]
      rw [g0, g1] at hst
      obtain ⟨a, ha0⟩ : ∃ a, es[k] = a := ⟨_, rfl⟩
      obtain ⟨z, hz0⟩ : ∃ z, es[k + 1] = z := ⟨_, rfl⟩
      rw [ha0] at p0 hst
      rw [hz0] at p1 hst
      have hol := runsTo_length l es k
      generalize runsTo l es k = out at *
      have HS := Lib.hid hst
      clear hst g0 g1 ha0 hz0
      go_wp2_with fail
      refine (told_calls A c l a wr (ha.ext (hx.trans hxr)) (by omega)).mono ?_
      rintro e w2 ⟨rfl, hx2⟩
      have hbB : b < w1.heap.size := by
        obtain ⟨b3, e3, p3⟩ := hI k (by omega)
        simp only [Option.some.injEq, Addr.mk.injEq, and_true] at e3
        subst e3
        exact block_of_cell p3
      replace p0 := hx2.cell p0
      replace p1 := hx2.cell p1
      replace hown := ownsRow_ext hown hx2
      replace hxr := hxr.trans hx2
      clear hx2
      cases e1 : toldB l a
      · go_wp2
        go_roundw
        case rel => exact ⟨k + 1, by omega, by go_num, by rw [HS.out]; unfold runStep; rw [e1]; exact hown, hxr⟩
        case measure => simp [intOf] <;> omega
      · rcases List.eq_nil_or_concat out with rfl | ⟨o0, q, rfl⟩
        · obtain ⟨A3, c3, rfl, _⟩ := own_shape hown
          go_wp2
          refine wp_region_ext_lit (by kernel_rfl) (by kernel_rfl) ?_
          intro X _ g hg hg'
          repeat (go_big_quiet_step (fail))
          refine wpQuiet_nil ?_
          rintro w3 ⟨n, rfl⟩
          replace p0 := (hg n).cell p0
          replace p1 := (hg n).cell p1
          replace hown := ownsRow_ext hown (hg n)
          replace hxr := hxr.trans (hg n)
          clear hg hg'
          go_wp2
          have i0 : (0 : Int) ≤ (k : Int) := by omega
          have i1 : (k : Int) < (es.length : Int) := by omega
          have i2 : (k : Int) + 1 < (es.length : Int) := by omega
          have i3 : (0 : Int) ≤ (k : Int) + 1 := by omega
          have i4 : ((k : Int) + 1).toNat = k + 1 := by omega
          have i5 : IntKind.i64.wrap ((k : Int) + 1) = (k : Int) + 1 := IntWalk.i64_in _ (by omega)
          go_region_held3 (fun w' => w'.cell? ⟨b, k, none⟩ = some (.int .i64 a) ∧ w'.cell? ⟨b, k + 1, none⟩ = some (.int .i64 z))
            (first
              | go_keep
              | (go_split_ands
                 exact ⟨far_cell hownD hm1 (p := ⟨b, k, none⟩) hbB (by assumption), far_cell hownD hm1 (p := ⟨b, k + 1, none⟩) hbB (by assumption)⟩))
            ((have hownD : (((g n).alloc (.cells #[.int .i64 a, .int .i64 z, .int .i64 (toldV l a)] 50)).drew).ownsRow w1.heap.size 50 3 (.slice A3 0 c3) 0 [] := (hown.alloc _).drew
              refine step_append_new _ (by rfl) _ _ _ (by rfl) w1.heap.size 50 _ 3 24 Try.underlying27 info50' rfl (by omega) (.slice A3 0 c3) 0 [] (by rfl) hownD (g n).heap.size 1 1 #[.int .i64 a, .int .i64 z, .int .i64 (toldV l a)] (0, 0) (by rfl) (heap_alloc_new (g n) _) (by rfl) (by simp [Value.oneCell']) (by simp [maxLen] <;> omega) (by omega) (by have := hxr.size; simp; omega) ?_; intro v1 w4 hown1 hm1))
          have hx4 : Ext w1 w4 := ext_moved (((hxr.alloc (.cells #[.int .i64 a, .int .i64 z, .int .i64 (toldV l a)] 50))).drew) ((hown.alloc _).drew) hm1
          clear hm1 hown hxr i0 i1 i2 i3 i4 i5
          go_wp2
          go_roundw
          case rel =>
            refine ⟨k + 1, by omega, by go_num, ?_, hx4⟩
            rw [HS.out]; unfold runStep; rw [e1]; exact hown1
          case measure => simp [intOf] <;> omega
        · rw [List.concat_eq_append] at *
          have hlq : (o0 ++ [q]).length = o0.length + 1 := by simp
          rw [hlq] at hown hol
          obtain ⟨gb, cap, rfl, hgb1, _⟩ := hown.form (by omega)
          clear hlq
          generalize hm : o0.length = m at *
          have hq1 : w2.cell? ⟨gb, m * 3 + 1, none⟩ = some (.int .i64 q.t) := by rw [hown.cellAt _ (by omega), ← hm]; exact flat_at o0 q 1
          have hq2 : w2.cell? ⟨gb, m * 3 + 2, none⟩ = some (.int .i64 q.v) := by rw [hown.cellAt _ (by omega), ← hm]; exact flat_at o0 q 2
          have HM := Lib.hid hm
          clear hm
          cases e2 : (q.t == a) <;> cases e3 : (q.v == toldV l a)
          all_goals
            go_wp2
            refine wp_region_ext_lit (by kernel_rfl) (by kernel_rfl) ?_
            intro X _ g hg hg'
            have q1 : ∀ n, (g n).cell? ⟨gb, m * 3 + 1, none⟩ = some (.int .i64 q.t) := fun n => (hg n).cell hq1
            have q2 : ∀ n, (g n).cell? ⟨gb, m * 3 + 2, none⟩ = some (.int .i64 q.v) := fun n => (hg n).cell hq2
            have q3 : ∀ n, (g n).cell? ⟨b, k, none⟩ = some (.int .i64 a) := fun n => (hg n).cell p0
            repeat (go_big_quiet_step (fail))
            refine wpQuiet_nil ?_
            rintro w3 ⟨n, rfl⟩
            replace p0 := (hg n).cell p0
            replace p1 := (hg n).cell p1
            replace hq1 := (hg n).cell hq1
            replace hown := ownsRow_ext hown (hg n)
            replace hxr := hxr.trans (hg n)
            have fz : (g n).frozen? ⟨gb, m * 3 + 1, none⟩ = false := hown.frozenAt _
            clear hg hg' q1 q2 q3 hq2
            go_wp2
          rotate_right
          · go_roundw
            case rel =>
              obtain rfl := HM.out
              have hj : joins q ⟨a, z, toldV l a⟩ = ((q.t == a) && (q.v == toldV l a)) := rfl
              rw [e2, e3] at hj
              have h3 := hown.stored (o0.length * 3 + 1) (.int .i64 z)
              rw [flat_set] at h3
              refine ⟨k + 1, by omega, by go_num, ?_, hxr.setCell (p := ⟨gb, o0.length * 3 + 1, none⟩) hgb1 _⟩
              rw [HS.out]; unfold runStep; rw [e1, if_pos rfl, pushR_one _ _ _ hj, List.length_append]; exact h3.1
            case measure => simp [intOf] <;> omega
          all_goals
            have i0 : (0 : Int) ≤ (k : Int) := by omega
            have i1 : (k : Int) < (es.length : Int) := by omega
            have i2 : (k : Int) + 1 < (es.length : Int) := by omega
            have i3 : (0 : Int) ≤ (k : Int) + 1 := by omega
            have i4 : ((k : Int) + 1).toNat = k + 1 := by omega
            have i5 : IntKind.i64.wrap ((k : Int) + 1) = (k : Int) + 1 := IntWalk.i64_in _ (by omega)
            go_region_held3 (fun w' => w'.cell? ⟨b, k, none⟩ = some (.int .i64 a) ∧ w'.cell? ⟨b, k + 1, none⟩ = some (.int .i64 z))
              (first
                | go_keep
                | (go_split_ands
                   exact ⟨far_cell hownD hm1 (p := ⟨b, k, none⟩) hbB (by assumption), far_cell hownD hm1 (p := ⟨b, k + 1, none⟩) hbB (by assumption)⟩))
              ((have hownD : (((g n).alloc (.cells #[.int .i64 a, .int .i64 z, .int .i64 (toldV l a)] 50)).drew).ownsRow w1.heap.size 50 3 (.slice (some ⟨gb, 0, none⟩) (m + 1) cap) (m + 1) (flat (o0 ++ [q])) := (hown.alloc _).drew
                refine step_append_new _ (by rfl) _ _ _ (by rfl) w1.heap.size 50 _ 3 24 Try.underlying27 info50' rfl (by omega) (.slice (some ⟨gb, 0, none⟩) (m + 1) cap) (m + 1) (flat (o0 ++ [q])) (by rfl) hownD (g n).heap.size 1 1 #[.int .i64 a, .int .i64 z, .int .i64 (toldV l a)] (0, 0) (by rfl) (heap_alloc_new (g n) _) (by rfl) (by simp [Value.oneCell']) (by simp [maxLen] <;> omega) (by omega) (by have := hxr.size; simp; omega) ?_; intro v1 w4 hown1 hm1))
            have hx4 : Ext w1 w4 := ext_moved (((hxr.alloc (.cells #[.int .i64 a, .int .i64 z, .int .i64 (toldV l a)] 50))).drew) ((hown.alloc _).drew) hm1
            clear hm1 hown hxr i0 i1 i2 i3 i4 i5
            go_wp2
            go_roundw
            case rel =>
              refine ⟨k + 1, by omega, by go_num, ?_, hx4⟩
              obtain rfl := HM.out
              have hj : joins q ⟨a, z, toldV l a⟩ = ((q.t == a) && (q.v == toldV l a)) := rfl
              rw [e2, e3] at hj
              rw [HS.out]; unfold runStep; rw [e1, if_pos rfl, pushR_two _ _ _ hj, List.length_append, List.length_append, flat_append, flat_one]; exact hown1
            case measure => simp [intOf] <;> omega
    · obtain rfl : k = es.length - 1 := by omega
      have hn : ¬ ((es.length - 1 : Nat) : Int) + 1 < es.length := by omega
      go_wp2
      go_ret
      refine ⟨_, rfl, ?_, hx.trans hxr⟩
      rw [HR.out]; exact hown.rebase hx.size
end Go.Proofs.Ytjiabibnbpjhaaa
