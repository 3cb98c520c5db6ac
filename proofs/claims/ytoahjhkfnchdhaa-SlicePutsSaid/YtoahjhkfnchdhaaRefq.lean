/- The contract of the reference's Parts. -/
import Derived.Test.YtoahjhkfnchdhaaRefp
import Derived.Deep.CutRange
namespace Go.Proofs.Ytoahjhkfnchdhaa
open Go.RowKit

theorem own_lower {w : World} {base b2 : Nat} {e : TypeId} {size n : Nat} {v : Value} {xs : List Value} (h : w.ownsRow (base + b2) e size v n xs) : w.ownsRow base e size v n xs :=
  ⟨h.1, h.2.imp_right fun ⟨g, cap, cur, a, b, c⟩ => ⟨g, cap, cur, a, by omega, c⟩⟩
theorem own_not {w : World} {base b : Nat} {e : TypeId} {size n : Nat} {v : Value} {xs : List Value} (h : w.ownsRow base e size v n xs) (hb : b < base) : v.ownBlock ≠ some b := fun e1 => by
  have := (h.lt b e1).1
  omega
theorem grownBy_setCell'' (W : World) (b i : Nat) (v : Value) : W.grownBy (W.setCell ⟨b, i, none⟩ v) (some b) :=
  ⟨rfl, rfl, rfl, by simp [World.setCell], fun k _ hk => Below.heap_setCell _ _ _ k (fun e => hk (by rw [e]))⟩
/-- A block of other elements lies as it lay. -/
theorem far_block {w w' : World} {base : Nat} {e t : TypeId} {size n b : Nat} {v v' : Value} {xs : List Value} {cs : Array Value} {fr : Nat × Nat} (ho : w.ownsRow base e size v n xs) (hb : w.heap[b]? = some (.cells cs t fr)) (hte : t ≠ e) (hm : Moved w w' v v') : w'.heap[b]? = some (.cells cs t fr) :=
  (hm.1.block b (Array.getElem?_eq_some_iff.1 hb).1 (fun e1 => by
    rcases ho.2 with ⟨rfl, _⟩ | ⟨g, cap, cur, rfl, _, hgb, _⟩
    · simp [Value.ownBlock] at e1
    · obtain rfl : b = g := by simpa [Value.ownBlock] using e1
      rw [hb] at hgb
      cases hgb
      exact hte rfl)).trans hb
set_option maxRecDepth 100000 in
set_option maxHeartbeats 2000000 in
theorem refparts_calls (f t u m : Int) (m0 : 0 ≤ m) (hm : m ≤ 40) (w : World) :
    Calls Try.prog 19 #[.agg #[.int .i64 f, .int .i64 t], .int .i64 u, .int .i64 m] w (PtPost w (firstPts f t u m)) := by
  have hR := fun W => refright_calls f t W
  have hU := fun W' => unitOk_calls u W'
  obtain ⟨R, hRR⟩ : ∃ R, rightB f t = R := ⟨_, rfl⟩
  obtain ⟨U, hUU⟩ : ∃ U, unitB u = U := ⟨_, rfl⟩
  have hP : (R && U) = false → firstPts f t u m = [] := fun h => by unfold firstPts partsL; rw [hRR, hUU, h]; simp
  have hPt : (R && U) = true → firstPts f t u m = (pl u t f).take m.toNat := fun h => by unfold firstPts partsL; rw [hRR, hUU, h]; rfl
  have hRt : R = true → 0 ≤ f ∧ f ≤ t ∧ t ≤ 4611686018427387904 := fun h => by
    rw [h] at hRR; unfold rightB at hRR; simp at hRR; omega
  have hUt : U = true → 1 ≤ u ∧ u ≤ 1048576 := fun h => by rw [h] at hUU; exact unit_bound hUU
  have hRw : R = true → ∀ k, f ≤ k → k ≤ t → rightB k t = true := fun h k h1 h2 => by
    have := hRt h
    unfold rightB; simp; omega
  rw [hRR] at hR
  rw [hUU] at hU
  generalize firstPts f t u m = zs at *
  have HP := Lib.hid hP
  have HPt := Lib.hid hPt
  have HRt := Lib.hid hRt
  have HRw := Lib.hid hRw
  have HUt := Lib.hid hUt
  have HR := Lib.hid hR
  have HU := Lib.hid hU
  clear hP hPt hRt hUt hR hU hRR hUU hRw
  have hrow0 := World.ownsRow_lit (base := w.heap.size) (size := 3) (e := 31) (w.alloc (.cells #[.int .i64 f, .int .i64 t] 24)) #[] 0 (by rw [World.size_alloc]; omega) (by simp [maxLen]) rfl
  rw [World.size_alloc] at hrow0
  have HO := Lib.hid hrow0
  clear hrow0
  cases R
  · have e : zs = [] := HP.out rfl
    subst e
    go_enter Try.func19, Try.ntmps19
    go_wp2_with fail
    refine (HR.out _).mono ?_
    rintro e w1 ⟨rfl, hx⟩
    go_wp2
    go_ret
    exact ⟨_, rfl, ownsRow_ext HO.out hx, (((Ext.refl w).alloc _).alloc _).trans hx⟩
  · obtain ⟨f0, ft, t1⟩ := HRt.out rfl
    cases U
    · have e : zs = [] := HP.out rfl
      subst e
      go_enter Try.func19, Try.ntmps19
      go_wp2_with (first
        | (go_at_call 40; refine (HR.out _).mono ?_; rintro e w1 ⟨rfl, hx⟩)
        | (go_at_call 34; refine (HU.out _).mono ?_; rintro e w2 ⟨rfl, rfl⟩))
      go_ret
      exact ⟨_, rfl, ownsRow_ext HO.out hx, (((Ext.refl w).alloc _).alloc _).trans hx⟩
    · have e : zs = (pl u t f).take m.toNat := HPt.out rfl
      obtain ⟨u1, u2⟩ := HUt.out rfl
      have HZ := Lib.hid e
      clear e
      obtain ⟨M, rfl⟩ : ∃ M : Nat, m = M := ⟨m.toNat, by omega⟩
      have hu0 : (u == 0) = false := by simp; omega
      have b0 := (Ext.refl _).alloc (.cells #[] 31) |>.block (heap_alloc_new w (.cells #[.int .i64 f, .int .i64 t] 24))
      go_enter Try.func19, Try.ntmps19
      go_wp2_with (first
        | (go_at_call 40; refine (HR.out _).mono ?_; rintro e w1 ⟨rfl, hx⟩; replace b0 := hx.block b0)
        | (go_at_call 34; refine (HU.out _).mono ?_; rintro e w2 ⟨rfl, rfl⟩))
      have hown := ownsRow_ext (World.ownsRow_lit (base := w.heap.size + 1) (size := 3) (e := 31) (w.alloc (.cells #[.int .i64 f, .int .i64 t] 24)) #[] 0 (by rw [World.size_alloc]; omega) (by simp [maxLen]) rfl) hx
      have hxw : Ext w w1 := (((Ext.refl w).alloc _).alloc _).trans hx
      rw [World.size_alloc] at hown
      clear hx
      go_loopw [7] (fun v wr => ∃ k pre A c, v = .slice A pre.length c ∧ f ≤ k ∧ k ≤ t ∧ zs = pre ++ (pl u t k).take (M - pre.length) ∧ pre.length ≤ M ∧ wr.ownsRow (w.heap.size + 1) 31 3 v pre.length (flatPt pre) ∧ wr.heap[w.heap.size]? = some (.cells #[.int .i64 k, .int .i64 t] 24 (0, 0)) ∧ Ext w wr)
        (fun v _ => M - (lenV v))
      case atStart => exact ⟨f, [], _, _, rfl, Int.le_refl _, ft, by rw [HZ.out]; rfl, by simp, hown, b0, hxw⟩
      case round =>
        clear b0 hown hxw
        obtain ⟨k, pre, A, c, rfl, k1, k2, hz, hl, hown, b0, hxw⟩ := hrel
        have c0 : wr.cell? ⟨w.heap.size, 0, none⟩ = some (.int .i64 k) := by rw [cell_of_row _ _ _ _ _ _ b0]; rfl
        have c1 : wr.cell? ⟨w.heap.size, 1, none⟩ = some (.int .i64 t) := by rw [cell_of_row _ _ _ _ _ _ b0]; rfl
        have fz : ∀ j, wr.frozen? ⟨w.heap.size, j, none⟩ = false := fun j => by simp [World.frozen?, b0]
        by_cases hlm : pre.length < M
        · by_cases hlt : k < t
          · have hp := pl_step u1 hlt
            have hn := nextA_gt u1 hlt
            have hn2 := nextA_le u t k
            have hq : k.tdiv u = k / u := Int.tdiv_eq_ediv_of_nonneg (by omega)
            have hb1 : k / u ≤ k := Int.ediv_le_self _ (by omega)
            have hb0 : 0 ≤ k / u := Int.ediv_nonneg (by omega) (by omega)
            have hm1 : (k / u + 1) * u ≤ k + u := by
              have := Int.ediv_mul_le k (show u ≠ 0 by omega)
              rw [Int.add_mul, Int.one_mul]; omega
            have hm2 : k < (k / u + 1) * u := Int.lt_ediv_add_one_mul_self k (by omega)
            have hz2 : zs = (pre ++ [⟨k / u, ⟨k, nextA u t k⟩⟩]) ++ (pl u t (nextA u t k)).take (M - (pre.length + 1)) := by
              rw [hz, hp, show M - pre.length = (M - (pre.length + 1)) + 1 by omega]; simp
            have hmin : min ((k / u + 1) * u) t = nextA u t k := rfl
            have hrk := HRw.out (by first | trivial | rfl) k k1 k2
            have HZ2 := Lib.hid hz2
            have HK := Lib.hid (And.intro hn hn2)
            clear hz2 hz hp hn hn2
            generalize nextA u t k = e2 at *
            generalize hqq : k / u = q at *
            clear hqq
            obtain ⟨r, hr⟩ : ∃ r, (q + 1) * u = r := ⟨_, rfl⟩
            have hwr : IntKind.i64.wrap ((q + 1) * u) = r := (IntWalk.i64_in _ (by omega)).trans hr
            rw [hr] at hmin hm1 hm2
            clear hr
            have hcut := fun W => cut_calls k t r hrk (Int.le_of_lt hm2) W
            rw [hmin] at hcut
            have HC := Lib.hid hcut
            have HB0 := Lib.hid b0
            clear hcut hmin hrk b0
            go_wp2_with fail
            refine (HC.out _).mono ?_
            rintro e w2 ⟨rfl, hx2⟩
            replace b0 := hx2.block HB0.out
            replace c0 := hx2.cell c0
            replace c1 := hx2.cell c1
            replace fz : ∀ j, w2.frozen? ⟨w.heap.size, j, none⟩ = false := fun j => by simp [World.frozen?, b0]
            replace hown := ownsRow_ext hown hx2
            replace hxw := hxw.trans hx2
            clear hx2 HB0
            go_upto_region 7 with (fail)
            have b0' : ((w2.alloc (.cells #[.int .i64 k, .int .i64 e2] 24)).alloc (.cells #[.int .i64 e2, .int .i64 t] 24)).heap[w.heap.size]? = _ := ((Ext.refl w2).alloc _).alloc _ |>.block b0
            have b9 := ((Ext.refl _).alloc (.cells #[.int .i64 e2, .int .i64 t] 24)).block (heap_alloc_new w2 (.cells #[.int .i64 k, .int .i64 e2] 24))
            have b10 := heap_alloc_new (w2.alloc (.cells #[.int .i64 k, .int .i64 e2] 24)) (.cells #[.int .i64 e2, .int .i64 t] 24)
            have hxa : Ext w2 ((w2.alloc (.cells #[.int .i64 k, .int .i64 e2] 24)).alloc (.cells #[.int .i64 e2, .int .i64 t] 24)) := ((Ext.refl w2).alloc _).alloc _
            simp only [World.size_alloc] at b10
            replace hown := (hown.alloc (.cells #[.int .i64 k, .int .i64 e2] 24)).alloc (.cells #[.int .i64 e2, .int .i64 t] 24)
            replace hxw := hxw.trans hxa
            have hsz := (Array.getElem?_eq_some_iff.1 b0).1
            clear b0 c0 c1 fz hxa
            generalize ((w2.alloc (.cells #[.int .i64 k, .int .i64 e2] 24)).alloc (.cells #[.int .i64 e2, .int .i64 t] 24)) = w3 at *
            generalize w2.heap.size = n9 at *
            have g0 : w3.cell? ⟨n9, 0, none⟩ = some (.int .i64 k) := by rw [cell_of_row _ _ _ _ _ _ b9]; rfl
            have g1 : w3.cell? ⟨n9, 1, none⟩ = some (.int .i64 e2) := by rw [cell_of_row _ _ _ _ _ _ b9]; rfl
            have hn3 := hxw.size
            have hlt3 := (Array.getElem?_eq_some_iff.1 b0').1
            have HB := Lib.hid (And.intro b0' b10)
            clear b0' b10 b9
            have i0 := infoPt
            go_wp2_with (at_builtin; refine wpList_append_new _ rfl _ _ 28 rfl (w.heap.size + 1) 31 _ 3 24 Try.underlying28 infoPt rfl (by omega) (.slice A pre.length c) _ _ rfl hown 1 1 _ (by simp) _ rfl rfl (by simp [Value.oneCell']) (by simp [maxLen]; omega) (by omega) (by omega) ?_; intro v1 w4 hown4 hm4; have h0 := far_block hown HB.out.1 (by decide) hm4; have h10 := far_block hown HB.out.2 (by decide) hm4; have z0 : w4.cell? ⟨n9 + 1, 0, none⟩ = some (.int .i64 e2) := (by rw [cell_of_row _ _ _ _ _ _ h10]; rfl); have z1 : w4.cell? ⟨n9 + 1, 1, none⟩ = some (.int .i64 t) := (by rw [cell_of_row _ _ _ _ _ _ h10]; rfl); have y0 : w4.cell? ⟨w.heap.size, 0, none⟩ = some (.int .i64 k) := (by rw [cell_of_row _ _ _ _ _ _ h0]; rfl); have y1 : w4.cell? ⟨w.heap.size, 1, none⟩ = some (.int .i64 t) := (by rw [cell_of_row _ _ _ _ _ _ h0]; rfl); have fz : ∀ j, w4.frozen? ⟨w.heap.size, j, none⟩ = false := (fun j => by simp [World.frozen?, h0]); have H0 := Lib.hid h0; clear h0 h10 HB)
            go_roundw
            case rel =>
              obtain ⟨A4, c4, rfl, _⟩ := own_shape hown4
              have e4 : flatPt (pre ++ [⟨q, ⟨k, e2⟩⟩]) = flatPt pre ++ [.int .i64 q, .int .i64 k, .int .i64 e2] := by rw [flatPt_append, flatPt_one]
              have hx4 := ext_moved (w0 := w) hxw (own_lower hown) hm4
              refine ⟨e2, pre ++ [⟨q, ⟨k, e2⟩⟩], A4, c4, by simp, by have := HK.out; omega, HK.out.2, by rw [List.length_append]; exact HZ2.out, by simp; omega, ?_, ?_, (hx4.setCell (Nat.le_refl _) _).setCell (Nat.le_refl _) _⟩
              · rw [e4, List.length_append]
                exact (hown4.kept (grownBy_setCell'' _ _ _ _) (.inr (own_not hown4 (by omega)))).kept (grownBy_setCell'' _ _ _ _) (.inr (own_not hown4 (by omega)))
              · rw [heap_setCell_same _ _ _ _ _ _ ((heap_setCell_same _ _ _ _ _ _ H0.out))]; rfl
            case measure => obtain ⟨A4, c4, rfl, _⟩ := own_shape hown4; simp [lenV]; omega
          · obtain rfl : k = t := by omega
            rw [pl_end hlt] at hz
            simp only [List.take_nil, List.append_nil] at hz
            subst hz
            go_wp2
            go_ret
            exact ⟨_, rfl, own_lower hown, hxw⟩
        · obtain rfl : M = pre.length := by omega
          rw [Nat.sub_self, List.take_zero, List.append_nil] at hz
          subst hz
          go_wp2
          go_ret
          exact ⟨_, rfl, own_lower hown, hxw⟩
end Go.Proofs.Ytoahjhkfnchdhaa
