/- ImapLast: what a map tells of a byte is what was last said of it, and its runs stand apart. The walk. -/
import Derived.Test.YtjiabibnbpjhaaaLawGets
namespace Go.Proofs.Ytjiabibnbpjhaaa
open Go.RowKit

theorem tell_find (l : List Rn) (x : Int) : tell l x = (findL l x).map (·.v) := by
  induction l with
  | nil => rfl
  | cons r l ih =>
    unfold findL at ih ⊢
    rw [List.find?_cons]
    by_cases h1 : r.f ≤ x <;> by_cases h2 : x < r.t <;> simp [tell, inB, h1, h2, ih]

theorem Row3.setCell {w : World} {A : Option Addr} {l : List Rn} {g : Nat} (h : Row3 w A l) (hg : ∀ b, A = some ⟨b, 0, none⟩ → b ≠ g) (i : Nat) (v : Value) : Row3 (w.setCell ⟨g, i, none⟩ v) A l := fun k hk => by
  obtain ⟨b, hA, p0, p1, p2⟩ := h k hk
  have hn : g ≠ b := fun e => hg b hA e.symm
  refine ⟨b, hA, ?_, ?_, ?_⟩
  all_goals
    rw [World.cell?_setCell_far _ _ _ _ (by exact hn)]
    assumption

set_option maxHeartbeats 4000000 in
set_option maxRecDepth 100000 in
theorem lawLast_calls (A : Option Addr) (c : Nat) (l : List Ac) (x : Int) (w : World) (ha : Acts w A l) :
    Calls Try.prog 8 #[.slice A l.length c, .int .i64 x] w fun e w' => e = .returned (.bool true) ∧ Ext w w' := by
  go_enter Try.func8, Try.ntmps8
  go_wp2_with fail
  refine (alive_calls _).mono ?_
  rintro e w1 ⟨rfl, hx⟩
  replace ha := ha.ext hx
  by_cases hl : 40 < l.length
  · go_wp2
    go_ret
    exact ⟨rfl, hx⟩
  go_wp2_with fail
  refine (made_calls A c l _ ha (by omega)).mono ?_
  rintro e w2 ⟨mb, rfl, hm, _, hx2⟩
  replace ha := ha.ext hx2
  replace hx := hx.trans hx2
  have hlen := appR_length l
  obtain ⟨hwf, htell⟩ := appR_spec l
  have ht := htell x
  obtain ⟨rs, hrs⟩ : ∃ rs, appR l = rs := ⟨_, rfl⟩
  rw [hrs] at hm hlen hwf ht
  rw [tell_find] at ht
  unfold toldO at ht
  clear hx2 hrs htell
  have HT := hide ht
  clear ht
  go_wp2_with fail
  refine (get_calls mb rs x _ hm (by omega)).mono ?_
  rintro e w3 ⟨rfl, hx3⟩
  rw [gotV_eq, gotF_eq, gotT_eq, find_eq hwf (Int.le_refl _)]
  replace ha := ha.ext hx3
  replace hm := hm.ext hx3
  replace hx := hx.trans hx3
  clear hx3
  have hxa : Ext w3 (w3.alloc (.cells #[.int .i64 (rnOf (findL rs x)).f, .int .i64 (rnOf (findL rs x)).t] 34)) := (Ext.refl _).alloc _
  have HA := hide (ha.ext hxa)
  go_wp2_with fail
  refine (told_calls A c l x _ (unhide HA) (by omega)).mono ?_
  rintro e w4 ⟨rfl, hx4⟩
  have c0 : w4.cell? ⟨w3.heap.size, 0, none⟩ = some (.int .i64 (rnOf (findL rs x)).f) := hx4.cell (by simp)
  have c1 : w4.cell? ⟨w3.heap.size, 1, none⟩ = some (.int .i64 (rnOf (findL rs x)).t) := hx4.cell (by simp)
  replace hx := (hx.trans hxa).trans hx4
  replace hm := (hm.ext hxa).ext hx4
  clear HA ha hxa hx4
  have hend : ∃ q r, (findL rs x).isSome = q ∧ toldB l x = q ∧ rnOf (findL rs x) = r ∧ (q = true → toldV l x = r.v ∧ r.f ≤ x ∧ x < r.t) := by
    have h := unhide HT
    cases hf : findL rs x with
    | none =>
      rw [hf] at h
      refine ⟨false, _, rfl, ?_, rfl, by simp⟩
      cases hb : toldB l x
      · rfl
      · rw [hb] at h; simp at h
    | some r =>
      rw [hf] at h
      have hin : inB r x = true := by unfold findL at hf; exact List.find?_some (p := fun r => inB r x) hf
      simp only [inB, Bool.and_eq_true, decide_eq_true_eq] at hin
      cases hb : toldB l x
      · rw [hb] at h; simp at h
      · rw [hb] at h
        simp only [if_true, Option.map_some, Option.some.injEq] at h
        exact ⟨true, r, rfl, rfl, rfl, fun _ => ⟨h.symm, hin⟩⟩
  obtain ⟨q, r, e1, e2, e3, hq⟩ := hend
  rw [e3] at c0 c1
  rw [e1, e2, e3]
  generalize toldV l x = tv at *
  clear e1 e2 e3 HT
  go_upto_region 8 with (fail)
  go_cut [65] from 39 to 65 (fun v wx => v = .bool false ∧ w4 = wx)
  case first =>
    cases q
    · go_wp2
      go_meet
      case rel => exact ⟨rfl, rfl⟩
    · obtain ⟨rfl, h1, h2⟩ := hq rfl
      have g1 : decide (x < r.f) = false := by simp; omega
      have g2 : decide (r.t ≤ x) = false := by simp; omega
      go_wp2
      go_meet
      case rel => exact ⟨rfl, rfl⟩
  case rest =>
    obtain ⟨rfl, rfl⟩ := hcut
    clear c0 c1 hq
    have hxb : Ext w4 (w4.alloc (.cells #[.int .i64 (-1), .int .i64 (-1)] 34)) := (Ext.refl _).alloc _
    have hbb : (w4.alloc (.cells #[.int .i64 (-1), .int .i64 (-1)] 34)).heap[w4.heap.size]? = some (.cells #[.int .i64 (-1), .int .i64 (-1)] 34 (0, 0)) := heap_alloc_new w4 _
    have HB := hide hbb
    have HM := hide (hm.ext hxb)
    clear hm hbb
    go_wp2_with fail
    refine (all_calls mb rs _ (unhide HM) (by omega)).mono ?_
    rintro e w5 ⟨v, rfl, hown, hx5⟩
    rw [meets_all hwf (Int.le_refl _)] at hown
    obtain ⟨A3, c3, rfl, _⟩ := own_shape hown
    have hne : ∀ b, A3 = some ⟨b, 0, none⟩ → b ≠ w4.heap.size := by
      rintro b rfl
      have h := (own_lt hown (g := b) rfl).1
      simp at h
      omega
    have hrow := row3_own hown
    have hblk := hx5.block (unhide HB)
    have hwf0 : WF (-1) (some 0) rs := by
      cases rs with
      | nil => exact trivial
      | cons r0 rs0 =>
        obtain ⟨a1, a2, a3⟩ := hwf
        exact ⟨by omega, fun h => by omega, a3⟩
    have HSZ := Lib.hid hx.size
    replace hx := (hx.trans hxb).trans hx5
    have hge : w.heap.size ≤ w4.heap.size := HSZ.out
    generalize w4.heap.size = g at *
    have HGE := Lib.hid hge
    clear hge
    clear HM HB hx5 hown hxb hwf
    have HN := hide hne
    clear hne
    go_wp2
    go_loopw [13, 70] (fun v i wr => ∃ (k : Nat) (lf lt lv : Int), k ≤ rs.length ∧ i = .int .i64 k ∧ v = .int .i64 lv ∧ WF lt (some lv) (rs.drop k) ∧ wr.heap[g]? = some (.cells #[.int .i64 lf, .int .i64 lt] 34 (0, 0)) ∧ Row3 wr A3 rs ∧ Ext w wr) (fun _ i _ => rs.length - (intOf i).toNat)
    case atStart => exact ⟨0, -1, -1, 0, Nat.zero_le _, rfl, rfl, hwf0, hblk, hrow, hx⟩
    case round =>
      clear hblk hrow hx hwf0
      obtain ⟨k, lf, lt, lv, hk, rfl, rfl, hwk, hblk, hrow, hx⟩ := hrel
      have c1 : wr.cell? ⟨g, 1, none⟩ = some (.int .i64 lt) := by rw [cell_of_row _ _ 1 _ _ _ hblk]; rfl
      have c0 : wr.cell? ⟨g, 0, none⟩ = some (.int .i64 lf) := by rw [cell_of_row _ _ 0 _ _ _ hblk]; rfl
      have bf : ∀ i, wr.frozen? ⟨g, i, none⟩ = false := fun i => by simp [World.frozen?, hblk]
      have hg : g < wr.heap.size := (Array.getElem?_eq_some_iff.1 hblk).1
      by_cases hlt : k < rs.length
      · obtain ⟨b, rfl, p0, p1, p2⟩ := hrow k hlt
        obtain ⟨r, hr⟩ : ∃ r, rs[k] = r := ⟨_, rfl⟩
        rw [List.drop_eq_getElem_cons hlt, hr] at hwk
        rw [hr] at p0 p1 p2
        obtain ⟨h1, h2, h3, _, h5⟩ := hwk
        have d1 : decide (r.t ≤ r.f) = false := by simp; omega
        have d2 : decide (r.f < lt) = false := by simp; omega
        have hxa : Ext wr (wr.alloc (.cells #[.int .i64 r.f, .int .i64 r.t, .int .i64 r.v] 50)) := (Ext.refl wr).alloc _
        have hfin : (((wr.alloc (.cells #[.int .i64 r.f, .int .i64 r.t, .int .i64 r.v] 50)).setCell ⟨g, 0, none⟩ (.int .i64 r.f)).setCell ⟨g, 1, none⟩ (.int .i64 r.t)).heap[g]? = some (.cells #[.int .i64 r.f, .int .i64 r.t] 34 (0, 0)) := by
          have e1 := heap_setCell_same _ g 0 _ 34 (.int .i64 r.f) (hxa.block hblk)
          have e2 := heap_setCell_same _ g 1 _ 34 (.int .i64 r.t) e1
          simpa using e2
        have hx3 : Ext w (((wr.alloc (.cells #[.int .i64 r.f, .int .i64 r.t, .int .i64 r.v] 50)).setCell ⟨g, 0, none⟩ (.int .i64 r.f)).setCell ⟨g, 1, none⟩ (.int .i64 r.t)) :=
          ((hx.trans hxa).setCell (p := ⟨g, 0, none⟩) HGE.out _).setCell (p := ⟨g, 1, none⟩) HGE.out _
        have hrow3 : Row3 (((wr.alloc (.cells #[.int .i64 r.f, .int .i64 r.t, .int .i64 r.v] 50)).setCell ⟨g, 0, none⟩ (.int .i64 r.f)).setCell ⟨g, 1, none⟩ (.int .i64 r.t)) (some ⟨b, 0, none⟩) rs :=
          ((hrow.ext hxa).setCell (unhide HN) 0 _).setCell (unhide HN) 1 _
        have HFIN := hide (And.intro hfin (And.intro hrow3 hx3))
        have HX := hide hxa
        have hn : wr.heap.size ≠ g := by omega
        have hn' : g ≠ wr.heap.size := by omega
        have hn2 : ¬ (g = wr.heap.size) := by omega
        have hgs : g < wr.heap.size + 1 := by omega
        clear hfin hrow3 hx3 hxa hblk hr hrow hx
        have q0 : (wr.alloc (.cells #[.int .i64 r.f, .int .i64 r.t, .int .i64 r.v] 50)).cell? ⟨wr.heap.size, 0, none⟩ = some (.int .i64 r.f) := by simp
        have q1 : (wr.alloc (.cells #[.int .i64 r.f, .int .i64 r.t, .int .i64 r.v] 50)).cell? ⟨wr.heap.size, 1, none⟩ = some (.int .i64 r.t) := by simp
        have q2 : (wr.alloc (.cells #[.int .i64 r.f, .int .i64 r.t, .int .i64 r.v] 50)).cell? ⟨wr.heap.size, 2, none⟩ = some (.int .i64 r.v) := by simp
        have s0 : (wr.alloc (.cells #[.int .i64 r.f, .int .i64 r.t, .int .i64 r.v] 50)).cell? ⟨g, 0, none⟩ = some (.int .i64 lf) := (unhide HX).cell c0
        have s1 : (wr.alloc (.cells #[.int .i64 r.f, .int .i64 r.t, .int .i64 r.v] 50)).cell? ⟨g, 1, none⟩ = some (.int .i64 lt) := (unhide HX).cell c1
        have f0 : (wr.alloc (.cells #[.int .i64 r.f, .int .i64 r.t, .int .i64 r.v] 50)).frozen? ⟨g, 0, none⟩ = false := ((unhide HX).frozen (p := ⟨g, 0, none⟩) hg).trans (bf 0)
        have f1 : (wr.alloc (.cells #[.int .i64 r.f, .int .i64 r.t, .int .i64 r.v] 50)).frozen? ⟨g, 1, none⟩ = false := ((unhide HX).frozen (p := ⟨g, 1, none⟩) hg).trans (bf 1)
        cases e1 : (r.f == lt) <;> cases e2 : (r.v == lv)
        rotate_left 3
        · exfalso
          simp only [beq_iff_eq] at e1 e2
          exact h2 e1 (by rw [e2])
        all_goals
          clear h2
          go_wp2_with fail
          clear p0 p1 p2 c0 c1 bf HX hgs hg
          generalize (wr.alloc (.cells #[.int .i64 r.f, .int .i64 r.t, .int .i64 r.v] 50)) = wb at *
          generalize wr.heap.size = rb at *
          go_region_held3 (fun w' => w'.cell? ⟨rb, 0, none⟩ = some (.int .i64 r.f) ∧ w'.cell? ⟨rb, 1, none⟩ = some (.int .i64 r.t) ∧ w'.cell? ⟨rb, 2, none⟩ = some (.int .i64 r.v)) (go_keep) (fail)
          go_wp2
          go_roundw
          case rel =>
            obtain ⟨m1, m2, m3⟩ := unhide HFIN
            first | exact ⟨k + 1, r.f, r.t, r.v, by omega, by go_num, rfl, h5, m1, m2, m3⟩ | exact ⟨k + 1, r.f, r.t, r.v, by omega, by go_num, rfl, h5, (Ext.refl _).drew.block m1, m2.ext (Ext.refl _).drew, m3.drew⟩
          case measure => simp [intOf] <;> omega
      · obtain rfl : k = rs.length := by omega
        go_wp2
        go_ret
        exact ⟨rfl, hx⟩
end Go.Proofs.Ytjiabibnbpjhaaa
