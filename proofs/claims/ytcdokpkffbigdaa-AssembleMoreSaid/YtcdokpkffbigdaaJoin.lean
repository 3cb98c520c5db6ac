/- The reference's Joined. -/
import Derived.Test.YtcdokpkffbigdaaRsame
namespace Go.Proofs.Ytcdokpkffbigdaa
open Go.RowKit

def joinStep (out : List Pt) (p : Pt) : List Pt :=
  match out.getLast? with
  | none => [p.nz]
  | some q => if !(p.s == []) && !(q.s == []) then out.dropLast ++ [⟨q.s ++ p.s, q.f, q.t⟩]
    else if p.s == [] && q.s == [] && q.t == p.f then out.dropLast ++ [⟨[], q.f, p.t⟩]
    else out ++ [p.nz]
def joinL (l : List Pt) : List Pt := l.foldl joinStep []
theorem joinL_snoc (l : List Pt) (p : Pt) : joinL (l ++ [p]) = joinStep (joinL l) p := by simp [joinL]
theorem joinStep_nil (p : Pt) : joinStep [] p = [p.nz] := rfl
theorem joinStep_snoc (L : List Pt) (q p : Pt) : joinStep (L ++ [q]) p = if !(p.s == []) && !(q.s == []) then L ++ [⟨q.s ++ p.s, q.f, q.t⟩] else if p.s == [] && q.s == [] && q.t == p.f then L ++ [⟨[], q.f, p.t⟩] else (L ++ [q]) ++ [p.nz] := by
  simp [joinStep]
theorem joinStep_length (L : List Pt) (p : Pt) : (joinStep L p).length ≤ L.length + 1 := by
  rcases List.eq_nil_or_concat L with rfl | ⟨L, q, rfl⟩
  · simp [joinStep_nil]
  · rw [List.concat_eq_append, joinStep_snoc]
    split
    · simp
    · split <;> simp
theorem joinL_length (l : List Pt) : (joinL l).length ≤ l.length := by
  suffices ∀ n, ∀ l : List Pt, l.length = n → (joinL l).length ≤ n from this _ l rfl
  intro n
  induction n with
  | zero => intro l hl; rw [List.eq_nil_of_length_eq_zero hl]; simp [joinL]
  | succ n ih =>
    intro l hl
    rcases List.eq_nil_or_concat l with rfl | ⟨l, q, rfl⟩
    · simp at hl
    · rw [List.concat_eq_append] at hl ⊢
      rw [joinL_snoc]
      have := ih l (by simpa using hl)
      have := joinStep_length (joinL l) q
      omega
def textS (l : List Pt) : Nat := (l.map fun p => p.s.length).sum
theorem textS_append (a b : List Pt) : textS (a ++ b) = textS a + textS b := by simp [textS]
theorem textS_one (p : Pt) : textS [p] = p.s.length := by simp [textS]
theorem nz_s (p : Pt) : p.nz.s = p.s := by unfold Pt.nz; split <;> rfl
theorem joinStep_text (L : List Pt) (p : Pt) : textS (joinStep L p) = textS L + p.s.length := by
  rcases List.eq_nil_or_concat L with rfl | ⟨L, q, rfl⟩
  · simp [joinStep_nil, textS, nz_s]
  · rw [List.concat_eq_append, joinStep_snoc]
    split
    · simp [textS]; omega
    · split
      · rename_i h
        simp at h
        simp [textS, h.1.1, h.1.2]
      · simp [textS, nz_s]; omega
theorem joinL_text (l : List Pt) : textS (joinL l) = textS l := by
  suffices ∀ n, ∀ l : List Pt, l.length = n → textS (joinL l) = textS l from this _ l rfl
  intro n
  induction n with
  | zero => intro l hl; rw [List.eq_nil_of_length_eq_zero hl]; simp [joinL]
  | succ n ih =>
    intro l hl
    rcases List.eq_nil_or_concat l with rfl | ⟨l, q, rfl⟩
    · simp at hl
    · rw [List.concat_eq_append] at hl ⊢
      rw [joinL_snoc, joinStep_text, ih l (by simpa using hl), textS_append, textS_one]
theorem pts_set0 (l : List Pt) (q : Pt) (s : List UInt8) (m : Nat) (hm : l.length = m) : (pts (l ++ [q])).set (m * 3) (.string ⟨s.toArray⟩) = pts (l ++ [⟨s, q.f, q.t⟩]) := by
  subst hm
  rw [pts_append, pts_append, List.set_append_right _ _ (by rw [pts_length]; omega), pts_length]
  simp [pts, Pt.cells]
theorem pts_set2 (l : List Pt) (q : Pt) (t : Int) (m : Nat) (hm : l.length = m) : (pts (l ++ [q])).set (m * 3 + 2) (.int .i64 t) = pts (l ++ [⟨q.s, q.f, t⟩]) := by
  subst hm
  rw [pts_append, pts_append, List.set_append_right _ _ (by rw [pts_length]; omega), pts_length]
  simp [pts, Pt.cells]

set_option maxHeartbeats 4000000 in
set_option maxRecDepth 100000 in
theorem joined_calls (A : Option Addr) (c : Nat) (l : List Pt) (w : World) (h : PAt w A l) (hl : l.length ≤ 1000000) (htx : textS l ≤ 1000000) :
    Calls Try.prog 19 #[.slice A l.length c] w (PRowPost w (joinL l)) := by
  have HA := Lib.hid h
  have HTX := Lib.hid htx
  clear h htx
  go_enter Try.func19, Try.ntmps19
  go_wp2
  go_loopw [3, 9] (fun v i wr => ∃ k : Nat, k ≤ l.length ∧ i = .int .i64 k ∧ wr.ownsRow w.heap.size 40 3 v (joinL (l.take k)).length (pts (joinL (l.take k))) ∧ Ext w wr) (fun _ i _ => l.length - (intOf i).toNat)
  case atStart => exact ⟨0, Nat.zero_le _, rfl, World.ownsRow_nil _ _ _ _, Ext.refl w⟩
  case round =>
    obtain ⟨k, hk, rfl, hown, hx⟩ := hrel
    by_cases hlt : k < l.length
    · obtain ⟨b, o, rfl, p0, p1, p2⟩ := HA.out.ext hx k hlt
      have hts : joinL (l.take (k + 1)) = joinStep (joinL (l.take k)) l[k] := by rw [List.take_succ_eq_append_getElem hlt, joinL_snoc]
      have hlen : (joinL (l.take k)).length ≤ k := Nat.le_trans (joinL_length _) (List.length_take_le _ _)
      have htk : textS (joinL (l.take k)) + l[k].s.length ≤ 1000000 := by
        rw [joinL_text]
        have h1 : textS (l.take (k + 1)) + textS (l.drop (k + 1)) = textS l := by rw [← textS_append, List.take_append_drop]
        rw [List.take_succ_eq_append_getElem hlt, textS_append, textS_one] at h1
        have := HTX.out
        omega
      generalize l[k] = p at *
      rcases p with ⟨s, f, t⟩
      simp only at p0 p1 p2 htk
      obtain ⟨J, hJ⟩ : ∃ J, joinL (l.take k) = J := ⟨_, rfl⟩
      rw [hJ] at hts hown hlen htk
      have HT := Lib.hid hts
      clear hts hJ
      have hxa : Ext wr (wr.alloc (.cells #[.string ⟨s.toArray⟩, .int .i64 f, .int .i64 t] 40)) := (Ext.refl wr).alloc _
      have ba := heap_alloc_new wr (.cells #[.string ⟨s.toArray⟩, .int .i64 f, .int .i64 t] 40)
      have hx2 := hx.trans hxa
      rcases List.eq_nil_or_concat J with rfl | ⟨J, q, rfl⟩
      · replace hown : wr.ownsRow w.heap.size 40 3 _ 0 [] := hown
        obtain ⟨A', c', rfl, _⟩ := own_shape hown
        have hown1 := ownsRow_ext hown hxa
        clear hlen htk
        go_upto_region 6 with (fail)
        generalize (wr.alloc (.cells #[.string ⟨s.toArray⟩, .int .i64 f, .int .i64 t] 40)) = wa at *
        generalize wr.heap.size = xb at *
        have c0 : wa.cell? ⟨xb, 0, none⟩ = some (.string ⟨s.toArray⟩) := by rw [cell_of_block ba]; rfl
        have c1 : wa.cell? ⟨xb, 1, none⟩ = some (.int .i64 f) := by rw [cell_of_block ba]; rfl
        have c2 : wa.cell? ⟨xb, 2, none⟩ = some (.int .i64 t) := by rw [cell_of_block ba]; rfl
        clear ba hxa hown hx p0 p1 p2
        cases e1 : (s == [])
        · have hnz : Pt.nz ⟨s, f, t⟩ = ⟨s, 0, 0⟩ := by have : ¬ s = [] := (by simpa using e1); simp [Pt.nz, this]
          have HNZ := Lib.hid hnz
          clear hnz
          go_wp2
          refine wp_region_ext_lit (by kernel_rfl) (by kernel_rfl) ?_
          intro X _ g hg hg'
          have d0 : ∀ n, (g n).cell? ⟨xb, 0, none⟩ = some (.string ⟨s.toArray⟩) := fun n => (hg n).cell c0
          have d1 : ∀ n, (g n).cell? ⟨xb, 1, none⟩ = some (.int .i64 f) := fun n => (hg n).cell c1
          have d2 : ∀ n, (g n).cell? ⟨xb, 2, none⟩ = some (.int .i64 t) := fun n => (hg n).cell c2
          repeat (go_big_quiet_step (fail))
          refine wpQuiet_nil ?_
          rintro w' ⟨n, rfl⟩
          have hxq := hg n
          replace d0 := d0 n
          replace d1 := d1 n
          replace d2 := d2 n
          have hx3 := hx2.trans hxq
          have hown2 := ownsRow_ext hown1 hxq
          have hb2 := hx3.size
          clear c0 c1 c2 hown1 hx2
          generalize g n = wg at *
          clear hxq hg hg'
          go_wp2_with (at_builtin; refine wpList_append_new _ rfl _ _ 22 rfl w.heap.size 40 _ 3 32 Try.underlying22 infoPart rfl (by omega) _ 0 [] rfl hown2 1 1 _ (by simp) _ rfl rfl (by simp [Value.oneCell']) (by simp [maxLen] <;> omega) (by omega) hb2 ?_; intro v1 w4 hown4 hm)
          have hx5 := ext_moved hx3 hown2 hm
          go_roundw
          case rel => exact ⟨k + 1, by omega, by go_num, by rw [HT.out, joinStep_nil, HNZ.out]; exact hown4, hx5⟩
          case measure => simp [intOf]; omega
        · have hnz : Pt.nz ⟨s, f, t⟩ = ⟨s, f, t⟩ := by have : s = [] := (by simpa using e1); simp [Pt.nz, this]
          have HNZ := Lib.hid hnz
          clear hnz
          go_wp2
          refine wp_region_ext_lit (by kernel_rfl) (by kernel_rfl) ?_
          intro X _ g hg hg'
          have d0 : ∀ n, (g n).cell? ⟨xb, 0, none⟩ = some (.string ⟨s.toArray⟩) := fun n => (hg n).cell c0
          have d1 : ∀ n, (g n).cell? ⟨xb, 1, none⟩ = some (.int .i64 f) := fun n => (hg n).cell c1
          have d2 : ∀ n, (g n).cell? ⟨xb, 2, none⟩ = some (.int .i64 t) := fun n => (hg n).cell c2
          repeat (go_big_quiet_step (fail))
          refine wpQuiet_nil ?_
          rintro w' ⟨n, rfl⟩
          have hxq := hg n
          replace d0 := d0 n
          replace d1 := d1 n
          replace d2 := d2 n
          have hx3 := hx2.trans hxq
          have hown2 := ownsRow_ext hown1 hxq
          have hb2 := hx3.size
          clear c0 c1 c2 hown1 hx2
          generalize g n = wg at *
          clear hxq hg hg'
          go_wp2_with (at_builtin; refine wpList_append_new _ rfl _ _ 22 rfl w.heap.size 40 _ 3 32 Try.underlying22 infoPart rfl (by omega) _ 0 [] rfl hown2 1 1 _ (by simp) _ rfl rfl (by simp [Value.oneCell']) (by simp [maxLen] <;> omega) (by omega) hb2 ?_; intro v1 w4 hown4 hm)
          have hx5 := ext_moved hx3 hown2 hm
          go_roundw
          case rel => exact ⟨k + 1, by omega, by go_num, by rw [HT.out, joinStep_nil, HNZ.out]; exact hown4, hx5⟩
          case measure => simp [intOf]; omega
      · rw [List.concat_eq_append] at *
        have hl2 : (J ++ [q]).length = J.length + 1 := by simp
        rw [hl2] at hown hlen
        rw [textS_append, textS_one] at htk
        have htq : q.s.length + s.length ≤ 1000000 := by omega
        obtain ⟨g0, cap, rfl, _⟩ := hown.form (by omega)
        generalize hkm : J.length = m at *
        have hown1 := ownsRow_ext hown hxa
        have q0 : (wr.alloc (.cells #[.string ⟨s.toArray⟩, .int .i64 f, .int .i64 t] 40)).cell? ⟨g0, m * 3, none⟩ = some (.string ⟨q.s.toArray⟩) := by rw [hown1.cellAt _ (by omega), ← hkm]; exact pts_at J q 0
        have q2 : (wr.alloc (.cells #[.string ⟨s.toArray⟩, .int .i64 f, .int .i64 t] 40)).cell? ⟨g0, m * 3 + 2, none⟩ = some (.int .i64 q.t) := by rw [hown1.cellAt _ (by omega), ← hkm]; exact pts_at J q 2
        have HK := Lib.hid hkm
        have hg0 : w.heap.size ≤ g0 := own_base hown rfl
        rcases q with ⟨qs, qf, qt⟩
        simp only at q0 q2 htq
        clear hkm hl2 htk
        go_upto_region 6 with (fail)
        generalize (wr.alloc (.cells #[.string ⟨s.toArray⟩, .int .i64 f, .int .i64 t] 40)) = wa at *
        generalize wr.heap.size = xb at *
        have c0 : wa.cell? ⟨xb, 0, none⟩ = some (.string ⟨s.toArray⟩) := by rw [cell_of_block ba]; rfl
        have c1 : wa.cell? ⟨xb, 1, none⟩ = some (.int .i64 f) := by rw [cell_of_block ba]; rfl
        have c2 : wa.cell? ⟨xb, 2, none⟩ = some (.int .i64 t) := by rw [cell_of_block ba]; rfl
        clear ba hxa hown hx p0 p1 p2
        cases e1 : (s == [])
        · have hnz : Pt.nz ⟨s, f, t⟩ = ⟨s, 0, 0⟩ := by have : ¬ s = [] := (by simpa using e1); simp [Pt.nz, this]
          have HNZ := Lib.hid hnz
          clear hnz
          cases e2 : (qs == [])
          · -- two texts
            have fz : wa.frozen? ⟨g0, m * 3, none⟩ = false := hown1.frozenAt _
            go_wp2
            go_region
            rw [show (⟨qs.toArray⟩ ++ ⟨s.toArray⟩ : ByteArray) = ⟨(qs ++ s).toArray⟩ by apply ByteArray.ext; simp]
            have h3 := (hown1.stored (m * 3) (.string ⟨(qs ++ s).toArray⟩)).1
            rw [pts_set0 _ _ _ _ HK.out] at h3
            replace h3 := ownsRow_ext h3 (Ext.refl _).drew
            have HJ : Hid (joinStep (J ++ [⟨qs, qf, qt⟩]) ⟨s, f, t⟩ = J ++ [⟨qs ++ s, qf, qt⟩]) := Lib.hid (by rw [joinStep_snoc]; simp [e1, e2])
            have hx4 := (hx2.setCell (p := ⟨g0, m * 3, none⟩) hg0 (.string ⟨(qs ++ s).toArray⟩)).drew
            go_wp2
            go_roundw
            case rel => exact ⟨k + 1, by omega, by go_num, by rw [HT.out, HJ.out, List.length_append, HK.out]; exact h3, hx4⟩
            case measure => simp [intOf]; omega
          · have HJ : Hid (joinStep (J ++ [⟨qs, qf, qt⟩]) ⟨s, f, t⟩ = (J ++ [⟨qs, qf, qt⟩]) ++ [⟨s, 0, 0⟩]) := Lib.hid (by rw [joinStep_snoc, HNZ.out]; simp [e1, e2])
            go_wp2
            refine wp_region_ext_lit (by kernel_rfl) (by kernel_rfl) ?_
            intro X _ g hg hg'
            have d0 : ∀ n, (g n).cell? ⟨xb, 0, none⟩ = some (.string ⟨s.toArray⟩) := fun n => (hg n).cell c0
            have d1 : ∀ n, (g n).cell? ⟨xb, 1, none⟩ = some (.int .i64 f) := fun n => (hg n).cell c1
            have d2 : ∀ n, (g n).cell? ⟨xb, 2, none⟩ = some (.int .i64 t) := fun n => (hg n).cell c2
            have r0 : ∀ n, (g n).cell? ⟨g0, m * 3, none⟩ = some (.string ⟨qs.toArray⟩) := fun n => (hg n).cell q0
            have r2 : ∀ n, (g n).cell? ⟨g0, m * 3 + 2, none⟩ = some (.int .i64 qt) := fun n => (hg n).cell q2
            repeat (go_big_quiet_step (fail))
            refine wpQuiet_nil ?_
            rintro w' ⟨n, rfl⟩
            have hxq := hg n
            replace d0 := d0 n
            replace d1 := d1 n
            replace d2 := d2 n
            replace r0 := r0 n
            replace r2 := r2 n
            have hx3 := hx2.trans hxq
            have hown2 := ownsRow_ext hown1 hxq
            have hb2 := hx3.size
            clear c0 c1 c2 q0 q2 hown1 hx2
            generalize g n = wg at *
            clear hxq hg hg'
            go_wp2_with (at_builtin; refine wpList_append_new _ rfl _ _ 22 rfl w.heap.size 40 _ 3 32 Try.underlying22 infoPart rfl (by omega) (.slice (some ⟨g0, 0, none⟩) (m + 1) cap) _ _ rfl hown2 1 1 _ (by simp) _ rfl rfl (by simp [Value.oneCell']) (by simp [maxLen] <;> omega) (by omega) hb2 ?_; intro v1 w4 hown4 hm)
            have hx5 := ext_moved hx3 hown2 hm
            go_roundw
            case rel => exact ⟨k + 1, by omega, by go_num, by rw [HT.out, HJ.out, pts_append, List.length_append, List.length_append, HK.out]; exact hown4, hx5⟩
            case measure => simp [intOf]; omega
        · have hnz : Pt.nz ⟨s, f, t⟩ = ⟨s, f, t⟩ := by have : s = [] := (by simpa using e1); simp [Pt.nz, this]
          have HNZ := Lib.hid hnz
          clear hnz
          cases e2 : (qs == [])
          · have HJ : Hid (joinStep (J ++ [⟨qs, qf, qt⟩]) ⟨s, f, t⟩ = (J ++ [⟨qs, qf, qt⟩]) ++ [⟨s, f, t⟩]) := Lib.hid (by rw [joinStep_snoc, HNZ.out]; simp [e1, e2])
            go_wp2
            refine wp_region_ext_lit (by kernel_rfl) (by kernel_rfl) ?_
            intro X _ g hg hg'
            have d0 : ∀ n, (g n).cell? ⟨xb, 0, none⟩ = some (.string ⟨s.toArray⟩) := fun n => (hg n).cell c0
            have d1 : ∀ n, (g n).cell? ⟨xb, 1, none⟩ = some (.int .i64 f) := fun n => (hg n).cell c1
            have d2 : ∀ n, (g n).cell? ⟨xb, 2, none⟩ = some (.int .i64 t) := fun n => (hg n).cell c2
            have r0 : ∀ n, (g n).cell? ⟨g0, m * 3, none⟩ = some (.string ⟨qs.toArray⟩) := fun n => (hg n).cell q0
            have r2 : ∀ n, (g n).cell? ⟨g0, m * 3 + 2, none⟩ = some (.int .i64 qt) := fun n => (hg n).cell q2
            repeat (go_big_quiet_step (fail))
            refine wpQuiet_nil ?_
            rintro w' ⟨n, rfl⟩
            have hxq := hg n
            replace d0 := d0 n
            replace d1 := d1 n
            replace d2 := d2 n
            replace r0 := r0 n
            replace r2 := r2 n
            have hx3 := hx2.trans hxq
            have hown2 := ownsRow_ext hown1 hxq
            have hb2 := hx3.size
            clear c0 c1 c2 q0 q2 hown1 hx2
            generalize g n = wg at *
            clear hxq hg hg'
            go_wp2_with (at_builtin; refine wpList_append_new _ rfl _ _ 22 rfl w.heap.size 40 _ 3 32 Try.underlying22 infoPart rfl (by omega) (.slice (some ⟨g0, 0, none⟩) (m + 1) cap) _ _ rfl hown2 1 1 _ (by simp) _ rfl rfl (by simp [Value.oneCell']) (by simp [maxLen] <;> omega) (by omega) hb2 ?_; intro v1 w4 hown4 hm)
            have hx5 := ext_moved hx3 hown2 hm
            go_roundw
            case rel => exact ⟨k + 1, by omega, by go_num, by rw [HT.out, HJ.out, pts_append, List.length_append, List.length_append, HK.out]; exact hown4, hx5⟩
            case measure => simp [intOf]; omega
          · cases e3 : (qt == f)
            · have HJ : Hid (joinStep (J ++ [⟨qs, qf, qt⟩]) ⟨s, f, t⟩ = (J ++ [⟨qs, qf, qt⟩]) ++ [⟨s, f, t⟩]) := Lib.hid (by rw [joinStep_snoc, HNZ.out]; simp [e1, e2, e3])
              go_wp2
              refine wp_region_ext_lit (by kernel_rfl) (by kernel_rfl) ?_
              intro X _ g hg hg'
              have d0 : ∀ n, (g n).cell? ⟨xb, 0, none⟩ = some (.string ⟨s.toArray⟩) := fun n => (hg n).cell c0
              have d1 : ∀ n, (g n).cell? ⟨xb, 1, none⟩ = some (.int .i64 f) := fun n => (hg n).cell c1
              have d2 : ∀ n, (g n).cell? ⟨xb, 2, none⟩ = some (.int .i64 t) := fun n => (hg n).cell c2
              have r0 : ∀ n, (g n).cell? ⟨g0, m * 3, none⟩ = some (.string ⟨qs.toArray⟩) := fun n => (hg n).cell q0
              have r2 : ∀ n, (g n).cell? ⟨g0, m * 3 + 2, none⟩ = some (.int .i64 qt) := fun n => (hg n).cell q2
              repeat (go_big_quiet_step (fail))
              refine wpQuiet_nil ?_
              rintro w' ⟨n, rfl⟩
              have hxq := hg n
              replace d0 := d0 n
              replace d1 := d1 n
              replace d2 := d2 n
              replace r0 := r0 n
              replace r2 := r2 n
              have hx3 := hx2.trans hxq
              have hown2 := ownsRow_ext hown1 hxq
              have hb2 := hx3.size
              clear c0 c1 c2 q0 q2 hown1 hx2
              generalize g n = wg at *
              clear hxq hg hg'
              go_wp2_with (at_builtin; refine wpList_append_new _ rfl _ _ 22 rfl w.heap.size 40 _ 3 32 Try.underlying22 infoPart rfl (by omega) (.slice (some ⟨g0, 0, none⟩) (m + 1) cap) _ _ rfl hown2 1 1 _ (by simp) _ rfl rfl (by simp [Value.oneCell']) (by simp [maxLen] <;> omega) (by omega) hb2 ?_; intro v1 w4 hown4 hm)
              have hx5 := ext_moved hx3 hown2 hm
              go_roundw
              case rel => exact ⟨k + 1, by omega, by go_num, by rw [HT.out, HJ.out, pts_append, List.length_append, List.length_append, HK.out]; exact hown4, hx5⟩
              case measure => simp [intOf]; omega
            · have HJ : Hid (joinStep (J ++ [⟨qs, qf, qt⟩]) ⟨s, f, t⟩ = J ++ [⟨[], qf, t⟩]) := Lib.hid (by rw [joinStep_snoc]; simp [e1, e2, e3])
              go_wp2
              refine wp_region_ext_lit (by kernel_rfl) (by kernel_rfl) ?_
              intro X _ g hg hg'
              have d0 : ∀ n, (g n).cell? ⟨xb, 0, none⟩ = some (.string ⟨s.toArray⟩) := fun n => (hg n).cell c0
              have d1 : ∀ n, (g n).cell? ⟨xb, 1, none⟩ = some (.int .i64 f) := fun n => (hg n).cell c1
              have d2 : ∀ n, (g n).cell? ⟨xb, 2, none⟩ = some (.int .i64 t) := fun n => (hg n).cell c2
              have r0 : ∀ n, (g n).cell? ⟨g0, m * 3, none⟩ = some (.string ⟨qs.toArray⟩) := fun n => (hg n).cell q0
              have r2 : ∀ n, (g n).cell? ⟨g0, m * 3 + 2, none⟩ = some (.int .i64 qt) := fun n => (hg n).cell q2
              repeat (go_big_quiet_step (fail))
              refine wpQuiet_nil ?_
              rintro w' ⟨n, rfl⟩
              have hxq := hg n
              replace d0 := d0 n
              replace d1 := d1 n
              replace d2 := d2 n
              replace r0 := r0 n
              replace r2 := r2 n
              have hx3 := hx2.trans hxq
              have hown2 := ownsRow_ext hown1 hxq
              have hb2 := hx3.size
              clear c0 c1 c2 q0 q2 hown1 hx2
              generalize g n = wg at *
              clear hxq hg hg'
              have fz : wg.frozen? ⟨g0, m * 3 + 2, none⟩ = false := hown2.frozenAt _
              have h3 := (hown2.stored (m * 3 + 2) (.int .i64 t)).1
              rw [pts_set2 _ _ _ _ HK.out] at h3
              have HQ : Hid (qs = []) := Lib.hid (by simpa using e2)
              have hx4 := hx3.setCell (p := ⟨g0, m * 3 + 2, none⟩) hg0 (.int .i64 t)
              go_wp2
              go_roundw
              case rel => exact ⟨k + 1, by omega, by go_num, by rw [HT.out, HJ.out, ← HQ.out, List.length_append, HK.out]; exact h3, hx4⟩
              case measure => simp [intOf]; omega
    · obtain rfl : k = l.length := by omega
      rw [List.take_length] at hown
      go_wp2
      go_ret
      exact ⟨_, rfl, Lib.hid hown, hx⟩
end Go.Proofs.Ytcdokpkffbigdaa
