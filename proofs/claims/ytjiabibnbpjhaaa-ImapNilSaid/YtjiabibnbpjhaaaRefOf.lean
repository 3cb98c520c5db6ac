/- The contract of the reference's Of; what it says is the set of the bytes, as spans. -/
import Derived.Test.YtjiabibnbpjhaaaKnown
import Derived.Test.YtjiabibnbpjhaaaRuns
import Derived.Test.YtjiabibnbpjhaaaLaw
import Derived.Test.YtjiabibnbpjhaaaAll
namespace Go.Proofs.Ytjiabibnbpjhaaa.Rg
open Go.RowKit

/-- One step of the reference's Of. -/
def mstep (L : List Sp) (x : Sp) : List Sp :=
  match L.getLast? with
  | some q => if q.t = x.f then L.dropLast ++ [⟨q.f, x.t⟩] else L ++ [x]
  | none => [x]
def mrg (l : List Sp) : List Sp := l.foldl mstep []
theorem mrg_snoc (l : List Sp) (x : Sp) : mrg (l ++ [x]) = mstep (mrg l) x := by simp [mrg]
theorem mstep_nil (x : Sp) : mstep [] x = [x] := rfl
theorem mstep_snoc (L : List Sp) (q x : Sp) : mstep (L ++ [q]) x = if q.t = x.f then L ++ [⟨q.f, x.t⟩] else (L ++ [q]) ++ [x] := by simp [mstep]
theorem mrg_length (l : List Sp) : (mrg l).length ≤ l.length := by
  suffices h : ∀ (l : List Sp) (L : List Sp), (l.foldl mstep L).length ≤ L.length + l.length by have := h l []; simp at this; exact this
  intro l
  induction l with
  | nil => intro L; simp
  | cons x l ih =>
    intro L
    have h1 := ih (mstep L x)
    have h2 : (mstep L x).length ≤ L.length + 1 := by
      rcases List.eq_nil_or_concat L with rfl | ⟨L, q, rfl⟩
      · simp [mstep]
      · rw [List.concat_eq_append, mstep_snoc]
        split <;> simp
    simp only [List.foldl_cons, List.length_cons]
    omega
/-- Spans that lie apart, or touch, rising. -/
def Lined (l : List Sp) : Prop := (∀ s ∈ l, s.ok) ∧ l.Pairwise fun a b => a.t ≤ b.f
theorem Lined.rising {l : List Sp} (h : Lined l) : Rising l := by
  refine List.Pairwise.imp_of_mem (fun {a b} ha _ hab => ?_) h.2
  have := (h.1 a ha).2.1
  omega
theorem mrg_gath (l : List Sp) (h : Lined l) : mrg l = gath l := by
  revert h
  refine snoc_ind (P := fun l => Lined l → mrg l = gath l) (fun _ => rfl) (fun l x ih h => ?_) l
  obtain ⟨h1, _, h3⟩ := List.pairwise_append.1 h.2
  have hl : Lined l := ⟨fun s hs => h.1 s (by simp [hs]), h1⟩
  have hx := h.1 x (by simp)
  rw [mrg_snoc, gath_snoc, ih hl]
  obtain ⟨n1, n2, _⟩ := gath_inv l hl.1 hl.rising
  rcases List.eq_nil_or_concat (gath l) with e | ⟨L, q, e⟩
  · rw [e]; rfl
  · rw [List.concat_eq_append] at e
    rw [e] at n1 n2
    rw [e, mstep_snoc, gstep_snoc]
    have hq := n1.1 q (by simp)
    obtain ⟨u, hu, u1, u2⟩ := (n2 (q.t - 1)).1 ⟨q, by simp, by have := hq.2.1; omega, by omega⟩
    have h4 := h3 u hu x (by simp)
    by_cases hc : q.t = x.f
    · rw [if_pos hc, if_pos (by omega), show max q.t x.t = x.t by have := hx.2.1; omega]
    · rw [if_neg hc, if_neg (by omega)]
theorem lined_of {l : List Rn} {lo : Int} {lv : Option Int} (h0 : 0 ≤ lo) (h : WF lo lv l) (p : Rn → Bool) : Lined (selS p l) ∧ (∀ s ∈ selS p l, lo ≤ s.f) ∧ ∀ r ∈ l, RnOk r := by
  induction l generalizing lo lv with
  | nil => exact ⟨⟨by simp [selS], List.Pairwise.nil⟩, by simp [selS], by simp⟩
  | cons r l ih =>
    obtain ⟨h1, _, h3, h4, h5⟩ := h
    have h4' : r.t ≤ 4611686018427387904 := h4
    obtain ⟨⟨i1, i2⟩, i3, i4⟩ := ih (by omega) h5
    have hok : ∀ u ∈ r :: l, RnOk u := fun u hu => by
      rcases List.mem_cons.1 hu with rfl | hu
      · exact ⟨by omega, h3, h4'⟩
      · exact i4 u hu
    cases hp : p r
    · have : selS p (r :: l) = selS p l := by simp [selS, hp]
      rw [this]
      exact ⟨⟨i1, i2⟩, fun s hs => by have := i3 s hs; omega, hok⟩
    · have : selS p (r :: l) = ⟨r.f, r.t⟩ :: selS p l := by simp [selS, hp]
      rw [this]
      refine ⟨⟨fun s hs => ?_, List.pairwise_cons.2 ⟨fun s hs => i3 s hs, i2⟩⟩, fun s hs => ?_, hok⟩
      · rcases List.mem_cons.1 hs with rfl | hs
        · exact ⟨by show 0 ≤ r.f; omega, h3, h4'⟩
        · exact i1 s hs
      · rcases List.mem_cons.1 hs with rfl | hs
        · exact h1
        · have := i3 s hs; omega
theorem mrg_of {l : List Rn} (h : WF 0 none l) (p : Rn → Bool) : mrg (selS p l) = ofS (selS p l) := by
  have h1 := (lined_of (Int.le_refl 0) h p).1
  rw [mrg_gath _ h1]
  exact gath_of h1.1 h1.rising fun s => ⟨fun hs => ⟨hs, h1.1 s hs⟩, fun hs => hs.1⟩
theorem sel_snoc (p : Rn → Bool) (l : List Rn) (r : Rn) : selS p (l ++ [r]) = if p r then selS p l ++ [⟨r.f, r.t⟩] else selS p l := by
  unfold selS
  rw [List.filter_append, List.map_append]
  cases h : p r <;> simp [h]

set_option maxHeartbeats 4000000 in
set_option maxRecDepth 100000 in
theorem refOf_calls (A : Option Addr) (c : Nat) (l : List Ac) (v0 : Int) (al : Bool) (w : World) (ha : Acts w A l) (hl : l.length ≤ 1000) (hlr : (runsR l).length ≤ 5000) :
    Calls Try.prog 32 #[.slice A l.length c, .int .i64 v0, .bool al] w (RowPost w (mrg (selS (fun r => al || r.v == v0) (runsR l)))) := by
  have hrc := runs_calls A c l w ha (by omega)
  obtain ⟨RR, hRR⟩ : ∃ RR, runsR l = RR := ⟨_, rfl⟩
  rw [hRR] at hrc hlr ⊢
  clear hRR
  go_enter Try.func32, Try.ntmps32
  go_wp2_with fail
  refine hrc.mono ?_
  rintro e w1 ⟨v, rfl, hownR, hx1⟩
  obtain ⟨AR, cR, rfl, _⟩ := own_shape hownR
  have HR := Lib.hid (row3_own hownR)
  clear hownR hrc
  go_wp2
  go_loopw [7, 14] (fun v i wr => ∃ k : Nat, k ≤ RR.length ∧ i = .int .i64 k ∧ wr.ownsRow w1.heap.size 34 2 v (mrg (selS (fun r => al || r.v == v0) (RR.take k))).length (spans (mrg (selS (fun r => al || r.v == v0) (RR.take k)))) ∧ Ext w1 wr) (fun _ i _ => RR.length - (intOf i).toNat)
  case atStart => exact ⟨0, Nat.zero_le _, rfl, World.ownsRow_nil _ _ _ _, Ext.refl _⟩
  case round =>
    obtain ⟨k, hk, rfl, hown, hx1r⟩ := hrel
    by_cases hlt : k < RR.length
    · obtain ⟨b, rfl, p0, p1, p2⟩ := HR.out.ext hx1r k hlt
      have hts : selS (fun r => al || r.v == v0) (RR.take (k + 1)) = if (al || RR[k].v == v0) then selS (fun r => al || r.v == v0) (RR.take k) ++ [⟨RR[k].f, RR[k].t⟩] else selS (fun r => al || r.v == v0) (RR.take k) := by
        rw [List.take_succ_eq_append_getElem hlt, sel_snoc]
      obtain ⟨s, hs⟩ : ∃ s, RR[k] = s := ⟨_, rfl⟩
      rw [hs] at p0 p1 p2 hts
      have hlen : (mrg (selS (fun r => al || r.v == v0) (RR.take k))).length ≤ k := Nat.le_trans (mrg_length _) (Nat.le_trans (sel_len _ _) (List.length_take_le _ _))
      obtain ⟨T, hT⟩ : ∃ T, selS (fun r => al || r.v == v0) (RR.take k) = T := ⟨_, rfl⟩
      obtain ⟨T2, hT2⟩ : ∃ T2, selS (fun r => al || r.v == v0) (RR.take (k + 1)) = T2 := ⟨_, rfl⟩
      rw [hT] at hts hown hlen
      rw [hT2] at hts
      have HT2 := Lib.hid hT2
      obtain ⟨L, hL⟩ : ∃ L, mrg T = L := ⟨_, rfl⟩
      rw [hL] at hown hlen
      have HB := hx1r.size
      clear hs hT hT2
      cases al
      · cases e0 : (s.v == v0)
        · rw [e0] at hts
          have HT : Hid (mrg T2 = L) := Lib.hid (by rw [hts]; exact hL)
          have e0' : ¬ s.v = v0 := by simpa using e0
          have hx9 := (Ext.refl wr).alloc (.cells #[.int .i64 s.f, .int .i64 s.t, .int .i64 s.v] 50)
          clear hts hL
          go_wp2
          go_roundw
          case rel => exact ⟨k + 1, by omega, by go_num, by rw [HT2.out, HT.out]; exact ownsRow_ext hown hx9, hx1r.trans hx9⟩
          case measure => simp [intOf]; omega
        · rw [e0] at hts
          have HT0 : Hid (mrg T2 = mstep L ⟨s.f, s.t⟩) := Lib.hid (by rw [hts]; show mrg (T ++ _) = _; rw [mrg_snoc, hL])
          have e0' : s.v = v0 := by simpa using e0
          have HT := Lib.hid (HT2.out ▸ HT0.out : mrg (selS (fun r => false || r.v == v0) (RR.take (k + 1))) = mstep L ⟨s.f, s.t⟩)
          clear hts hL HT0 HT2
          rcases List.eq_nil_or_concat L with rfl | ⟨L, q, rfl⟩
          · replace hown : wr.ownsRow w1.heap.size 34 2 _ 0 [] := hown
            obtain ⟨A', c', rfl, _⟩ := own_shape hown
            clear hlen
            go_wp2
            refine wp_region_ext_lit (by kernel_rfl) (by kernel_rfl) ?_
            intro X _ g hg hg'
            repeat (go_big_quiet_step (fail))
            refine wpQuiet_nil ?_
            rintro w' ⟨n, rfl⟩
            have c0 := (hg n).cell (p := ⟨wr.heap.size, 0, none⟩) (u := .int .i64 s.f) (by simp)
            have c1 := (hg n).cell (p := ⟨wr.heap.size, 1, none⟩) (u := .int .i64 s.t) (by simp)
            have hxa := ((Ext.refl wr).alloc _).trans (hg n)
            have hx2 := hx1r.trans hxa
            have hown1 := ownsRow_ext hown hxa
            have hb2 := hx2.size
            clear hg hg' hown p0 p1 p2 hx1r hxa
            go_wp2_with (at_builtin; refine wpList_append_new _ rfl _ _ 63 rfl w1.heap.size 34 _ 2 16 Try.underlying63 infoSpan rfl (by omega) _ 0 [] rfl hown1 1 1 _ (by simp) _ rfl rfl (by simp [Value.oneCell']) (by simp [maxLen]) (by omega) hb2 ?_; intro v1 w19 hown2 hm)
            have hx3 := ext_moved hx2 hown1 hm
            go_roundw
            case rel => exact ⟨k + 1, by omega, by go_num, by rw [HT.out, mstep_nil]; exact hown2, hx3⟩
            case measure => simp [intOf]; omega
          · rw [List.concat_eq_append] at *
            have hl2 : (L ++ [q]).length = L.length + 1 := by simp
            rw [hl2] at hown hlen
            obtain ⟨g0, cap, rfl, _⟩ := hown.form (by omega)
            generalize hk : L.length = m at *
            have hq1 : wr.cell? ⟨g0, m * 2 + 1, none⟩ = some (.int .i64 q.t) := by rw [hown.cellAt _ (by omega), ← hk]; exact spans_at L q 1
            have HK := Lib.hid hk
            have hne : g0 ≠ wr.heap.size := fun e => by have := block_of_cell hq1; simp only at this; omega
            have hgb : w1.heap.size ≤ g0 := own_base hown rfl
            clear hk hl2
            cases e1 : (q.t == s.f)
            all_goals
              go_wp2
              refine wp_region_ext_lit (by kernel_rfl) (by kernel_rfl) ?_
              intro X _ g hg hg'
              have c1 : ∀ n, (g n).cell? ⟨g0, m * 2 + 1, none⟩ = some (.int .i64 q.t) := fun n => ((Ext.refl wr).alloc _ |>.trans (hg n)).cell hq1
              have d0 : ∀ n, (g n).cell? ⟨wr.heap.size, 0, none⟩ = some (.int .i64 s.f) := fun n => (hg n).cell (by simp)
              have d1 : ∀ n, (g n).cell? ⟨wr.heap.size, 1, none⟩ = some (.int .i64 s.t) := fun n => (hg n).cell (by simp)
              repeat (go_big_quiet_step (fail))
              refine wpQuiet_nil ?_
              rintro w' ⟨n, rfl⟩
              have hxa := ((Ext.refl wr).alloc _).trans (hg n)
              have hx2 := hx1r.trans hxa
              have hown1 := ownsRow_ext hown hxa
              have hb2 := hx2.size
              replace c1 := c1 n
              replace d0 := d0 n
              replace d1 := d1 n
              have fz : (g n).frozen? ⟨g0, m * 2 + 1, none⟩ = false := hown1.frozenAt _
              clear hg hg' hown p0 p1 p2 hq1 hx1r hxa
              generalize g n = wg at *
              generalize wr.heap.size = xb at *
            · have e2 : ¬ q.t = s.f := by simpa using e1
              clear e1
              go_wp2_with (at_builtin; refine wpList_append_new _ rfl _ _ 63 rfl w1.heap.size 34 _ 2 16 Try.underlying63 infoSpan rfl (by omega) (.slice (some ⟨g0, 0, none⟩) (m + 1) cap) _ _ rfl hown1 1 1 _ (by simp) _ rfl rfl (by simp [Value.oneCell']) (by simp [maxLen]; omega) (by omega) hb2 ?_; intro v1 w19 hown2 hm)
              have hx3 := ext_moved hx2 hown1 hm
              obtain rfl := HK.out
              go_roundw
              case rel => exact ⟨k + 1, by omega, by go_num, by rw [HT.out, mstep_snoc, if_neg e2, spans_append, spans_one, List.length_append, List.length_append]; exact hown2, hx3⟩
              case measure => simp [intOf]; omega
            · have e2 : q.t = s.f := by simpa using e1
              have E2 := Lib.hid e2
              clear e1 e2
              have hx3 := hx2.setCell (p := ⟨g0, m * 2 + 1, none⟩) hgb (.int .i64 s.t)
              have h3 := (hown1.stored (m * 2 + 1) (.int .i64 s.t)).1
              obtain rfl := HK.out
              rw [spans_set] at h3
              go_wp2
              go_roundw
              case rel => exact ⟨k + 1, by omega, by go_num, by rw [HT.out, mstep_snoc, if_pos E2.out, List.length_append]; exact h3, hx3⟩
              case measure => simp [intOf]; omega
      · have HT0 : Hid (mrg T2 = mstep L ⟨s.f, s.t⟩) := Lib.hid (by rw [hts]; show mrg (T ++ _) = _; rw [mrg_snoc, hL])
        have HT := Lib.hid (HT2.out ▸ HT0.out : mrg (selS (fun r => true || r.v == v0) (RR.take (k + 1))) = mstep L ⟨s.f, s.t⟩)
        clear hts hL HT0 HT2
        rcases List.eq_nil_or_concat L with rfl | ⟨L, q, rfl⟩
        · replace hown : wr.ownsRow w1.heap.size 34 2 _ 0 [] := hown
          obtain ⟨A', c', rfl, _⟩ := own_shape hown
          clear hlen
          go_wp2
          refine wp_region_ext_lit (by kernel_rfl) (by kernel_rfl) ?_
          intro X _ g hg hg'
          repeat (go_big_quiet_step (fail))
          refine wpQuiet_nil ?_
          rintro w' ⟨n, rfl⟩
          have c0 := (hg n).cell (p := ⟨wr.heap.size, 0, none⟩) (u := .int .i64 s.f) (by simp)
          have c1 := (hg n).cell (p := ⟨wr.heap.size, 1, none⟩) (u := .int .i64 s.t) (by simp)
          have hxa := ((Ext.refl wr).alloc _).trans (hg n)
          have hx2 := hx1r.trans hxa
          have hown1 := ownsRow_ext hown hxa
          have hb2 := hx2.size
          clear hg hg' hown p0 p1 p2 hx1r hxa
          go_wp2_with (at_builtin; refine wpList_append_new _ rfl _ _ 63 rfl w1.heap.size 34 _ 2 16 Try.underlying63 infoSpan rfl (by omega) _ 0 [] rfl hown1 1 1 _ (by simp) _ rfl rfl (by simp [Value.oneCell']) (by simp [maxLen]) (by omega) hb2 ?_; intro v1 w19 hown2 hm)
          have hx3 := ext_moved hx2 hown1 hm
          go_roundw
          case rel => exact ⟨k + 1, by omega, by go_num, by rw [HT.out, mstep_nil]; exact hown2, hx3⟩
          case measure => simp [intOf]; omega
        · rw [List.concat_eq_append] at *
          have hl2 : (L ++ [q]).length = L.length + 1 := by simp
          rw [hl2] at hown hlen
          obtain ⟨g0, cap, rfl, _⟩ := hown.form (by omega)
          generalize hk : L.length = m at *
          have hq1 : wr.cell? ⟨g0, m * 2 + 1, none⟩ = some (.int .i64 q.t) := by rw [hown.cellAt _ (by omega), ← hk]; exact spans_at L q 1
          have HK := Lib.hid hk
          have hne : g0 ≠ wr.heap.size := fun e => by have := block_of_cell hq1; simp only at this; omega
          have hgb : w1.heap.size ≤ g0 := own_base hown rfl
          clear hk hl2
          cases e1 : (q.t == s.f)
          all_goals
            go_wp2
            refine wp_region_ext_lit (by kernel_rfl) (by kernel_rfl) ?_
            intro X _ g hg hg'
            have c1 : ∀ n, (g n).cell? ⟨g0, m * 2 + 1, none⟩ = some (.int .i64 q.t) := fun n => ((Ext.refl wr).alloc _ |>.trans (hg n)).cell hq1
            have d0 : ∀ n, (g n).cell? ⟨wr.heap.size, 0, none⟩ = some (.int .i64 s.f) := fun n => (hg n).cell (by simp)
            have d1 : ∀ n, (g n).cell? ⟨wr.heap.size, 1, none⟩ = some (.int .i64 s.t) := fun n => (hg n).cell (by simp)
            repeat (go_big_quiet_step (fail))
            refine wpQuiet_nil ?_
            rintro w' ⟨n, rfl⟩
            have hxa := ((Ext.refl wr).alloc _).trans (hg n)
            have hx2 := hx1r.trans hxa
            have hown1 := ownsRow_ext hown hxa
            have hb2 := hx2.size
            replace c1 := c1 n
            replace d0 := d0 n
            replace d1 := d1 n
            have fz : (g n).frozen? ⟨g0, m * 2 + 1, none⟩ = false := hown1.frozenAt _
            clear hg hg' hown p0 p1 p2 hq1 hx1r hxa
            generalize g n = wg at *
            generalize wr.heap.size = xb at *
          · have e2 : ¬ q.t = s.f := by simpa using e1
            clear e1
            go_wp2_with (at_builtin; refine wpList_append_new _ rfl _ _ 63 rfl w1.heap.size 34 _ 2 16 Try.underlying63 infoSpan rfl (by omega) (.slice (some ⟨g0, 0, none⟩) (m + 1) cap) _ _ rfl hown1 1 1 _ (by simp) _ rfl rfl (by simp [Value.oneCell']) (by simp [maxLen]; omega) (by omega) hb2 ?_; intro v1 w19 hown2 hm)
            have hx3 := ext_moved hx2 hown1 hm
            obtain rfl := HK.out
            go_roundw
            case rel => exact ⟨k + 1, by omega, by go_num, by rw [HT.out, mstep_snoc, if_neg e2, spans_append, spans_one, List.length_append, List.length_append]; exact hown2, hx3⟩
            case measure => simp [intOf]; omega
          · have e2 : q.t = s.f := by simpa using e1
            have E2 := Lib.hid e2
            clear e1 e2
            have hx3 := hx2.setCell (p := ⟨g0, m * 2 + 1, none⟩) hgb (.int .i64 s.t)
            have h3 := (hown1.stored (m * 2 + 1) (.int .i64 s.t)).1
            obtain rfl := HK.out
            rw [spans_set] at h3
            go_wp2
            go_roundw
            case rel => exact ⟨k + 1, by omega, by go_num, by rw [HT.out, mstep_snoc, if_pos E2.out, List.length_append]; exact h3, hx3⟩
            case measure => simp [intOf]; omega
    · obtain rfl : k = RR.length := by omega
      rw [List.take_length] at hown
      go_wp2
      go_ret
      exact ⟨_, rfl, hown.rebase hx1.size, hx1.trans hx1r⟩
end Go.Proofs.Ytjiabibnbpjhaaa.Rg
