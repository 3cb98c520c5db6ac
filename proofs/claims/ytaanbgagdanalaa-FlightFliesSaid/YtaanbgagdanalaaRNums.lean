/- The contracts of the reference's Of, Unheard and Get. -/
import Derived.Test.YtaanbgagdanalaaRJoin
namespace Go.Proofs.Ytaanbgagdanalaa
open Go.RowKit

theorem RTabL.rowk {N : Nat} {w : World} {tb : Nat} {lv : Value} {O : List Nat} {t : Tab} (h : RTabL N w tb lv O t) : w.cell? ⟨tb, 0, none⟩ = some lv ∧ ∃ A c, lv = .slice A t.l.length c ∧ ∀ k (hk : k < t.l.length), ∃ g A2 c2, A = some ⟨g, 0, none⟩ ∧ RowAt w g k t.l[k] (.slice A2 t.l[k].who.length c2) ∧ RowI w A2 t.l[k].who := by
  obtain ⟨ys, hT, el, rfl⟩ := h
  obtain ⟨A, c, e, hc, hrow⟩ := hT.shape
  have hn : t.l.length = ys.length := by rw [el]; simp
  refine ⟨hT.c0, A, c, by rw [hn]; exact e, fun k hk => ?_⟩
  have hk2 : k < ys.length := by omega
  obtain ⟨g, hg, hro, _, _⟩ := hrow k hk2
  have ek : t.l[k] = ys[k].f := by simp [el]
  obtain ⟨_, A2, c2, hv, _, hri⟩ := row_ints (hT.all k hk2)
  rw [ek]
  exact ⟨g, A2, c2, hg, by rw [← hv]; exact hro, hri⟩

set_option maxHeartbeats 2000000 in
set_option maxRecDepth 100000 in
theorem ofR_calls (N tb : Nat) (lv : Value) (O : List Nat) (t : Tab) (q : Int) (w : World) (h : RTabL N w tb lv O t) (hs : Small t) :
    Calls Try.prog 26 #[.pointer (some ⟨tb, 0, none⟩), .int .i64 q] w (NumPost w (t.of q)) := by
  obtain ⟨c0, A, c, rfl, hrow⟩ := h.rowk
  obtain ⟨s1, _, _, _, s4⟩ := hs
  obtain ⟨l, last⟩ := t
  dsimp only at c0 hrow s1 s4
  have HF := Lib.hid s4
  unfold Tab.of
  dsimp only
  clear s4 h
  go_enter Try.func26, Try.ntmps26
  go_wp2
  go_loopw [5, 13] (fun o i wr => ∃ k : Nat, k ≤ l.length ∧ i = .int .i64 k ∧ wr.ownsRow w.heap.size 2 1 o (((l.take k).filter fun f => f.who.contains q).map Fl.id).length ((((l.take k).filter fun f => f.who.contains q).map Fl.id).map (Value.int .i64)) ∧ Ext w wr) (fun _ i _ => l.length - (intOf i).toNat)
  case atStart => exact ⟨0, Nat.zero_le _, rfl, World.ownsRow_nil _ _ _ _, Ext.refl _⟩
  case round =>
    obtain ⟨k, hk, rfl, hown, hx⟩ := hrel
    by_cases hlt : k < l.length
    · obtain ⟨g, A2, c2, rfl, hro, hri⟩ := hrow k hlt
      replace hro := hro.ext hx
      have hfi : Fine l[k] := HF.out _ (List.getElem_mem hlt)
      have hstep := take_filter hlt fun f => f.who.contains q
      have hlen : (((l.take k).filter fun f => f.who.contains q).map Fl.id).length ≤ 1000 := by
        rw [List.length_map]
        refine Nat.le_trans (List.length_filter_le _ _) ?_
        simp; omega
      obtain ⟨f, hff⟩ : ∃ f, l[k] = f := ⟨_, rfl⟩
      rw [hff] at hro hri hfi hstep
      have hwl := hfi.1
      have q0 : wr.cell? ⟨g, k * 16, none⟩ = some (.int .i64 f.id) := hro 0 _ rfl
      have q1 : wr.cell? ⟨g, k * 16 + 1, none⟩ = some (.string f.obj) := hro 1 _ rfl
      have q2 : wr.cell? ⟨g, k * 16 + 2, none⟩ = some (.int .i64 f.fr) := hro 2 _ rfl
      have q3 : wr.cell? ⟨g, k * 16 + 3, none⟩ = some (.int .i64 f.to) := hro 3 _ rfl
      have q4 : wr.cell? ⟨g, k * 16 + 4, none⟩ = some (.string f.mt) := hro 4 _ rfl
      have q5 : wr.cell? ⟨g, k * 16 + 5, none⟩ = some (.bool f.mw) := hro 5 _ rfl
      have q6 : wr.cell? ⟨g, k * 16 + 6, none⟩ = some (.string f.nt) := hro 6 _ rfl
      have q7 : wr.cell? ⟨g, k * 16 + 7, none⟩ = some (.bool f.nw) := hro 7 _ rfl
      have q8 : wr.cell? ⟨g, k * 16 + 8, none⟩ = some (.int .i64 f.en) := hro 8 _ rfl
      have q9 : wr.cell? ⟨g, k * 16 + 9, none⟩ = some (.int .i64 f.sa) := hro 9 _ rfl
      have q10 : wr.cell? ⟨g, k * 16 + 10, none⟩ = some (.int .i64 f.mo) := hro 10 _ rfl
      have q11 : wr.cell? ⟨g, k * 16 + 11, none⟩ = some (.int .i64 f.ge) := hro 11 _ rfl
      have q12 : wr.cell? ⟨g, k * 16 + 12, none⟩ = some (.int .i64 f.pl) := hro 12 _ rfl
      have q13 : wr.cell? ⟨g, k * 16 + 13, none⟩ = some (.int .i64 f.stop) := hro 13 _ rfl
      have q14 : wr.cell? ⟨g, k * 16 + 14, none⟩ = some (.int .i64 (heI f)) := hro 14 _ rfl
      have q15 : wr.cell? ⟨g, k * 16 + 15, none⟩ = some ((.slice A2 f.who.length c2)) := hro 15 _ rfl
      have HS := Lib.hid hstep
      have HX := Lib.hid hx
      have HRI := Lib.hid hri
      have hsz := hx.size
      clear hff hstep hx hri hfi hrow hro
      obtain ⟨L, hL⟩ : ∃ L, ((l.take k).filter fun f => f.who.contains q).map Fl.id = L := ⟨_, rfl⟩
      rw [hL] at hown hlen
      have HL := Lib.hid hL
      clear hL
      obtain ⟨A3, c3, rfl, _⟩ := own_shape hown
      go_wp2_with fail
      refine (waits_calls f A2 c2 q _ (fun k hk => by
        obtain ⟨g, e, h⟩ := HRI.out k hk
        exact ⟨g, e, (HX.out.alloc _).cell h⟩) (by omega)).mono ?_
      rintro e w2 ⟨rfl, x2⟩
      have x3 : Ext wr w2 := (Ext.refl wr).alloc _ |>.trans x2
      have ci : w2.cell? ⟨wr.heap.size, 0, none⟩ = some (.int .i64 f.id) := x2.cell (by simp)
      replace hown := ownsRow_ext hown x3
      have hx2 := HX.out.trans x3
      have HX2 := Lib.hid hx2
      have hsz2 := hx2.size
      clear x2 x3 hx2 q0 q1 q2 q3 q4 q5 q6 q7 q8 q9 q10 q11 q12 q13 q14 q15
      cases hm : decide (q ∈ f.who)
      · have HM := Lib.hid (show f.who.contains q = false by simpa using hm)
        clear hm
        go_wp2
        go_roundw
        case rel =>
          refine ⟨k + 1, by omega, by go_num, ?_, HX2.out⟩
          rw [HS.out, HM.out, HL.out]
          exact hown
        case measure => simp [intOf] <;> omega
      · have HM := Lib.hid (show f.who.contains q = true by simpa using hm)
        clear hm
        go_wp2_with (at_builtin; refine wpList_append_new _ rfl _ _ 43 rfl w.heap.size 2 _ 1 8 Try.underlying43 info2 rfl (by omega) _ L.length _ rfl hown 1 1 _ rfl _ rfl rfl (by simp [Value.oneCell']) (by simp [maxLen]; omega) (by omega) hsz2 ?_; intro v1 w3 hown2 hm2)
        have hx3 := ext_moved HX2.out hown hm2
        go_roundw
        case rel =>
          refine ⟨k + 1, by omega, by go_num, ?_, hx3⟩
          rw [HS.out, HM.out, HL.out]
          simpa using hown2
        case measure => simp [intOf] <;> omega
    · obtain rfl : k = l.length := by omega
      rw [List.take_length] at hown
      have HO := Lib.hid hown
      obtain ⟨A3, c3, rfl, _⟩ := own_shape hown
      clear hown
      go_wp2
      go_ret
      exact ⟨_, rfl, HO.out, hx⟩
end Go.Proofs.Ytaanbgagdanalaa
