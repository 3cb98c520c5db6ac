/- The contract of the reference's Leave. -/
import Derived.Test.YtaanbgagdanalaaRQuit
import Derived.Test.YtaanbgagdanalaaRNums
namespace Go.Proofs.Ytaanbgagdanalaa
open Go.RowKit

theorem place_ids (l : List Fl) (id : Int) : place l id = (l.map Fl.id).findIdx? (· == id) := by
  unfold place
  rw [List.findIdx?_map]
  rfl
theorem left_ids (l : List Fl) (q : Int) (k : Nat) : (left l q k).map Fl.id = l.map Fl.id := by
  have e : (Fl.id ∘ fun f : Fl => (f.quit q).1) = Fl.id := by funext f; exact quit_id f q
  unfold left
  rw [List.map_append, List.map_map, e, ← List.map_append, List.take_append_drop]
theorem place_at {l : List Fl} {last : Int} (h : Rising l last) {k : Nat} (hk : k < l.length) : place l l[k].id = some k := by
  refine List.findIdx?_eq_some_iff_getElem.2 ⟨hk, by simp, fun j hj => ?_⟩
  have := rising_lt h hj hk
  rw [getElem!_pos l j (by omega), getElem!_pos l k hk] at this
  simp; omega
theorem left_length (l : List Fl) (q : Int) (k : Nat) : (left l q k).length = l.length := by
  have := congrArg List.length (left_ids l q k)
  simpa using this
theorem fine_quit {f : Fl} (h : Fine f) (q : Int) : Fine (f.quit q).1 := by
  unfold Fl.quit
  split
  · exact ⟨Nat.le_trans (List.length_erase_le ..) h.1, h.2.1.erase q, h.2.2⟩
  · exact h
theorem small_left {l : List Fl} {last : Int} (h : Small ⟨l, last⟩) (q : Int) (k : Nat) : Small ⟨left l q k, last⟩ := by
  obtain ⟨s1, s2, s3, s4, s5⟩ := h
  refine ⟨by rw [left_length]; exact s1, s2, s3, ⟨?_, ?_⟩, ?_⟩
  · rw [left_ids]; exact s4.1
  · intro f hf
    have : f.id ∈ l.map Fl.id := by rw [← left_ids l q k]; exact List.mem_map_of_mem hf
    obtain ⟨g, hg, e⟩ := List.mem_map.1 this
    rw [← e]; exact s4.2 g hg
  · intro f hf
    unfold left at hf
    rcases List.mem_append.1 hf with hf | hf
    · obtain ⟨g, hg, rfl⟩ := List.mem_map.1 hf
      exact fine_quit (s5 g (List.mem_of_mem_take hg)) q
    · exact s5 f (List.mem_of_mem_drop hf)
theorem left_get {l : List Fl} {q : Int} {k : Nat} (h : k < l.length) : (left l q k)[k]'(by rw [left_length]; exact h) = l[k] := by
  have := left_at (q := q) h
  rw [List.getElem?_eq_getElem (by rw [left_length]; exact h)] at this
  exact Option.some.inj this
theorem quit_left {l : List Fl} {last : Int} (hr : Rising l last) (q : Int) {k : Nat} (h : k < l.length) : (Tab.mk (left l q k) last).quit l[k].id q = (⟨left l q (k + 1), last⟩, (l[k].quit q).2) := by
  have hp : place (left l q k) l[k].id = some k := by rw [place_ids, left_ids, ← place_ids, place_at hr h]
  have hg : (left l q k)[k]! = l[k] := by rw [getElem!_pos _ k (by rw [left_length]; exact h), left_get h]
  simp only [Tab.quit, hp, hg, left_succ h]

def LeavePostR (N : Nat) (w : World) (tb : Nat) (O : List Nat) (t' : Tab) (l : List Int) (e : Ending) (w' : World) : Prop :=
  ∃ v O', e = .returned v ∧ w'.ownsRow w.heap.size 2 1 v l.length (l.map (Value.int .i64)) ∧ RTabR N w' tb O' t' ∧ Turn O w w' ∧ Of O O' w ∧ Apart (ob v) O'

set_option maxHeartbeats 2000000 in
set_option maxRecDepth 100000 in
theorem leaveR_calls (N tb : Nat) (lv : Value) (O : List Nat) (t : Tab) (q : Int) (w : World) (h : RTabL N w tb lv O t) (hN : N ≤ w.heap.size) (hs : Small t) :
    Calls Try.prog 46 #[.pointer (some ⟨tb, 0, none⟩), .int .i64 q] w (LeavePostR N w tb O (t.leave q).1 (t.leave q).2) := by
  obtain ⟨c0, A, c, rfl, hr0⟩ := h.rowk
  clear hr0
  obtain ⟨l, last⟩ := t
  dsimp only at c0
  unfold Tab.leave
  dsimp only
  have s1 := hs.1
  dsimp only at s1
  have HSM := Lib.hid hs
  have HL0 := Lib.hid h
  clear h hs
  dsimp only at HL0
  go_enter Try.func46, Try.ntmps46
  go_wp2
  go_loopw [5, 13] (fun o i wr => ∃ (k : Nat) (O' : List Nat), k ≤ l.length ∧ i = .int .i64 k ∧ wr.ownsRow w.heap.size 2 1 o (((l.take k).filter fun f => (f.quit q).2).map Fl.id).length ((((l.take k).filter fun f => (f.quit q).2).map Fl.id).map (Value.int .i64)) ∧
    RTabL N wr tb (.slice A l.length c) O' ⟨left l q k, last⟩ ∧ Turn O w wr ∧ Of O O' w ∧ Apart (ob o) O') (fun _ i _ => l.length - (intOf i).toNat)
  case atStart => exact ⟨0, O, Nat.zero_le _, rfl, World.ownsRow_nil _ _ _ _, by rw [left_zero]; exact HL0.out, Turn.refl _ _, Of.refl _ _, fun x hx => by simp [ob, Value.ownBlock] at hx⟩
  case round =>
    obtain ⟨k, O', hk, rfl, hown, hT, htu, hof, hap⟩ := hrel
    by_cases hlt : k < l.length
    · obtain ⟨hc0, A1, c1, e1, hrow⟩ := hT.rowk
      injection e1 with e1 e2 e3
      subst e1
      clear e2 e3 hc0
      have hkl : k < (left l q k).length := by rw [left_length]; exact hlt
      obtain ⟨g, A2, c2, rfl, hro, hri⟩ := hrow k hkl
      rw [show (Tab.mk (left l q k) last).l[k] = l[k] from left_get hlt] at hro hri
      have hstep := take_filter hlt fun f => (f.quit q).2
      have hqu := quit_left HSM.out.2.2.2.1 q hlt
      have hlen : (((l.take k).filter fun f => (f.quit q).2).map Fl.id).length ≤ 1000 := by
        rw [List.length_map]
        refine Nat.le_trans (List.length_filter_le _ _) ?_
        simp; omega
      have hsm := small_left HSM.out q k
      obtain ⟨f, hff⟩ : ∃ f, l[k] = f := ⟨_, rfl⟩
      rw [hff] at hro hri hstep hqu
      have q0 : wr.cell? ⟨g, k * 16, none⟩ = some (.int .i64 f.id) := hro 0 _ rfl
      have q1 : wr.cell? ⟨g, k * 16 + 1, none⟩ = some (.string f.obj) := hro 1 _ rfl
      have q2 : wr.cell? ⟨g, k * 16 + 2, none⟩ = some (.int .i64 f.fr) := hro 2 _ rfl
      have q3 : wr.cell? ⟨g, k * 16 + 3, none⟩ = some (.int .i64 f.to) := hro 3 _ rfl
      have q4 : wr.cell? ⟨g, k * 16 + 4, none⟩ = some (.string f.mt) := hro 4 _ rfl
      have q5 : wr.cell? ⟨g, k * 16 + 5, none⟩ = some (.bool f.mw) := hro 5 _ rfl
      have q6 : wr.cell? ⟨g, k * 16 + 6, none⟩ = some (.string f.nt) := hro 6 _ rfl
      have q7 : wr.cell? ⟨g, k * 16 + 7, none⟩ = some (.bool f.nw) := hro 7 _ rfl
      have q8 : wr.cell? ⟨g, k * 16 + 8, none⟩ = some (.int .i64 f.en) := hro 8 _ rfl
      have q9 : wr.cell? ⟨g, k * 16 + 9, none⟩ = some (.int .i64 f.sa) := hro 9 _ rfl
      have q10 : wr.cell? ⟨g, k * 16 + 10, none⟩ = some (.int .i64 f.mo) := hro 10 _ rfl
      have q11 : wr.cell? ⟨g, k * 16 + 11, none⟩ = some (.int .i64 f.ge) := hro 11 _ rfl
      have q12 : wr.cell? ⟨g, k * 16 + 12, none⟩ = some (.int .i64 f.pl) := hro 12 _ rfl
      have q13 : wr.cell? ⟨g, k * 16 + 13, none⟩ = some (.int .i64 f.stop) := hro 13 _ rfl
      have q14 : wr.cell? ⟨g, k * 16 + 14, none⟩ = some (.int .i64 (heI f)) := hro 14 _ rfl
      have q15 : wr.cell? ⟨g, k * 16 + 15, none⟩ = some ((.slice A2 f.who.length c2)) := hro 15 _ rfl
      have hq : ∀ W, Ext wr W → Calls Try.prog 48 #[.pointer (some ⟨tb, 0, none⟩), .int .i64 f.id, .int .i64 q] W (RActL N W tb (.slice (some ⟨g, 0, none⟩) l.length c) O' ⟨left l q (k + 1), last⟩ (.int .i64 (bI (f.quit q).2))) := fun W hx => by
        have := quitR_calls N tb (.slice (some ⟨g, 0, none⟩) l.length c) O' ⟨left l q k, last⟩ f.id q W (hT.ext hx) (Nat.le_trans hN (Nat.le_trans htu.size hx.size)) hsm
        rwa [hqu] at this
      obtain ⟨L, hL⟩ : ∃ L, ((l.take k).filter fun f => (f.quit q).2).map Fl.id = L := ⟨_, rfl⟩
      rw [hL] at hown hlen hstep
      obtain ⟨A3, c3, rfl, _⟩ := own_shape hown
      have hnext : ∀ W e w1, Ext wr W → W.cell? ⟨wr.heap.size, 0, none⟩ = some (.int .i64 f.id) → RActL N W tb (.slice (some ⟨g, 0, none⟩) l.length c) O' ⟨left l q (k + 1), last⟩ (.int .i64 (bI (f.quit q).2)) e w1 → e = .returned (.int .i64 (bI (f.quit q).2)) ∧ w1.cell? ⟨wr.heap.size, 0, none⟩ = some (.int .i64 f.id) ∧ w.heap.size ≤ w1.heap.size ∧ ∃ O2, w1.ownsRow w.heap.size 2 1 (.slice A3 L.length c3) L.length (L.map (Value.int .i64)) ∧
          RTabL N w1 tb (.slice (some ⟨g, 0, none⟩) l.length c) O2 ⟨left l q (k + 1), last⟩ ∧ Turn O w w1 ∧ Of O O2 w ∧ Apart (ob (.slice A3 L.length c3)) O2 := fun W e w1 hx hc ⟨a1, O2, a2, a3, a4⟩ => by
        have hlie := (hT.lies)
        refine ⟨a1, a3.cell hc fun e => by have := (hlie _ e).2; simp at this, Nat.le_trans htu.size (Nat.le_trans hx.size a3.size), O2, a3.row (ownsRow_ext hown hx) hap, a2, (htu.ext hx).step a3 hof, ?_, ?_⟩
        · exact hof.trans a4 (Nat.le_trans htu.size hx.size)
        · exact (Apart.of hap.symm a4 (Lies.more (row_lies hown) hx.size)).symm
      have HS := Lib.hid hstep
      have HN := Lib.hid hnext
      have HQ := Lib.hid hq
      clear hff hstep hqu hri hro hrow hL hown hT htu hof hap hsm hnext hq hkl
      go_wp2_with fail
      refine (HQ.out _ ((Ext.refl wr).alloc _)).mono ?_
      intro e w1 h1
      obtain ⟨rfl, ci, hsz, O2, hown, hT2, htu2, hof2, hap2⟩ := HN.out _ _ _ ((Ext.refl wr).alloc _) (by simp) h1
      have HA := Lib.hid (And.intro hT2 (And.intro htu2 (And.intro hof2 hap2)))
      clear h1 hT2 htu2 hof2 hap2 q0 q1 q2 q3 q4 q5 q6 q7 q8 q9 q10 q11 q12 q13 q14 q15
      cases hm : (f.quit q).2
      · have HM := Lib.hid hm
        have eb : bI false = 0 := rfl
        rw [eb]
        clear hm eb
        have HO := Lib.hid hown
        clear hown
        go_wp2
        go_roundw
        case rel =>
          refine ⟨k + 1, O2, by omega, by go_num, ?_, HA.out⟩
          rw [HS.out, HM.out]
          exact HO.out
        case measure => simp [intOf] <;> omega
      · have HM := Lib.hid hm
        have eb : bI true = 1 := rfl
        rw [eb]
        clear hm eb
        go_wp2_with (at_builtin; refine wpList_append_new _ rfl _ _ 43 rfl w.heap.size 2 _ 1 8 Try.underlying43 info2 rfl (by omega) _ L.length _ rfl hown 1 1 _ rfl _ rfl rfl (by simp [Value.oneCell']) (by simp [maxLen]; omega) (by omega) hsz ?_; intro v1 w3 hown2 hm2)
        have HB := Lib.hid (show RTabL N w3 tb (.slice (some ⟨g, 0, none⟩) l.length c) O2 ⟨left l q (k + 1), last⟩ ∧ Turn O w w3 ∧ Of O O2 w ∧ Apart (ob v1) O2 from by
          obtain ⟨b1, b2, b3, b4⟩ := HA.out
          obtain ⟨m1, m2⟩ := moved_turn hm2
          exact ⟨b1.keep m1 b4.symm, b2.step m1 (fun x hx => .inr (row_lies hown x hx).1), b3, Apart.of b4 m2 b1.lies⟩)
        go_roundw
        case rel =>
          refine ⟨k + 1, O2, by omega, by go_num, ?_, HB.out⟩
          rw [HS.out, HM.out]
          simpa using hown2
        case measure => simp [intOf] <;> omega
    · obtain rfl : k = l.length := by omega
      rw [List.take_length] at hown
      rw [left_all] at hT
      have hp : LeavePostR N w tb O ⟨l.map fun f => (f.quit q).1, last⟩ ((l.filter fun f => (f.quit q).2).map Fl.id) (.returned u5) wr :=
        ⟨u5, O', rfl, hown, ⟨_, hT⟩, htu, hof, hap⟩
      have HP := Lib.hid hp
      obtain ⟨A3, c3, rfl, _⟩ := own_shape hown
      clear hown hp htu hT hof hap
      go_wp2
      go_ret
      exact HP.out
end Go.Proofs.Ytaanbgagdanalaa
