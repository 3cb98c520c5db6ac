/- The contracts of All and End. -/
import Derived.Test.YtaanbgagdanalaaLeave
namespace Go.Proofs.Ytaanbgagdanalaa
open Go.RowKit

def heads (l : List Fl) : List Value := l.flatMap headOf
theorem heads_take {l : List Fl} {k : Nat} (h : k < l.length) : heads (l.take (k + 1)) = heads (l.take k) ++ headOf l[k] := by
  rw [List.take_succ_eq_append_getElem h]
  unfold heads
  simp only [List.flatMap_append, List.flatMap_cons, List.flatMap_nil, List.append_nil]
theorem heads_length (l : List Fl) : (heads l).length = l.length * 14 := by
  induction l with
  | nil => rfl
  | cons f l ih => simp [heads, headOf] at ih ⊢; omega
theorem heads_get (l : List Fl) (k j : Nat) (h : k < l.length) (hj : j < 14) : (heads l)[k * 14 + j]? = (headOf l[k])[j]? := by
  induction l generalizing k with
  | nil => simp at h
  | cons r l ih =>
    have e : heads (r :: l) = headOf r ++ heads l := by simp [heads]
    have hl : (headOf r).length = 14 := rfl
    rw [e]
    rcases k with _ | k
    · rw [List.getElem?_append_left (by rw [hl]; omega)]
      simp
    · rw [List.getElem?_append_right (by rw [hl]; omega), hl, show (k + 1) * 14 + j - 14 = k * 14 + j from by omega, ih k (by simpa using h)]
      simp

/-- A list of flights in memory of the call's own. -/
def FlsPost (w : World) (l : List Fl) (e : Ending) (w' : World) : Prop := ∃ v, e = .returned v ∧ w'.ownsRow w.heap.size 30 14 v l.length (heads l) ∧ Ext w w'

set_option maxHeartbeats 1000000 in
set_option maxRecDepth 100000 in
theorem all_calls (N tb : Nat) (O : List Nat) (t : Tab) (w : World) (h : TabR N w tb O t) (hs : Small t) :
    Calls Try.prog 13 #[.pointer (some ⟨tb, 0, none⟩)] w (FlsPost w t.l) := by
  obtain ⟨lv, ys, hT, el, rfl⟩ := h
  obtain ⟨s1, s2, s2', s3, s4⟩ := hs
  rw [el] at s1
  rw [el]
  have hl : ys.length ≤ 1000 := by simpa using s1
  obtain ⟨A, c, e, hc, hrow⟩ := hT.shape
  have c0 := hT.c0
  rw [e] at c0
  have HT := Lib.hid hT
  clear s1 s3 s4 el e hT
  go_enter Try.func13, Try.ntmps13
  go_wp2
  go_loopw [3, 11] (fun o i wr => ∃ k : Nat, k ≤ ys.length ∧ i = .int .i64 k ∧ wr.ownsRow w.heap.size 30 14 o k (heads ((ys.map Fy.f).take k)) ∧ Ext w wr) (fun _ i _ => ys.length - (intOf i).toNat)
  case atStart => exact ⟨0, Nat.zero_le _, rfl, World.ownsRow_nil _ _ _ _, Ext.refl _⟩
  case round =>
    obtain ⟨k, hk, rfl, hown, hx⟩ := hrel
    by_cases hlt : k < ys.length
    · obtain ⟨g, rfl, hcell⟩ := hrow k hlt
      have hy := (HT.out.all k hlt).keep (C := []) (Turn.of_ext hx) (fun _ _ a => by cases a)
      replace hcell := hx.cell hcell
      have hstep := heads_take (l := ys.map Fy.f) (k := k) (by simpa using hlt)
      rw [List.getElem_map] at hstep
      obtain ⟨y, hyy⟩ : ∃ y, ys[k] = y := ⟨_, rfl⟩
      rw [hyy] at hy hcell hstep
      have c0 := hy.cell 0 (u := .int .i64 y.f.id) rfl
      have c1 := hy.cell 1 (u := .string y.f.obj) rfl
      have c2 := hy.cell 2 (u := .int .i64 y.f.fr) rfl
      have c3 := hy.cell 3 (u := .int .i64 y.f.to) rfl
      have c4 := hy.cell 4 (u := .string y.f.mt) rfl
      have c5 := hy.cell 5 (u := .bool y.f.mw) rfl
      have c6 := hy.cell 6 (u := .string y.f.nt) rfl
      have c7 := hy.cell 7 (u := .bool y.f.nw) rfl
      have c8 := hy.cell 8 (u := .int .i64 y.f.en) rfl
      have c9 := hy.cell 9 (u := .int .i64 y.f.sa) rfl
      have c10 := hy.cell 10 (u := .int .i64 y.f.mo) rfl
      have c11 := hy.cell 11 (u := .int .i64 y.f.ge) rfl
      have c12 := hy.cell 12 (u := .int .i64 y.f.pl) rfl
      have c13 := hy.cell 13 (u := .bool y.f.he) rfl
      have HS := Lib.hid hstep
      have HX := Lib.hid hx
      have hsz := hx.size
      clear hyy hstep hx hy hrow
      obtain ⟨L, hL⟩ : ∃ L, heads ((ys.map Fy.f).take k) = L := ⟨_, rfl⟩
      rw [hL] at hown HS
      clear hL
      obtain ⟨A3, c3, rfl, _⟩ := own_shape hown
      go_wp2_with (at_builtin; refine wpList_append_new _ rfl _ _ 38 rfl w.heap.size 30 _ 14 136 Try.underlying38 info30 rfl (by omega) _ k _ rfl hown 1 1 _ rfl _ rfl rfl (by simp [Value.oneCell']) (by simp [maxLen]; omega) (by omega) hsz ?_; intro v1 w3 hown2 hm2)
      have hx3 := ext_moved HX.out hown hm2
      go_roundw
      case rel =>
        refine ⟨k + 1, by omega, by go_num, ?_, hx3⟩
        rw [HS.out]
        exact hown2
      case measure => simp [intOf] <;> omega
    · obtain rfl : k = ys.length := by omega
      have e1 : (ys.map Fy.f).take ys.length = ys.map Fy.f := List.take_of_length_le (by simp)
      rw [e1] at hown
      have HO := Lib.hid hown
      obtain ⟨A3, c3, rfl, _⟩ := own_shape hown
      clear hown
      go_wp2
      go_ret
      exact ⟨_, rfl, by simpa using HO.out, hx⟩

theorem TabAt.erase {N : Nat} {w w' : World} {tb : Nat} {lv lv' : Value} {ys : List Fy} {last : Int} (h : TabAt N w tb lv ys last) {i : Nat} (hi : i < ys.length)
    (hb : w'.heap[tb]? = some (.cells #[lv', .int .i64 last] 87 (0, 0))) (ht : Turn (tb :: ob lv) w w') (ho : ob lv' = ob lv) (hr : w'.ownsRow N 89 1 lv' (ys.length - 1) ((ys.eraseIdx i).map fun y => Value.pointer (some ⟨y.b, 0, none⟩))) :
    TabAt N w' tb lv' (ys.eraseIdx i) last ∧ (∀ x ∈ ownT tb lv' (ys.eraseIdx i), x ∈ ownT tb lv ys) ∧ Apart ys[i].own (ownT tb lv' (ys.eraseIdx i)) := by
  have hlen : (ys.eraseIdx i).length = ys.length - 1 := List.length_eraseIdx_of_lt hi
  have hget : ∀ j (hj : j < (ys.eraseIdx i).length), ∃ m, ∃ hm : m < ys.length, (ys.eraseIdx i)[j] = ys[m] ∧ m ≠ i ∧ m = (if j < i then j else j + 1) := fun j hj => by
    rw [hlen] at hj
    rw [List.getElem_eraseIdx]
    by_cases hji : j < i
    · exact ⟨j, by omega, by simp [hji], by omega, by simp [hji]⟩
    · exact ⟨j + 1, by omega, by simp [hji], by omega, by simp [hji]⟩
  refine ⟨⟨h.low, hb, by rw [hlen]; exact hr, ?_, by rw [ho]; exact h.d1, ?_, ?_⟩, ?_, ?_⟩
  · intro j hj
    obtain ⟨m, hm, e, _, _⟩ := hget j hj
    rw [e]
    exact (h.all m hm).keep ht (h.d2 m hm)
  · intro j hj
    obtain ⟨m, hm, e, _, _⟩ := hget j hj
    rw [e, ho]
    exact h.d2 m hm
  · intro j k hj hk hjk
    obtain ⟨m, hm, e, _, e2⟩ := hget j hj
    obtain ⟨m', hm', e', _, e2'⟩ := hget k hk
    rw [e, e']
    refine h.d3 m m' hm hm' fun e3 => ?_
    rw [e2, e2'] at e3
    split at e3 <;> split at e3 <;> omega
  · intro x hx
    rcases mem_ownT.1 hx with rfl | hx | ⟨j, hj, hx⟩
    · exact mem_ownT.2 (.inl rfl)
    · exact mem_ownT.2 (.inr (.inl (by rwa [ho] at hx)))
    · obtain ⟨m, hm, e, _, _⟩ := hget j hj
      rw [e] at hx
      exact mem_ownT.2 (.inr (.inr ⟨m, hm, hx⟩))
  · intro x hx hx2
    rcases mem_ownT.1 hx2 with rfl | hx2 | ⟨j, hj, hx2⟩
    · exact h.d2 i hi _ hx (List.mem_cons_self ..)
    · rw [ho] at hx2
      exact h.d2 i hi _ hx (List.mem_cons_of_mem _ hx2)
    · obtain ⟨m, hm, e, hne, _⟩ := hget j hj
      rw [e] at hx2
      exact h.d3 i m hi hm (fun e => hne e.symm) x hx hx2

def EndPost (N : Nat) (w : World) (tb : Nat) (O : List Nat) (t' : Tab) (l : List Int) (ok : Bool) (e : Ending) (w' : World) : Prop :=
  ∃ v O', e = .returned (.tuple #[v, .bool ok]) ∧ w'.ownsRow N 3 1 v l.length (l.map (Value.int .i64)) ∧ TabR N w' tb O' t' ∧ Turn O w w' ∧ (∀ x ∈ O', x ∈ O) ∧ Apart (ob v) O' ∧ ∀ x ∈ ob v, x ∈ O

set_option maxHeartbeats 1000000 in
set_option maxRecDepth 100000 in
theorem end_calls (N tb : Nat) (O : List Nat) (t : Tab) (id : Int) (w : World) (h : TabR N w tb O t) (hs : Small t) :
    Calls Try.prog 14 #[.pointer (some ⟨tb, 0, none⟩), .int .i64 id] w (EndPost N w tb O (t.end_ id).1 (t.end_ id).2.1 (t.end_ id).2.2) := by
  have h0 := h
  obtain ⟨lv, ys, hT, el, rfl⟩ := h
  obtain ⟨s1, s2, s2', s3, s4⟩ := hs
  rw [el] at s1 s3 s4
  have hl : ys.length ≤ 1000 := by simpa using s1
  have hf := place_calls N tb lv ys t.last id w hT (by omega) s3
  cases hh : hitY ys id
  · obtain ⟨p1, p2⟩ := hit_none s3 hh
    have hj : t.end_ id = (t, [], false) := by simp [Tab.end_, el, p1]
    rw [hj]
    have hp : EndPost N w tb (ownT tb lv ys) t [] false (.returned (.tuple #[.slice none 0 0, .bool false])) w :=
      ⟨_, _, rfl, World.ownsRow_nil _ _ _ _, h0, Turn.refl _ _, fun _ h => h, fun x hx => by simp [ob, Value.ownBlock] at hx, fun x hx => by simp [ob, Value.ownBlock] at hx⟩
    have HP := Lib.hid hp
    rw [hh] at hf
    clear hp hj hT h0 s1 s3 s4 el p1 p2 hh
    generalize lowsY ys id = q at *
    go_enter Try.func14, Try.ntmps14
    go_wp2_with fail
    refine hf.mono ?_
    rintro e w1 ⟨rfl, rfl⟩
    go_wp2
    exact bodyPost_ret (v := .tuple #[.slice none 0 0, .bool false]) (by simp [results, Try.results14, go_sem]) rfl HP.out
  · obtain ⟨i, hi, p0, p1, p2⟩ := hit_some s3 hh
    rw [p0, hh] at hf
    have hy := hT.all i hi
    have hj : t.end_ id = (⟨t.l.eraseIdx i, t.last⟩, ys[i].f.who, true) := by simp only [Tab.end_, el, p1, map_get hi]
    rw [hj]
    obtain ⟨g, cap, hv, hg, hcc, hcm, hob⟩ := row_some hT.row (by omega)
    have hrowT := hT.row
    rw [hv] at hrowT
    have e1 : (ys.map fun y => Value.pointer (some ⟨y.b, 0, none⟩)) = (ys.map Fy.b).map fun b => encP (some b) := by rw [List.map_map]; rfl
    rw [e1] at hrowT
    have hd := delP_calls N g cap i (ys.map Fy.b) w (by simpa using hrowT) (by simpa using hi)
    have e2 : ((ys.map Fy.b).eraseIdx i).map (fun b => encP (some b)) = (ys.eraseIdx i).map fun y => Value.pointer (some ⟨y.b, 0, none⟩) := by
      rw [List.eraseIdx_eq_take_drop_succ, List.eraseIdx_eq_take_drop_succ]
      simp [encP]
      rfl
    rw [e2, List.length_map] at hd
    obtain ⟨A, c, hA, _, hrow⟩ := hT.shape
    rw [hv] at hA
    injection hA with hA hA2 hA3
    subst hA hA3
    clear hA2
    obtain ⟨g', eg, hcell⟩ := hrow i hi
    obtain rfl : g = g' := by injection eg with eg; injection eg
    have c15 := hy.cell 15 (u := ys[i].v) rfl
    have c0 := hT.c0
    rw [hv] at c0
    have z0 : ∀ w1, Turn [g] w w1 → w1.heap[tb]? = some (.cells #[lv, .int .i64 t.last] 87 (0, 0)) := fun w1 a => a.blk hT.blk (by simp; intro e; exact hT.d1 (by rw [hob]; simp [e]))
    have hp : ∀ w1, w1.ownsRow N 89 1 (.slice (some ⟨g, 0, none⟩) (ys.length - 1) cap) (ys.length - 1) ((ys.eraseIdx i).map fun y => Value.pointer (some ⟨y.b, 0, none⟩)) → Turn [g] w w1 →
        ∀ v, v = ys[i].v ∨ v = .slice none 0 0 ∧ ys[i].f.who.length = 0 → EndPost N w tb (ownT tb lv ys) ⟨t.l.eraseIdx i, t.last⟩ ys[i].f.who true (.returned (.tuple #[v, .bool true])) (w1.setCell ⟨tb, 0, none⟩ (.slice (some ⟨g, 0, none⟩) (ys.length - 1) cap)) := fun w1 a1 a2 v hv2 => by
      have hgt : tb ≠ g := fun e => hT.d1 (by rw [hob]; simp [e])
      have ht2 : Turn (tb :: ob lv) w (w1.setCell ⟨tb, 0, none⟩ (.slice (some ⟨g, 0, none⟩) (ys.length - 1) cap)) :=
        (a2.mono fun x hx _ => by rw [hob]; exact List.mem_cons_of_mem _ hx).setCell (p := ⟨tb, 0, none⟩) (fun _ => List.mem_cons_self ..) _
      obtain ⟨b1, b2, b3⟩ := hT.erase hi (lv' := .slice (some ⟨g, 0, none⟩) (ys.length - 1) cap) (heap_set_same (o := 0) (z0 w1 a2) _) ht2 (by rw [hob]; rfl)
        (((Turn.refl [tb] w1).setCell (p := ⟨tb, 0, none⟩) (fun _ => by simp) _).row a1 fun x hx => by simp [ob, Value.ownBlock] at hx; subst hx; simpa using hgt.symm)
      refine ⟨v, _, rfl, ?_, ⟨_, _, b1, ?_, rfl⟩, ht2.mono (fun x hx _ => ?_), b2, ?_, ?_⟩
      · rcases hv2 with rfl | ⟨rfl, h0⟩
        · exact ht2.row hy.row fun x hx => hT.d2 i hi x (List.mem_cons_of_mem _ hx)
        · have : ys[i].f.who = [] := List.eq_nil_of_length_eq_zero h0
          rw [this]
          exact World.ownsRow_nil _ _ _ _
      · rw [el, List.eraseIdx_eq_take_drop_succ, List.eraseIdx_eq_take_drop_succ]; simp
      · rcases List.mem_cons.1 hx with rfl | hx
        · exact mem_ownT.2 (.inl rfl)
        · exact mem_ownT.2 (.inr (.inl hx))
      · rcases hv2 with rfl | ⟨rfl, _⟩
        · exact fun x hx => b3 x (List.mem_cons_of_mem _ hx)
        · exact fun x hx => by simp [ob, Value.ownBlock] at hx
      · rcases hv2 with rfl | ⟨rfl, _⟩
        · exact fun x hx => mem_ownT.2 (.inr (.inr ⟨i, hi, List.mem_cons_of_mem _ hx⟩))
        · exact fun x hx => by simp [ob, Value.ownBlock] at hx
    have HP := Lib.hid hp
    have HZ := Lib.hid z0
    obtain ⟨_, A2, c2, hv2, _, _⟩ := row_ints hy.row
    have HV := Lib.hid hv2
    rw [hv2] at c15
    clear hp z0 hj hT h0 s1 s3 s4 el p0 p1 p2 hh hy hrow hrowT e1 e2 hv2 hv hob
    obtain ⟨y, hyy⟩ : ∃ y, ys[i] = y := ⟨_, rfl⟩
    rw [hyy] at HP HV c15 hcell ⊢
    clear hyy
    obtain ⟨n, hn⟩ : ∃ n, ys.length = n := ⟨_, rfl⟩
    rw [hn] at hd HP c0 hi
    obtain ⟨m, hm⟩ : ∃ m, n - 1 = m := ⟨_, rfl⟩
    rw [hm] at hd HP
    obtain ⟨lw, hlw⟩ : ∃ lw, y.f.who.length = lw := ⟨_, rfl⟩
    rw [hlw] at HP HV c15
    clear hn hm hlw
    have w1 : IntKind.i64.wrap ((i : Int) + 1) = (i : Int) + 1 := IntWalk.i64_in _ (by omega)
    cases e3 : decide (lw = 0)
    all_goals
      have e4 : decide ((lw : Int) = 0) = decide (lw = 0) := by simp
      rw [e3] at e4
      have e5 : ((lw : Int) == 0) = decide ((lw : Int) = 0) := by rw [Bool.eq_iff_iff]; simp
      rw [e4] at e5
      simp only [decide_eq_true_eq, decide_eq_false_iff_not] at e3
      have E3 := Lib.hid e3
      clear e3
      go_enter Try.func14, Try.ntmps14
      go_wp2_with fail
      refine hf.mono ?_
      rintro e w1 ⟨rfl, rfl⟩
      go_wp2_with fail
      refine hd.mono ?_
      rintro e w3 ⟨rfl, d1, d2⟩
      have f0 := HZ.out w3 d2
      have z0 : w3.frozen? ⟨tb, 0, none⟩ = false := by simp [World.frozen?, f0]
      have f1 : w3.cell? ⟨tb, 0, none⟩ = some lv := by rw [cell_of_row w3 tb 0 _ _ _ f0]; rfl
      have HD := Lib.hid (HP.out w3 d1 d2)
      clear d1 d2 f0
      go_wp2
    · exact bodyPost_ret (v := .tuple #[.slice A2 lw c2, .bool true]) (by simp [results, Try.results14, go_sem]) rfl (HD.out _ (.inl HV.out.symm))
    · exact bodyPost_ret (v := .tuple #[.slice none 0 0, .bool true]) (by simp [results, Try.results14, go_sem]) rfl (HD.out _ (.inr ⟨rfl, E3.out⟩))
end Go.Proofs.Ytaanbgagdanalaa
