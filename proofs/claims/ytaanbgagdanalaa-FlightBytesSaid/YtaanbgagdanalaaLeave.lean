/- The contracts of Of, Leave and All. -/
import Derived.Test.YtaanbgagdanalaaAct
namespace Go.Proofs.Ytaanbgagdanalaa
open Go.RowKit

theorem info2 : (Try.prog.info? 2).map (fun i => (i.zero, i.size, i.bytes)) = some (some (.int .i64 0), 1, 8) := by kernel_rfl
theorem info30 : (Try.prog.info? 30).map (fun i => (i.zero, i.size, i.bytes)) = some (some (.agg #[.int .i64 0, .string ⟨#[]⟩, .int .i64 0, .int .i64 0, .string ⟨#[]⟩, .bool false, .string ⟨#[]⟩, .bool false, .int .i64 0, .int .i64 0, .int .i64 0, .int .i64 0, .int .i64 0, .bool false]), 14, 136) := by kernel_rfl

/-- A list of numbers in memory of the call's own. -/
def NumPost (w : World) (l : List Int) (e : Ending) (w' : World) : Prop := ∃ v, e = .returned v ∧ w'.ownsRow w.heap.size 2 1 v l.length (l.map (Value.int .i64)) ∧ Ext w w'

theorem take_filter {l : List Fl} {k : Nat} (h : k < l.length) (p : Fl → Bool) : ((l.take (k + 1)).filter p).map Fl.id = if p l[k] then ((l.take k).filter p).map Fl.id ++ [l[k].id] else ((l.take k).filter p).map Fl.id := by
  rw [List.take_succ_eq_append_getElem h, List.filter_append]
  cases hp : p l[k] <;> simp [hp]

set_option maxHeartbeats 1000000 in
set_option maxRecDepth 100000 in
theorem of_calls (N tb : Nat) (O : List Nat) (t : Tab) (q : Int) (w : World) (h : TabR N w tb O t) (hs : Small t) :
    Calls Try.prog 16 #[.pointer (some ⟨tb, 0, none⟩), .int .i64 q] w (NumPost w (t.of q)) := by
  obtain ⟨lv, ys, hT, el, rfl⟩ := h
  obtain ⟨s1, s2, s2', s3, s4⟩ := hs
  rw [el] at s1 s4
  unfold Tab.of
  rw [el]
  have hl : ys.length ≤ 1000 := by simpa using s1
  obtain ⟨A, c, e, hc, hrow⟩ := hT.shape
  have c0 := hT.c0
  rw [e] at c0
  have HT := Lib.hid hT
  have HF := Lib.hid s4
  clear s1 s3 s4 el e hT
  go_enter Try.func16, Try.ntmps16
  go_wp2
  go_loopw [5, 13] (fun o i wr => ∃ k : Nat, k ≤ ys.length ∧ i = .int .i64 k ∧ wr.ownsRow w.heap.size 2 1 o ((((ys.map Fy.f).take k).filter fun f => f.who.contains q).map Fl.id).length (((((ys.map Fy.f).take k).filter fun f => f.who.contains q).map Fl.id).map (Value.int .i64)) ∧ Ext w wr) (fun _ i _ => ys.length - (intOf i).toNat)
  case atStart => exact ⟨0, Nat.zero_le _, rfl, World.ownsRow_nil _ _ _ _, Ext.refl _⟩
  case round =>
    obtain ⟨k, hk, rfl, hown, hx⟩ := hrel
    by_cases hlt : k < ys.length
    · obtain ⟨g, rfl, hcell⟩ := hrow k hlt
      have hy := (HT.out.all k hlt).keep (C := []) (Turn.of_ext hx) (fun _ _ a => by cases a)
      have hfi : Fine ys[k].f := HF.out _ (List.mem_map_of_mem (List.getElem_mem hlt))
      replace hcell := hx.cell hcell
      have hstep := take_filter (l := ys.map Fy.f) (k := k) (by simpa using hlt) fun f => f.who.contains q
      rw [List.getElem_map] at hstep
      obtain ⟨y, hyy⟩ : ∃ y, ys[k] = y := ⟨_, rfl⟩
      rw [hyy] at hy hfi hcell hstep
      have c15 := hy.cell 15 (u := y.v) rfl
      have ci := hy.cell 0 (u := .int .i64 y.f.id) rfl
      obtain ⟨_, A2, c2, hv, _, hri⟩ := row_ints hy.row
      have hcon := contains_calls A2 c2 y.f.who q wr (by have := hfi.1; omega) hri
      rw [hv] at c15
      have hlen : ((((ys.map Fy.f).take k).filter fun f => f.who.contains q).map Fl.id).length ≤ 1000 := by
        rw [List.length_map]
        refine Nat.le_trans (List.length_filter_le _ _) ?_
        simp; omega
      have HY := Lib.hid hyy
      have HS := Lib.hid hstep
      have HX := Lib.hid hx
      have hsz := hx.size
      clear hyy hstep hx hy hri hv hfi hrow
      obtain ⟨L, hL⟩ : ∃ L, (((ys.map Fy.f).take k).filter fun f => f.who.contains q).map Fl.id = L := ⟨_, rfl⟩
      rw [hL] at hown hlen
      have HL := Lib.hid hL
      clear hL
      obtain ⟨A3, c3, rfl, _⟩ := own_shape hown
      cases hm : decide (q ∈ y.f.who)
      · have hm' : y.f.who.contains q = false := by simpa using hm
        rw [hm] at hcon
        have HM := Lib.hid hm'
        clear hm hm'
        go_wp2_with fail
        refine hcon.mono ?_
        rintro e w2 ⟨rfl, rfl⟩
        go_wp2
        go_roundw
        case rel =>
          refine ⟨k + 1, by omega, by go_num, ?_, HX.out⟩
          rw [HS.out, HM.out, HL.out]
          exact hown
        case measure => simp [intOf] <;> omega
      · have hm' : y.f.who.contains q = true := by simpa using hm
        rw [hm] at hcon
        have HM := Lib.hid hm'
        clear hm hm'
        go_wp2_with fail
        refine hcon.mono ?_
        rintro e w2 ⟨rfl, rfl⟩
        go_wp2_with (at_builtin; refine wpList_append_new _ rfl _ _ 43 rfl w.heap.size 2 _ 1 8 Try.underlying43 info2 rfl (by omega) _ L.length _ rfl hown 1 1 _ rfl _ rfl rfl (by simp [Value.oneCell']) (by simp [maxLen]; omega) (by omega) hsz ?_; intro v1 w3 hown2 hm2)
        have hx3 := ext_moved HX.out hown hm2
        go_roundw
        case rel =>
          refine ⟨k + 1, by omega, by go_num, ?_, hx3⟩
          rw [HS.out, HM.out, HL.out]
          simpa using hown2
        case measure => simp [intOf] <;> omega
    · obtain rfl : k = ys.length := by omega
      have e1 : (ys.map Fy.f).take ys.length = ys.map Fy.f := List.take_of_length_le (by simp)
      rw [e1] at hown
      have HO := Lib.hid hown
      obtain ⟨A3, c3, rfl, _⟩ := own_shape hown
      clear hown
      go_wp2
      go_ret
      exact ⟨_, rfl, HO.out, hx⟩

/-- What Leave has made of the first k flights. -/
def left (l : List Fl) (q : Int) (k : Nat) : List Fl := (l.take k).map (fun f => (f.quit q).1) ++ l.drop k
theorem left_zero (l : List Fl) (q : Int) : left l q 0 = l := by simp [left]
theorem left_all (l : List Fl) (q : Int) : left l q l.length = l.map fun f => (f.quit q).1 := by simp [left]
theorem left_at {l : List Fl} {q : Int} {k : Nat} (h : k < l.length) : (left l q k)[k]? = some l[k] := by
  unfold left
  rw [List.getElem?_append_right (by simp; omega)]
  simp [Nat.min_eq_left (Nat.le_of_lt h), List.getElem?_drop]
theorem left_succ {l : List Fl} {q : Int} {k : Nat} (h : k < l.length) : (left l q k).set k (l[k].quit q).1 = left l q (k + 1) := by
  unfold left
  rw [List.set_append_right _ _ (by simp; omega), List.take_succ_eq_append_getElem h, List.map_append, List.append_assoc]
  congr 1
  have e : k - ((l.take k).map fun f => (f.quit q).1).length = 0 := by simp; omega
  rw [e, List.drop_eq_getElem_cons h]
  rfl
theorem quit_id (f : Fl) (q : Int) : (f.quit q).1.id = f.id := by unfold Fl.quit; split <;> rfl

def LeavePost (N : Nat) (w : World) (tb : Nat) (O : List Nat) (t' : Tab) (l : List Int) (e : Ending) (w' : World) : Prop :=
  ∃ v O', e = .returned v ∧ w'.ownsRow w.heap.size 2 1 v l.length (l.map (Value.int .i64)) ∧ TabR N w' tb O' t' ∧ Turn O w w' ∧ Of O O' w ∧ Apart (ob v) O'

/-- Where the leaving stands. -/
structure Leaving (N : Nat) (w : World) (tb : Nat) (lv : Value) (ys : List Fy) (last q : Int) (k : Nat) (o : Value) (wr : World) : Prop where
  row : wr.ownsRow w.heap.size 2 1 o ((((ys.map Fy.f).take k).filter fun f => (f.quit q).2).map Fl.id).length (((((ys.map Fy.f).take k).filter fun f => (f.quit q).2).map Fl.id).map (Value.int .i64))
  turn : Turn (ownT tb lv ys) w wr
  tab : ∃ zs, TabAt N wr tb lv zs last ∧ zs.map Fy.f = left (ys.map Fy.f) q k ∧ Of (ownT tb lv ys) (ownT tb lv zs) w ∧ Apart (ob o) (ownT tb lv zs)

set_option maxHeartbeats 1000000 in
set_option maxRecDepth 100000 in
theorem leave_calls (N tb : Nat) (O : List Nat) (t : Tab) (q : Int) (w : World) (h : TabR N w tb O t) (hs : Small t) :
    Calls Try.prog 21 #[.pointer (some ⟨tb, 0, none⟩), .int .i64 q] w (LeavePost N w tb O (t.leave q).1 (t.leave q).2) := by
  obtain ⟨lv, ys, hT, el, rfl⟩ := h
  obtain ⟨s1, s2, s2', s3, s4⟩ := hs
  rw [el] at s1 s4
  unfold Tab.leave
  rw [el]
  have hl : ys.length ≤ 1000 := by simpa using s1
  obtain ⟨A, c, e, hc, _⟩ := hT.shape
  have c0 := hT.c0
  rw [e] at c0
  have h0 : Leaving N w tb lv ys t.last q 0 (.slice none 0 0) w :=
    ⟨World.ownsRow_nil _ _ _ _, Turn.refl _ _, ys, hT, (left_zero _ _).symm, Of.refl _ _, fun x hx => by simp [ob, Value.ownBlock] at hx⟩
  have HF := Lib.hid s4
  have HE := Lib.hid e
  clear s1 s3 s4 el e hT
  go_enter Try.func21, Try.ntmps21
  go_wp2
  go_loopw [5, 13] (fun o i wr => ∃ k : Nat, k ≤ ys.length ∧ i = .int .i64 k ∧ Leaving N w tb lv ys t.last q k o wr) (fun _ i _ => ys.length - (intOf i).toNat)
  case atStart => exact ⟨0, Nat.zero_le _, rfl, h0⟩
  case round =>
    obtain ⟨k, hk, rfl, hr⟩ := hrel
    by_cases hlt : k < ys.length
    · obtain ⟨hown, htu, zs, hz, hzf, hof, hap⟩ := hr
      have hzl : zs.length = ys.length := by
        have := congrArg List.length hzf
        simp [left] at this
        omega
      have hkz : k < zs.length := by omega
      obtain ⟨A1, c1, e1, _, hrow⟩ := hz.shape
      rw [HE.out] at e1
      injection e1 with e1 e2 e3
      subst e1
      clear e2 e3
      obtain ⟨g, rfl, hcell⟩ := hrow k hkz
      have hy := hz.all k hkz
      have hyf : zs[k].f = ys[k].f := by
        have h1 := left_at (l := ys.map Fy.f) (q := q) (k := k) (by simpa using hlt)
        rw [← hzf, List.getElem?_map, List.getElem?_eq_getElem hkz, List.getElem_map] at h1
        simpa using h1
      have hfi : Fine zs[k].f := by rw [hyf]; exact HF.out _ (List.mem_map_of_mem (List.getElem_mem hlt))
      have hstep := take_filter (l := ys.map Fy.f) (k := k) (by simpa using hlt) fun f => (f.quit q).2
      have hsucc := left_succ (l := ys.map Fy.f) (q := q) (k := k) (by simpa using hlt)
      rw [List.getElem_map, ← hyf] at hstep hsucc
      have hq := quit_calls N zs[k] q wr hy (by have := hfi.1; omega)
      have hlen : ((((ys.map Fy.f).take k).filter fun f => (f.quit q).2).map Fl.id).length ≤ 1000 := by
        rw [List.length_map]
        refine Nat.le_trans (List.length_filter_le _ _) ?_
        simp; omega
      have hnext : ∀ w1 v', FyAt N w1 ⟨(zs[k].f.quit q).1, zs[k].b, v'⟩ → Turn zs[k].own wr w1 → Of zs[k].own (zs[k].b :: ob v') wr →
          (∃ us, TabAt N w1 tb lv us t.last ∧ us.map Fy.f = left (ys.map Fy.f) q (k + 1) ∧ Of (ownT tb lv ys) (ownT tb lv us) w ∧ Apart (ob u5) (ownT tb lv us)) ∧ Turn (ownT tb lv ys) w w1 ∧ w1.ownsRow w.heap.size 2 1 u5 ((((ys.map Fy.f).take k).filter fun f => (f.quit q).2).map Fl.id).length (((((ys.map Fy.f).take k).filter fun f => (f.quit q).2).map Fl.id).map (Value.int .i64)) := fun w1 v' b1 b2 b3 => by
        have hi := fun x => mem_ownT (x := x) (tb := tb) (lv := lv) (ys := zs)
        have b4 : Of (ownT tb lv zs) (ownT tb lv (zs.set k ⟨(zs[k].f.quit q).1, zs[k].b, v'⟩)) wr := own_set hkz (y := ⟨(zs[k].f.quit q).1, zs[k].b, v'⟩) b3
        refine ⟨⟨_, hz.set hkz (y := ⟨(zs[k].f.quit q).1, zs[k].b, v'⟩) rfl b2 b1 b3, ?_, hof.trans b4 htu.size, (Apart.of hap.symm b4 (row_lies hown)).symm⟩, ?_, ?_⟩
        · rw [List.map_set, hzf, hsucc]
        · exact htu.step (b2.mono (O' := ownT tb lv zs) fun x hx _ => (hi x).2 (.inr (.inr ⟨k, hkz, hx⟩))) hof
        · exact b2.row hown fun x hx e => hap x hx ((hi x).2 (.inr (.inr ⟨k, hkz, e⟩)))
      have HN := Lib.hid hnext
      have HS := Lib.hid hstep
      have hsz := htu.size
      clear hnext hstep hsucc hrow hof hap hzf hz hy hfi htu
      obtain ⟨y, hyy⟩ : ∃ y, zs[k] = y := ⟨_, rfl⟩
      rw [hyy] at HN HS hq hcell
      clear hyy hyf
      obtain ⟨L, hL⟩ : ∃ L, (((ys.map Fy.f).take k).filter fun f => (f.quit q).2).map Fl.id = L := ⟨_, rfl⟩
      rw [hL] at HN HS hlen
      clear hL h0 hzl hkz
      go_wp2_with fail
      refine hq.mono ?_
      rintro e w1 ⟨v', rfl, d1, d2, d3⟩
      obtain ⟨f1, f2, f3⟩ := HN.out w1 v' d1 d2 d3
      have F1 := Lib.hid f1
      have F2 := Lib.hid f2
      have ci := d1.cell 0 (u := .int .i64 y.f.id) (by simp [cellsOf, quit_id])
      simp only at ci
      have hsz1 := f2.size
      clear d1 d2 d3 f1 f2 hq hown
      obtain ⟨A3, c3, rfl, _⟩ := own_shape f3
      cases hm : (y.f.quit q).2
      · have HM := Lib.hid hm
        have F3 := Lib.hid f3
        clear hm f3
        go_wp2
        go_roundw
        case rel =>
          refine ⟨k + 1, by omega, by go_num, ⟨?_, F2.out, F1.out⟩⟩
          rw [HS.out, HM.out]
          exact F3.out
        case measure => simp [intOf] <;> omega
      · have HM := Lib.hid hm
        clear hm
        go_wp2_with (at_builtin; refine wpList_append_new _ rfl _ _ 43 rfl w.heap.size 2 _ 1 8 Try.underlying43 info2 rfl (by omega) _ L.length _ rfl f3 1 1 _ rfl _ rfl rfl (by simp [Value.oneCell']) (by simp [maxLen]; omega) (by omega) hsz1 ?_; intro v1 w3 hown2 hm2)
        obtain ⟨us, u1, u2, u3, u4⟩ := F1.out
        obtain ⟨m1, m2⟩ := moved_turn hm2
        have hfar : ∀ x ∈ ob (Value.slice A3 L.length c3), w.heap.size ≤ x := fun x hx => (row_lies f3 x hx).1
        have hnew : Turn (ownT tb lv ys) w w3 := F2.out.step m1 fun x hx => .inr (hfar x hx)
        have hap2 : Apart (ob v1) (ownT tb lv us) := Apart.of u4 m2 u1.lies
        go_roundw
        case rel =>
          refine ⟨k + 1, by omega, by go_num, ⟨?_, hnew, us, u1.keep m1 u4.symm, u2, u3, hap2⟩⟩
          rw [HS.out, HM.out]
          simpa using hown2
        case measure => simp [intOf] <;> omega
    · obtain rfl : k = ys.length := by omega
      have e1 : (ys.map Fy.f).take ys.length = ys.map Fy.f := List.take_of_length_le (by simp)
      obtain ⟨hown, htu, zs, hz, hzf, hof, hap⟩ := hr
      rw [e1] at hown
      have e2 : left (ys.map Fy.f) q ys.length = (ys.map Fy.f).map fun f => (f.quit q).1 := by
        have := left_all (ys.map Fy.f) q
        rwa [List.length_map] at this
      rw [e2] at hzf
      have hp : LeavePost N w tb (ownT tb lv ys) ⟨(ys.map Fy.f).map fun f => (f.quit q).1, t.last⟩ (((ys.map Fy.f).filter fun f => (f.quit q).2).map Fl.id) (.returned u5) wr :=
        ⟨u5, ownT tb lv zs, rfl, hown, ⟨lv, zs, hz, hzf.symm, rfl⟩, htu, hof, hap⟩
      have HP := Lib.hid hp
      obtain ⟨A3, c3, rfl, _⟩ := own_shape hown
      clear hown hp htu hz hzf hof hap e1 e2
      go_wp2
      go_ret
      exact HP.out
end Go.Proofs.Ytaanbgagdanalaa
