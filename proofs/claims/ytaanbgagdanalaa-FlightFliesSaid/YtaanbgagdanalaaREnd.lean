/- The contract of the reference's End. -/
import Derived.Test.YtaanbgagdanalaaRJoin
namespace Go.Proofs.Ytaanbgagdanalaa
open Go.RowKit

theorem info57 : (Try.prog.info? 57).map (fun i => (i.zero, i.size, i.bytes)) = some (some (.agg #[.int .i64 0, .string ⟨#[]⟩, .int .i64 0, .int .i64 0, .string ⟨#[]⟩, .bool false, .string ⟨#[]⟩, .bool false, .int .i64 0, .int .i64 0, .int .i64 0, .int .i64 0, .int .i64 0, .int .i64 0, .int .i64 0, .slice none 0 0]), 16, 168) := by kernel_rfl

/-- The rows of other numbers. -/
def othersY (ys : List Ry) (id : Int) : List Ry := ys.filter fun y => decide (y.f.id ≠ id)
theorem others_take {ys : List Ry} {id : Int} {k : Nat} (h : k < ys.length) : othersY (ys.take (k + 1)) id = if ys[k].f.id = id then othersY (ys.take k) id else othersY (ys.take k) id ++ [ys[k]] := by
  unfold othersY
  rw [List.take_succ_eq_append_getElem h, List.filter_append]
  by_cases e : ys[k].f.id = id <;> simp [e]
theorem others_length (ys : List Ry) (id : Int) : (othersY ys id).length ≤ ys.length := List.length_filter_le _ _
theorem others_erase {ys : List Ry} {last id : Int} (h : Rising (ys.map Ry.f) last) {i : Nat} (hi : i < ys.length) (he : ys[i].f.id = id) : othersY ys id = ys.eraseIdx i := by
  have hne : ∀ j (hj : j < ys.length), j ≠ i → ys[j].f.id ≠ id := fun j hj hji e => by
    rcases Nat.lt_or_ge j i with h1 | h1
    · have := rising_lt h h1 (by simpa using hi)
      rw [map_getR hj, map_getR hi] at this
      omega
    · have := rising_lt h (show i < j by omega) (by simpa using hj)
      rw [map_getR hj, map_getR hi] at this
      omega
  have e1 : ys = ys.take i ++ (ys[i] :: ys.drop (i + 1)) := by rw [← List.drop_eq_getElem_cons hi, List.take_append_drop]
  have a : othersY (ys.take i) id = ys.take i := List.filter_eq_self.2 fun y hy => by
    obtain ⟨j, hj, rfl⟩ := List.getElem_of_mem hy
    have hj' : j < i := by have := hj; simp at this; omega
    simpa using hne j (by omega) (by omega)
  have b : othersY (ys.drop (i + 1)) id = ys.drop (i + 1) := List.filter_eq_self.2 fun y hy => by
    obtain ⟨j, hj, rfl⟩ := List.getElem_of_mem hy
    have hj' : i + 1 + j < ys.length := by have := hj; simp at this; omega
    simpa using hne (i + 1 + j) hj' (by omega)
  rw [List.eraseIdx_eq_take_drop_succ]
  conv => lhs; rw [e1]
  unfold othersY at a b ⊢
  rw [List.filter_append, a, List.filter_cons_of_neg (by simp [he]), b]

theorem RTabAt.reseat {N : Nat} {w w' : World} {tb : Nat} {lv lv' : Value} {ys : List Ry} {last : Int} (h : RTabAt N w tb lv ys last) {i : Nat} (hi : i < ys.length)
    (hb : w'.heap[tb]? = some (.cells #[lv', .int .i64 last] 51 (0, 0))) (ht : Turn [tb] w w') (ho : ∀ x ∈ ob lv', w.heap.size ≤ x) (hr : w'.ownsRow N 57 16 lv' (ys.eraseIdx i).length (rows (ys.eraseIdx i))) :
    RTabAt N w' tb lv' (ys.eraseIdx i) last ∧ Of (ownR tb lv ys) (ownR tb lv' (ys.eraseIdx i)) w ∧ Apart (ob ys[i].v) (ownR tb lv' (ys.eraseIdx i)) ∧ w'.ownsRow N 3 1 ys[i].v ys[i].f.who.length (ys[i].f.who.map (Value.int .i64)) := by
  have hlen : (ys.eraseIdx i).length = ys.length - 1 := List.length_eraseIdx_of_lt hi
  have hget : ∀ j (hj : j < (ys.eraseIdx i).length), ∃ m, ∃ hm : m < ys.length, (ys.eraseIdx i)[j] = ys[m] ∧ m ≠ i ∧ m = (if j < i then j else j + 1) := fun j hj => by
    rw [hlen] at hj
    rw [List.getElem_eraseIdx]
    by_cases hji : j < i
    · exact ⟨j, by omega, by simp [hji], by omega, by simp [hji]⟩
    · exact ⟨j + 1, by omega, by simp [hji], by omega, by simp [hji]⟩
  have hw : ∀ m (hm : m < ys.length), w'.ownsRow N 3 1 ys[m].v ys[m].f.who.length (ys[m].f.who.map (Value.int .i64)) := fun m hm => ht.row (h.all m hm) fun x hx e => h.d2 m hm x hx (by simp at e; simp [e])
  have hold : ∀ m (hm : m < ys.length) x, x ∈ ob ys[m].v → x < w.heap.size := fun m hm x hx => (row_lies (h.all m hm) x hx).2
  have htb := blk_lt h.blk
  refine ⟨⟨h.low, hb, hr, ?_, fun e => by have := ho _ e; omega, ?_, ?_⟩, ?_, ?_, hw i hi⟩
  · intro j hj
    obtain ⟨m, hm, e, _, _⟩ := hget j hj
    rw [e]
    exact hw m hm
  · intro j hj x hx e2
    obtain ⟨m, hm, e, _, _⟩ := hget j hj
    rw [e] at hx
    rcases List.mem_cons.1 e2 with rfl | e2
    · exact h.d2 m hm _ hx (List.mem_cons_self ..)
    · have := hold m hm x hx; have := ho x e2; omega
  · intro j k hj hk hjk
    obtain ⟨m, hm, e, _, e2⟩ := hget j hj
    obtain ⟨m', hm', e', _, e2'⟩ := hget k hk
    rw [e, e']
    refine h.d3 m m' hm hm' fun e3 => ?_
    rw [e2, e2'] at e3
    split at e3 <;> split at e3 <;> omega
  · intro x hx
    rcases mem_ownR.1 hx with rfl | hx | ⟨j, hj, hx⟩
    · exact .inl (mem_ownR.2 (.inl rfl))
    · exact .inr (ho x hx)
    · obtain ⟨m, hm, e, _, _⟩ := hget j hj
      rw [e] at hx
      exact .inl (mem_ownR.2 (.inr (.inr ⟨m, hm, hx⟩)))
  · intro x hx hx2
    rcases mem_ownR.1 hx2 with rfl | hx2 | ⟨j, hj, hx2⟩
    · exact h.d2 i hi _ hx (List.mem_cons_self ..)
    · have := hold i hi x hx; have := ho x hx2; omega
    · obtain ⟨m, hm, e, hne, _⟩ := hget j hj
      rw [e] at hx2
      exact h.d3 i m hi hm (fun e => hne e.symm) x hx hx2

def EndPostR (N : Nat) (w : World) (tb : Nat) (O : List Nat) (t' : Tab) (l : List Int) (b : Int) (e : Ending) (w' : World) : Prop :=
  ∃ v O', e = .returned (.tuple #[v, .int .i64 b]) ∧ w'.ownsRow N 3 1 v l.length (l.map (Value.int .i64)) ∧ RTabR N w' tb O' t' ∧ Turn O w w' ∧ Of O O' w ∧ Apart (ob v) O'

set_option maxHeartbeats 2000000 in
set_option maxRecDepth 100000 in
theorem endR_calls (N tb : Nat) (O : List Nat) (t : Tab) (id : Int) (w : World) (h : RTabR N w tb O t) (hN : N ≤ w.heap.size) (hs : Small t) :
    Calls Try.prog 51 #[.pointer (some ⟨tb, 0, none⟩), .int .i64 id] w (EndPostR N w tb O (t.end_ id).1 (t.end_ id).2.1 (if (t.end_ id).2.2 then 1 else 0)) := by
  cases hp : place t.l id with
  | none =>
    have hj : t.end_ id = (t, [], false) := by simp [Tab.end_, hp]
    have hf := missR h hs hp
    rw [hj]
    have HP := Lib.hid h
    clear h hj hp
    go_enter Try.func51, Try.ntmps51
    go_wp2_with fail
    refine hf.mono ?_
    rintro e w1 ⟨rfl, hx⟩
    go_wp2
    exact bodyPost_ret (v := .tuple #[.slice none 0 0, .int .i64 0]) (by simp [results, Try.results51, go_sem]) rfl ⟨_, O, rfl, World.ownsRow_nil _ _ _ _, HP.out.ext hx, Turn.of_ext hx, Of.refl _ _, fun x hx => by simp [ob, Value.ownBlock] at hx⟩
  | some i =>
    obtain ⟨lv, ys, hT, el, rfl⟩ := h
    obtain ⟨s1, s2, s2', s3, s4⟩ := hs
    have hl : ys.length ≤ 1000 := by rw [el] at s1; simpa using s1
    have hf := placeR_calls N tb lv ys t.last id w hT hl
    rw [← el, show plI t.l id = i from by unfold plI; rw [hp]] at hf
    obtain ⟨p1, p2⟩ := place_some hp
    have hi : i < ys.length := by rw [el] at p1; simpa using p1
    have ei : t.l[i]! = ys[i].f := by rw [el, map_getR hi]
    have hj : t.end_ id = (⟨t.l.eraseIdx i, t.last⟩, ys[i].f.who, true) := by simp only [Tab.end_, hp, ei]
    rw [hj]
    rw [ei] at p2
    rw [el] at s3
    have HE := Lib.hid (others_erase s3 hi p2)
    obtain ⟨A, c, rfl, hcap, hrow⟩ := hT.shape
    have b0 := hT.c0
    obtain ⟨A2, c2, hv, hc2⟩ := own_shape (hT.all i hi)
    clear hc2
    obtain ⟨g, rfl, hro, hz1, hz2⟩ := hrow i hi
    clear hz1 hz2
    have q15 : w.cell? ⟨g, i * 16 + 15, none⟩ = some (.slice A2 ys[i].f.who.length c2) := by rw [← hv]; exact hro 15 _ rfl
    have HP : ∀ W v', Ext w W → W.ownsRow w.heap.size 57 16 v' (othersY ys id).length (rows (othersY ys id)) →
        W.cell? ⟨tb, 0, none⟩ = some (.slice (some ⟨g, 0, none⟩) ys.length c) ∧ W.frozen? ⟨tb, 0, none⟩ = false ∧
        EndPostR N w tb (ownR tb (.slice (some ⟨g, 0, none⟩) ys.length c) ys) ⟨t.l.eraseIdx i, t.last⟩ ys[i].f.who 1 (.returned (.tuple #[.slice A2 ys[i].f.who.length c2, .int .i64 1])) (W.setCell ⟨tb, 0, none⟩ v') := by
      intro W v' x0 a1
      have hbW := x0.block hT.blk
      have hfr := (row_lies a1)
      have htl := blk_lt hT.blk
      have ht : Turn [tb] w (W.setCell ⟨tb, 0, none⟩ v') := (Turn.of_ext x0).setCell (p := ⟨tb, 0, none⟩) (fun _ => by simp) v'
      rw [HE.out] at a1
      obtain ⟨r1, r2, r3, r4⟩ := hT.reseat hi (lv' := v') (heap_set_same (o := 0) hbW v') ht (fun x hx => (hfr x hx).1)
        (((Turn.refl [tb] W).setCell (p := ⟨tb, 0, none⟩) (fun _ => by simp) v').row (row_base a1 hN) fun x hx e => by have := (hfr x hx).1; simp at e; omega)
      refine ⟨x0.cell b0, by simp [World.frozen?, hbW], .slice A2 ys[i].f.who.length c2, _, rfl, by rw [← hv]; exact r4, ⟨v', _, r1, ?_, rfl⟩, ht.mono (fun x hx _ => ?_), r2, by rw [← hv]; exact r3⟩
      · rw [el, List.eraseIdx_eq_take_drop_succ, List.eraseIdx_eq_take_drop_succ]; simp
      · simp at hx; subst hx; exact mem_ownR.2 (.inl rfl)
    have HP' := Lib.hid HP
    have HT := Lib.hid hT
    have hi0 : ¬ ((i : Int) < 0) := by omega
    have hi1 : ((i : Int) < (ys.length : Int)) := by omega
    obtain ⟨lw, hlw⟩ : ∃ lw, ys[i].f.who.length = lw := ⟨_, rfl⟩
    have hro0 := Lib.hid hrow
    rw [hlw] at HP' q15
    show Calls _ _ _ _ (EndPostR N w tb (ownR tb (.slice (some ⟨g, 0, none⟩) ys.length c) ys) ⟨t.l.eraseIdx i, t.last⟩ ys[i].f.who 1)
    generalize EndPostR N w tb (ownR tb (.slice (some ⟨g, 0, none⟩) ys.length c) ys) ⟨t.l.eraseIdx i, t.last⟩ ys[i].f.who 1 = P at HP' ⊢
    clear HP hj hp el p1 p2 ei s1 s2 s2' s3 s4 hT hv hro hlw hrow
    clear hi HE hN
    go_enter Try.func51, Try.ntmps51
    go_wp2_with fail
    refine hf.mono ?_
    rintro e w1 ⟨rfl, x1⟩
    replace b0 := x1.cell b0
    replace q15 := x1.cell q15
    have hsz1 := x1.size
    have X1 := Lib.hid x1
    clear x1 hf
    go_wp2
    go_loopw [8, 29] (fun r j wr => ∃ k : Nat, k ≤ ys.length ∧ j = .int .i64 k ∧ wr.ownsRow w.heap.size 57 16 r (othersY (ys.take k) id).length (rows (othersY (ys.take k) id)) ∧ Ext w wr) (fun _ j _ => ys.length - (intOf j).toNat)
    case atStart => exact ⟨0, Nat.zero_le _, rfl, World.ownsRow_nil _ _ _ _, X1.out⟩
    case round =>
      obtain ⟨k, hk, rfl, hown, hx⟩ := hrel
      by_cases hlt : k < ys.length
      · obtain ⟨g2, e1, hro, hz1, hz2⟩ := hro0.out k hlt
        obtain rfl : g = g2 := by injection e1 with e1; injection e1
        replace hro := hro.ext hx
        obtain ⟨A4, c4, hv4, hc4⟩ := own_shape (HT.out.all k hlt)
        rw [hv4] at hro
        have hstep := others_take (id := id) hlt
        have hlen := others_length (ys.take k) id
        have hlen2 : (ys.take k).length ≤ ys.length := by simp; omega
        obtain ⟨y, hy⟩ : ∃ y, ys[k] = y := ⟨_, rfl⟩
        rw [hy] at hro hstep hv4
        have HV4 := Lib.hid hv4
        obtain ⟨F, hF⟩ : ∃ F, othersY (ys.take k) id = F := ⟨_, rfl⟩
        rw [hF] at hown hstep hlen
        obtain ⟨lf, hlf⟩ : ∃ lf, y.f = lf := ⟨_, rfl⟩
        rw [hlf] at hro hstep
        have HLF := Lib.hid hlf
        have hFl : F.length ≤ 1000 := by omega
        have q0 : wr.cell? ⟨g, k * 16, none⟩ = some (.int .i64 lf.id) := hro 0 _ rfl
        have q1 : wr.cell? ⟨g, k * 16 + 1, none⟩ = some (.string lf.obj) := hro 1 _ rfl
        have q2 : wr.cell? ⟨g, k * 16 + 2, none⟩ = some (.int .i64 lf.fr) := hro 2 _ rfl
        have q3 : wr.cell? ⟨g, k * 16 + 3, none⟩ = some (.int .i64 lf.to) := hro 3 _ rfl
        have q4 : wr.cell? ⟨g, k * 16 + 4, none⟩ = some (.string lf.mt) := hro 4 _ rfl
        have q5 : wr.cell? ⟨g, k * 16 + 5, none⟩ = some (.bool lf.mw) := hro 5 _ rfl
        have q6 : wr.cell? ⟨g, k * 16 + 6, none⟩ = some (.string lf.nt) := hro 6 _ rfl
        have q7 : wr.cell? ⟨g, k * 16 + 7, none⟩ = some (.bool lf.nw) := hro 7 _ rfl
        have q8 : wr.cell? ⟨g, k * 16 + 8, none⟩ = some (.int .i64 lf.en) := hro 8 _ rfl
        have q9 : wr.cell? ⟨g, k * 16 + 9, none⟩ = some (.int .i64 lf.sa) := hro 9 _ rfl
        have q10 : wr.cell? ⟨g, k * 16 + 10, none⟩ = some (.int .i64 lf.mo) := hro 10 _ rfl
        have q11 : wr.cell? ⟨g, k * 16 + 11, none⟩ = some (.int .i64 lf.ge) := hro 11 _ rfl
        have q12 : wr.cell? ⟨g, k * 16 + 12, none⟩ = some (.int .i64 lf.pl) := hro 12 _ rfl
        have q13 : wr.cell? ⟨g, k * 16 + 13, none⟩ = some (.int .i64 lf.stop) := hro 13 _ rfl
        have q14 : wr.cell? ⟨g, k * 16 + 14, none⟩ = some (.int .i64 (heI lf)) := hro 14 _ rfl
        have r15 : wr.cell? ⟨g, k * 16 + 15, none⟩ = some ((.slice A4 lf.who.length c4)) := hro 15 _ rfl
        have HX := Lib.hid hx
        have hsz := hx.size
        obtain ⟨A3, c3, rfl, hc3⟩ := own_shape hown
        clear e1 hz1 hz2 hc4 hv4 hy hF hlf hro hx hlen hlen2 hc3
        by_cases e1 : lf.id = id
        · rw [if_pos e1] at hstep
          have HS := Lib.hid hstep
          have e2 : (lf.id == id) = true := by simp [e1]
          have e3 : decide (lf.id = id) = true := by simp [e1]
          have e4 : (lf.id != id) = false := by simp [e1]
          clear e1 hstep
          have HO := Lib.hid (fun oo => hown.alloc oo)
          clear hown
          go_wp2
          go_roundw
          case rel => exact ⟨k + 1, by omega, by go_num, by rw [HS.out]; exact HO.out _, HX.out.alloc _⟩
          case measure => simp [intOf] <;> omega
        · rw [if_neg e1] at hstep
          have HS := Lib.hid hstep
          have e2 : (lf.id == id) = false := by simp [e1]
          have e3 : decide (lf.id = id) = false := by simp [e1]
          have e4 : (lf.id != id) = true := by simp [e1]
          have hown' := fun oo => hown.alloc oo
          have hsz2 : ∀ oo, w.heap.size ≤ (wr.alloc oo).heap.size := fun oo => by simp; omega
          have HX2 := Lib.hid (fun oo => HX.out.alloc oo)
          clear e1 hstep hown
          go_wp2_with (at_builtin; refine wpList_append_new _ rfl _ _ 49 rfl w.heap.size 57 _ 16 168 Try.underlying49 info57 rfl (by omega) _ F.length _ rfl (hown' _) 1 1 (wr.heap.size + 1) (by simp) _ rfl rfl (by simp [Value.oneCell']) (by simp [maxLen]; omega) (by omega) (hsz2 _) ?_; intro v1 w4 hown2 hm2)
          have hx4 := ext_moved (HX2.out _) (hown' _) hm2
          have HO2 := Lib.hid hown2
          clear hown' hown2 hm2
          go_roundw
          case rel =>
            refine ⟨k + 1, by omega, by go_num, ?_, hx4⟩
            rw [HS.out, rows_append, rows_one, HLF.out, HV4.out, HLF.out, List.length_append]
            exact HO2.out
          case measure => simp [intOf] <;> omega
      · obtain rfl : k = ys.length := by omega
        rw [List.take_length] at hown
        obtain ⟨d1, d2, d3⟩ := HP'.out _ _ hx hown
        have D3 := Lib.hid d3
        obtain ⟨A3, c3, rfl, hc3⟩ := own_shape hown
        clear d3 hown hc3
        go_wp2
        exact D3.out
end Go.Proofs.Ytaanbgagdanalaa
