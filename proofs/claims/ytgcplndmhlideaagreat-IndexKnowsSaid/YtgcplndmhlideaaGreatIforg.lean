/- The contract of the index's Forget. -/
import Derived.Test.YtgcplndmhlideaaGreatWalkQ
import Derived.Test.YtgcplndmhlideaaGreatStill
import Derived.Test.YtgcplndmhlideaaGreatIdrop
namespace Go.Proofs.YtgcplndmhlideaaGreat
open Go.RowKit
attribute [local go_sem] Oper.semAt_some

section
variable {w w' : World} {xb n₀ : Nat} {p : Option Addr}
theorem apt_ne {cs : Array Value} {t : TypeId} {g : Nat} (hap : Apt xb w) (h : w.heap[g]? = some (.cells cs t (0, 0))) (ht : t = 123 ∨ t = 148 ∨ t = 135) : g ≠ xb := by
  rintro rfl
  obtain ⟨cs', t', h1, h2, h3, h4⟩ := hap
  rw [h1] at h
  injection h with h
  injection h with _ h
  subst h
  rcases ht with e | e | e
  · exact h2 e
  · exact h3 e
  · exact h4 e
theorem ItAt.kq {l : List (Pr It)} (h : ItAt w p l) (hap : Apt xb w) (k : Kq xb w.heap.size w w') : ItAt w' p l := by
  obtain ⟨t, a, b, c⟩ := h
  exact ⟨t, It.AtO.keep (fun g cs hg => (k.block g (Array.getElem?_eq_some_iff.1 hg).1 (apt_ne hap hg (.inl rfl))).trans hg) a, b, c⟩
theorem NmAt.kq {l : List (Pr Nm)} (h : NmAt w p l) (hap : Apt xb w) (k : Kq xb w.heap.size w w') : NmAt w' p l := by
  obtain ⟨t, a, b, c⟩ := h
  exact ⟨t, Nm.AtO.keep (fun g cs hg => (k.block g (Array.getElem?_eq_some_iff.1 hg).1 (apt_ne hap hg (.inr (.inl rfl)))).trans hg) a, b, c⟩
theorem MpAt.kq {l : List (Pr Mp)} (h : MpAt w p l) (hap : Apt xb w) (k : Kq xb w.heap.size w w') : MpAt w' p l := by
  obtain ⟨t, a, b, c⟩ := h
  exact ⟨t, Mp.AtO.keep (fun g cs hg => (k.block g (Array.getElem?_eq_some_iff.1 hg).1 (apt_ne hap hg (.inr (.inr rfl)))).trans hg) a, b, c⟩
theorem Vers.kq {l : List (Pr Mp)} {L : List Sl} (h : Vers w l L) (hap : Apt xb w) (k : Kq xb w.heap.size w w') : Vers w' l L := ⟨fun e he => (h.at_ e he).kq hap k, h.ne, h.all⟩
theorem NmAt.grown {l : List (Pr Nm)} (h : NmAt w p l) {row : Option Nat} (hg : w.grownBy w' row) (hr : ∀ r, row = some r → ∃ o : Obj, w.heap[r]? = some o ∧ o.isCells = false) : NmAt w' p l := by
  obtain ⟨t, a, b, c⟩ := h
  refine ⟨t, Nm.AtO.keep (fun g cs h => (hg.block g (Array.getElem?_eq_some_iff.1 h).1 fun e => ?_).trans h) a, b, c⟩
  obtain ⟨o, ho, hc⟩ := hr g e.symm
  rw [h] at ho
  cases ho
  cases hc
theorem ItAt.grown {l : List (Pr It)} (h : ItAt w p l) {row : Option Nat} (hg : w.grownBy w' row) (hr : ∀ r, row = some r → ∃ o : Obj, w.heap[r]? = some o ∧ o.isCells = false) : ItAt w' p l := by
  obtain ⟨t, a, b, c⟩ := h
  refine ⟨t, It.AtO.keep (fun g cs h => (hg.block g (Array.getElem?_eq_some_iff.1 h).1 fun e => ?_).trans h) a, b, c⟩
  obtain ⟨o, ho, hc⟩ := hr g e.symm
  rw [h] at ho
  cases ho
  cases hc
theorem MpAt.grown {l : List (Pr Mp)} (h : MpAt w p l) {row : Option Nat} (hg : w.grownBy w' row) (hr : ∀ r, row = some r → ∃ o : Obj, w.heap[r]? = some o ∧ o.isCells = false) : MpAt w' p l := by
  obtain ⟨t, a, b, c⟩ := h
  refine ⟨t, Mp.AtO.keep (fun g cs h => (hg.block g (Array.getElem?_eq_some_iff.1 h).1 fun e => ?_).trans h) a, b, c⟩
  obtain ⟨o, ho, hc⟩ := hr g e.symm
  rw [h] at ho
  cases ho
  cases hc
theorem IxAt.grown {u : Int} {x : Ix} (h : IxAt w xb u x) {row : Option Nat} (hg : w.grownBy w' row) (hr : ∀ r, row = some r → ∃ o : Obj, w.heap[r]? = some o ∧ o.isCells = false) : IxAt w' xb u x := by
  obtain ⟨p, q, lv, a, b, c, d⟩ := h
  refine ⟨p, q, lv, (hg.block xb (Array.getElem?_eq_some_iff.1 a).1 fun e => ?_).trans a, b.grown hg hr, c.grown hg hr, ⟨fun e he => (d.at_ e he).grown hg hr, d.ne, d.all⟩⟩
  obtain ⟨o, ho, hc⟩ := hr xb e.symm
  rw [a] at ho
  cases ho
  cases hc
theorem Chx.grown {w'' : World} (h : Chx xb w w') {row : Option Nat} (hg : w'.grownBy w'' row) (hr : ∀ r, row = some r → w.heap.size ≤ r) : Chx xb w w'' :=
  ⟨hg.os.trans h.os, hg.tape.trans h.tape, hg.output.trans h.output, Nat.le_trans h.size hg.size, fun k hk hne => (hg.block k (Nat.lt_of_lt_of_le hk h.size) (fun e => by have := hr k e.symm; omega)).trans (h.block k hk hne)⟩
theorem Kq.chx (h : Kq xb n₀ w w') (hn : w.heap.size ≤ n₀) : Chx xb w w' := ⟨h.os, h.tape, h.output, h.size, fun k hk hne => h.block k (by omega) (fun e => hne (by rw [e]))⟩
end
theorem Kq.setNew {w w' : World} {o n₀ : Nat} (h : Kq o n₀ w w') {m : Nat} (hm : n₀ ≤ m) (j : Nat) (v : Value) : Kq o n₀ w (w'.setCell ⟨m, j, none⟩ v) :=
  ⟨h.os, h.tape, h.output, by simpa [World.setCell] using h.size, fun k hk hne => (Below.heap_setCell w' ⟨m, j, none⟩ v k (fun e => by have : k = m := e; omega)).trans (h.block k hk hne)⟩
theorem Kq.setOwn {w w' : World} {o n₀ : Nat} (h : Kq o n₀ w w') (j : Nat) (v : Value) : Kq o n₀ w (w'.setCell ⟨o, j, none⟩ v) :=
  ⟨h.os, h.tape, h.output, by simpa [World.setCell] using h.size, fun k hk hne => (Below.heap_setCell w' ⟨o, j, none⟩ v k hne).trans (h.block k hk hne)⟩
theorem dropAll_len {V : Type} (ks : List Nat) (l : List (Pr V)) : (dropAll ks l).length ≤ l.length := by
  rw [dropAll_eq]; exact List.length_filter_le _ _
theorem dropAll_snoc {V : Type} (ks : List Nat) (k : Nat) (l : List (Pr V)) : dropAll (ks ++ [k]) l = dropL k (dropAll ks l) := by simp [dropAll]
/-- What stands while slices are forgotten. -/
def keyC (e : Pr It) : Nat := (IntKind.u64.wrap e.v.c).toNat
def sumW (l : List (Pr It)) : Int := l.foldl (fun s e => IntKind.i64.wrap (s + e.v.b)) 0
def FoI (xb sb : Nat) (w5 : World) (u : Int) (p : Option Addr) (c0 t : Int) (lc : List (Pr Nm)) (pre : List (Pr It)) (W : World) : Prop :=
  (∃ q', W.heap[xb]? = some (.cells #[.int .i64 u, .pointer p, .pointer q', .int .i64 c0, .int .i64 t] 77 (0, 0)) ∧ NmAt W q' (dropAll (pre.map keyC) lc)) ∧ Boxed W sb 2 (.int .i64 (sumW pre)) ∧ Kq xb w5.heap.size w5 W
theorem FoI.ext {xb sb : Nat} {w5 W W' : World} {u : Int} {p : Option Addr} {c0 t : Int} {lc : List (Pr Nm)} {pre : List (Pr It)} (h : FoI xb sb w5 u p c0 t lc pre W) (hx : Ext W W') : FoI xb sb w5 u p c0 t lc pre W' := by
  obtain ⟨⟨q', h1, h2⟩, h3, h4⟩ := h
  exact ⟨⟨q', hx.block h1, h2.ext hx⟩, hx.block h3, h4.trans (Kq.of_ext hx h4.size)⟩
theorem foI_own {xb sb B : Nat} {w5 : World} {u : Int} {p : Option Addr} {c0 t : Int} {lc : List (Pr Nm)} (hB : w5.heap.size ≤ B) (_ : sb < B) : OwnFrom B (FoI xb sb w5 u p c0 t lc) := fun pre A C row hs hg hr => by
  obtain ⟨⟨q', h1, h2⟩, h3, h4⟩ := hs
  have keep : ∀ (g : Nat) (cs : Array Value) (ty : TypeId), A.heap[g]? = some (.cells cs ty (0, 0)) → C.heap[g]? = some (.cells cs ty (0, 0)) := fun g cs ty h => (hg.block g (Array.getElem?_eq_some_iff.1 h).1 fun e => by
    obtain ⟨_, o, ho, hc⟩ := hr g e.symm
    rw [h] at ho
    cases ho
    cases hc).trans h
  exact ⟨⟨q', keep _ _ _ h1, h2.grown hg fun r e => (hr r e).2⟩, keep _ _ _ h3, ownFrom_kq (β := Unit) (Nat.le_refl _) hB () A C row h4 hg hr⟩
/-- What is summed up, and what counts go. -/
theorem sumW_eq {l : List (Pr It)} (h : ∀ e ∈ l, 0 ≤ e.v.b) (hs : (l.map (·.v.b)).sum ≤ 4000000000000000000) : sumW l = (l.map (·.v.b)).sum := by
  have key : ∀ (l : List (Pr It)) (s : Int), 0 ≤ s → (∀ e ∈ l, 0 ≤ e.v.b) → s + (l.map (·.v.b)).sum ≤ 4000000000000000000 → l.foldl (fun s e => IntKind.i64.wrap (s + e.v.b)) s = s + (l.map (·.v.b)).sum := by
    intro l
    induction l with
    | nil => intro s _ _ _; simp
    | cons e l ih =>
      intro s h0 hp hle
      have h1 := hp e (List.mem_cons_self ..)
      have h2 : 0 ≤ (l.map (·.v.b)).sum := by
        have : ∀ (m : List Int), (∀ z ∈ m, 0 ≤ z) → 0 ≤ m.sum := by
          intro m
          induction m with
          | nil => simp
          | cons z m ih => intro hm; have := hm z (List.mem_cons_self ..); have := ih fun y hy => hm y (List.mem_cons_of_mem _ hy); simp; omega
        exact this _ fun z hz => by obtain ⟨e', he', rfl⟩ := List.mem_map.1 hz; exact hp e' (List.mem_cons_of_mem _ he')
      simp only [List.map_cons, List.sum_cons] at hle
      have hw : IntKind.i64.wrap (s + e.v.b) = s + e.v.b := IntWalk.i64_in _ (by omega)
      simp only [List.foldl_cons, List.map_cons, List.sum_cons]
      rw [hw, ih (s + e.v.b) (by omega) (fun e' he' => hp e' (List.mem_cons_of_mem _ he')) (by omega)]
      omega
  have := key l 0 (by omega) h (by omega)
  unfold sumW
  rw [this]; omega
theorem forg_sum {u : Int} {x : Ix} (hf : Fit u x) (v : Int) : sumW (itemsOf x.L v) = sumS (x.L.filter fun s => decide (s.v = v)) ∧ (itemsOf x.L v).map keyC = (itemsOf x.L v).map (·.v.c.toNat) ∧ 0 ≤ sumS (x.L.filter fun s => decide (s.v = v)) ∧ sumS (x.L.filter fun s => decide (s.v = v)) ≤ sumS x.L ∧ sumS x.L ≤ 943718400 := by
  have hit : ∀ e ∈ itemsOf x.L v, 1 ≤ e.v.b ∧ 1 ≤ e.v.c ∧ e.v.c ≤ 900 := fun e he => by
    obtain ⟨s, hs, _, _, hv⟩ := (mem_items hf.ok.dis hf.ok.n0 v e).1 he
    have := hf.ok.cnt s hs
    have hb1 := (hf.ok.ok s hs).2.2.2.2
    have := hf.c1
    rw [hv]
    exact ⟨hb1.1, by show 1 ≤ s.c; omega, by show s.c ≤ 900; omega⟩
  have hs1 := sum_items hf.ok.dis hf.ok.n0 v
  obtain ⟨hs2, hs3⟩ := sum_le hf
  have hsp := sum_split x.L fun s => decide (s.v = v)
  have hb : ∀ s ∈ x.L, 1 ≤ s.b ∧ s.b ≤ u := fun s hs => (hf.ok.ok s hs).2.2.2.2
  have hu : 0 ≤ u := by have := hf.u0; omega
  have h4 := (sum_bound (u := u) (L := x.L.filter fun s => !decide (s.v = v)) (fun s hs => hb s (List.mem_filter.1 hs).1) hu).1
  have h5 := (sum_bound (u := u) (L := x.L.filter fun s => decide (s.v = v)) (fun s hs => hb s (List.mem_filter.1 hs).1) hu).1
  refine ⟨?_, List.map_congr_left fun e he => ?_, h5, by omega, hs3⟩
  · rw [sumW_eq (fun e he => by have := hit e he; omega) (by rw [hs1]; omega), hs1]
  · obtain ⟨_, h2, h3⟩ := hit e he
    unfold keyC
    rw [IntWalk.u64_in _ (by omega)]
theorem It.from_zero {t : Option (Nd It)} (h : Nd.oWF t) : It.fromO 0 t = Nd.oL t := by
  cases t with
  | none => rfl
  | some t =>
    show t.from 0 = t.toL
    rw [from_ok h]
    exact List.filter_eq_self.2 fun e _ => by simp
theorem itall_calls (p : Mp) (w : World) : Calls Tryz.prog 31 #[.agg #[.pointer p]] w (It.FromPost w p 0) := It.all_calls p w

set_option maxHeartbeats 2000000 in
set_option maxRecDepth 100000 in
theorem forg_yes (xb : Nat) (u : Int) (x : Ix) (v : Int) (w : World) (h : IxAt w xb u x) (hf : Fit u x) (hne : itemsOf x.L v ≠ []) :
    Calls Tryz.prog 18 #[.pointer (some ⟨xb, 0, none⟩), .int .i64 v] w (XPost w xb u ⟨forgS x.L v, x.c⟩ (.int .i64 (sumS (x.L.filter fun s => decide (s.v = v))))) := by
  have hvr : 0 ≤ v ∧ v ≤ 1099511627776 := Classical.byContradiction fun hh => hne (items_out hf hh)
  obtain ⟨kv, rfl⟩ : ∃ k : Nat, v = k := ⟨v.toNat, by omega⟩
  have kv1 : kv ≤ 1099511627776 := by omega
  have hwv : IntKind.u64.wrap (kv : Int) = (kv : Int) := IntWalk.u64_in _ (by omega)
  have hx0 : Ext w (w.alloc (.cells #[.pointer (some ⟨xb, 0, none⟩)] 24)) := (Ext.refl w).alloc _
  have a0 : (w.alloc (.cells #[.pointer (some ⟨xb, 0, none⟩)] 24)).cell? ⟨w.heap.size, 0, none⟩ = some (.pointer (some ⟨xb, 0, none⟩)) := by simp
  have HXW := Lib.hid (show xb < w.heap.size from by obtain ⟨p, q, lv, hb, _⟩ := h; exact (Array.getElem?_eq_some_iff.1 hb).1)
  have H0 := Lib.hid (h.ext hx0)
  clear h hvr
  refine (callsIn_wide (n := 5)).1 ?_
  refine callsIn_of_wp_marks Tryz.func18 rfl trivial ?_ rfl
  simp only [Tryz.ntmps18, List.size_toArray, List.length_cons, List.length_nil, Nat.reduceAdd, Nat.reduceSub, Array.replicate_succ, Array.replicate_zero, List.push_toArray, List.append_toArray, List.nil_append, List.cons_append]
  refine wpIn_wide.2 ?_
  go_upto_region 1 with (fail)
  generalize w.alloc (.cells #[.pointer (some ⟨xb, 0, none⟩)] 24) = W at *
  generalize hnb : w.heap.size = nb at *
  go_wp2_with fail
  refine (ofx_calls xb u x kv W H0.out hf).mono ?_
  rintro e w3 ⟨pm, rfl, hit, hx1⟩
  replace a0 := hx1.cell a0
  replace H0 := Lib.hid (H0.out.ext hx1)
  replace hx0 := hx0.trans hx1
  clear hx1
  have hmb : w.heap.size ≤ w3.heap.size := hx0.size
  go_upto_region 2 with (fail)
  have hx1 : Ext w3 (w3.alloc (.cells #[.pointer pm] 81)) := (Ext.refl _).alloc _
  have m0 : (w3.alloc (.cells #[.pointer pm] 81)).cell? ⟨w3.heap.size, 0, none⟩ = some (.pointer pm) := by simp
  replace a0 := hx1.cell a0
  replace H0 := Lib.hid (H0.out.ext hx1)
  replace hx0 := hx0.trans hx1
  replace hit := hit.ext hx1
  clear hx1
  generalize (w3.alloc (.cells #[.pointer pm] 81)) = w4 at *
  rw [hnb] at hmb
  generalize w3.heap.size = mb at *
  have HI := Lib.hid hit
  clear hit
  go_wp2_with fail
  refine (itlen_calls pm (itemsOf x.L kv) w4 HI.out).mono ?_
  rintro e w5 ⟨rfl, hx1⟩
  replace a0 := hx1.cell a0
  replace m0 := hx1.cell m0
  replace H0 := Lib.hid (H0.out.ext hx1)
  replace hx0 := hx0.trans hx1
  replace HI := Lib.hid (HI.out.ext hx1)
  clear hx1
  have hz1 : ((itemsOf x.L kv).length : Int) ≠ 0 := fun e => hne (List.length_eq_zero_iff.1 (by omega))
  have hz2 : (((itemsOf x.L kv).length : Int) == 0) = false := beq_eq_false_iff_ne.2 hz1
  go_upto_region 5 with (fail)
  have hx1 : Ext w5 (w5.alloc (.cells #[.int .i64 0] 2)) := (Ext.refl _).alloc _
  have bS := Boxed.new w5 2 (.int .i64 0)
  have m1 := hx1.cell m0
  go_wp2_with fail
  refine (itall_calls pm _).mono ?_
  rintro e w6 ⟨_, rfl, ⟨bm, bk, rfl, hbm, hbk⟩, hx2⟩
  obtain ⟨p, q, lv, hb, hmp, hnm, hvs⟩ := H0.out
  have HAP := Lib.hid (Apt.ix hb)
  have hlv : lv.length ≤ 1000 := by have := vers_len hmp hvs hf; have := hf.len; omega
  have hcl : (cntOf x.L).length ≤ 1000 := by have := hf.len; simp [cntOf]; omega
  have HFF := Lib.hid (fun (W : World) (pp qq : Option Addr) => ix_forget (w := W) (xb := xb) (u := u) (x := x) (kv := kv) (p := pp) (q := qq) (lv := lv) hf)
  have HSUM := Lib.hid (forg_sum hf kv)
  have hxw : xb < nb := HXW.out
  obtain ⟨len, hlen⟩ : ∃ n : Int, ((itemsOf x.L kv).length : Int) = n := ⟨_, rfl⟩
  rw [hlen] at hz1 hz2
  rw [hlen]
  obtain ⟨c0, hcc⟩ : ∃ c0, x.c = c0 := ⟨_, rfl⟩
  obtain ⟨t, ht⟩ : ∃ t, sumS x.L = t := ⟨_, rfl⟩
  rw [hcc] at hb HFF
  rw [ht] at hb HFF HSUM
  have HCX := Lib.hid hcc
  generalize hR : sumS (x.L.filter fun s => decide (s.v = (kv : Int))) = R at *
  generalize cntOf x.L = lc at *
  generalize itemsOf x.L kv = li at *
  have HM := Lib.hid hmp
  have HV := Lib.hid hvs
  have HN := Lib.hid hnm
  have HCL := Lib.hid (And.intro hlv hcl)
  have HB := Lib.hid hb
  have HRR := Lib.hid hR
  clear hcc ht hvs hmp hnm H0 hf hlv hcl hlen hne hz1 hz2 hR
  have hbS : Boxed w6 w5.heap.size 2 (.int .i64 0) := hx2.block bS
  have hx56 : Ext w5 w6 := hx1.trans hx2
  have hsz6 : w5.heap.size + 1 ≤ w6.heap.size := by have := hx2.size; simpa using this
  clear bS m1 hx1 hx2
  obtain ⟨sb, hsb⟩ : ∃ sb, w5.heap.size = sb := ⟨_, rfl⟩
  have hb6 := hx56.block HB.out
  have HQ0 : Hid (Kq xb w5.heap.size w5 w6) := Lib.hid (Kq.of_ext hx56 (Nat.le_refl _))
  obtain ⟨ti, hit, hiw, hil⟩ := HI.out
  have hnw : nb < w5.heap.size := block_of_cell a0
  have hmw : mb < w5.heap.size := block_of_cell m0
  have hzx : w.heap.size ≤ w5.heap.size := hx0.size
  rw [hsb] at hbS hsz6 hnw hmw hzx
  go_wp2
  try rw [hsb]
  refine (wpIn_wide (n := 5)).1 ?_
  refine wpIn_rangeFunc_ownH rfl (by omega) (gf := 65) (lb := #[.pointer (some ⟨bm, 0, none⟩), .pointer (some ⟨bk, 0, none⟩)]) rfl trivial (enters_of Tryz.func65 (by kernel_rfl) rfl)
    (It.from_stopsQ 0 xb w5 HAP.out ti pm hit hiw bm bk _ w6 hx56 hbm hbk) kq_t (kq_b (by omega)) (Below.refl _ _) (fun _ => rfl)
    (fun pre W => FoI xb sb w5 u p c0 t lc pre W)
    (fun _ _ _ => False)
    (foI_own (by omega) (by omega))
    (fun _ _ _ _ _ hs _ _ => hs)
    ⟨⟨q, hb6, HN.out.ext hx56⟩, hbS, HQ0.out⟩
    (fun x a' W => ∃ Bx, sb < Bx ∧ W.heap[Bx]? = some (.cells #[.int .i64 x.v.b, .int .i64 x.v.c] 95 (0, 0)) ∧ a' = { tmps := #[.pointer (some ⟨xb, 0, none⟩), .int .i64 kv, .pointer (some ⟨nb, 0, none⟩), undef, .int .i64 0, .pointer (some ⟨mb, 0, none⟩), .pointer (some ⟨sb, 0, none⟩), undef, .pointer (some ⟨Bx, 0, none⟩), .pointer (some ⟨xb, 0, none⟩), .int .i64 kv, .agg #[.pointer pm], .agg #[.pointer pm], .int .i64 len, .bool false, .agg #[.pointer pm], .func (.func 65) #[] #[.pointer (some ⟨bm, 0, none⟩), .pointer (some ⟨bk, 0, none⟩)], .int .u64 (x.k : Int), .agg #[.int .i64 x.v.b, .int .i64 x.v.c], undef, undef, undef, undef, undef, undef, undef, undef, undef, undef, undef, undef, undef, undef, undef, undef, undef, undef, undef, undef, undef, undef, undef, undef, undef, undef, undef, undef, undef, undef, undef, undef, undef, undef], defers := [] })
    (fun x a' _ X Y row hs hg hr => by
      obtain ⟨Bx, h1, h2, h3⟩ := hs
      exact ⟨Bx, h1, (hg.block Bx (Array.getElem?_eq_some_iff.1 h2).1 (fun e => by obtain ⟨_, o, ho, hc⟩ := hr Bx e.symm; rw [h2] at ho; cases ho; cases hc)).trans h2, h3⟩)
    ?assign ?body ?done ?stop
  case assign =>
    rintro l pre x W K hF hK
    have hzW : w5.heap.size ≤ W.heap.size := hF.2.2.size
    have hzS : sb < W.heap.size := Boxed.lt hF.2.1
    gi_wp2
    exact hK _ _ ((KeepsOthers.alloc _ _).from _) (Kq.of_ext ((Ext.refl W).alloc _) hzW) (hF.ext ((Ext.refl W).alloc _)) ⟨W.heap.size, hzS, heap_alloc_new W _, rfl⟩
  case body =>
    rintro l pre x a' W hl _ hF ⟨Bx, hBx, hbx, rfl⟩ hlt
    obtain ⟨⟨q', hbW, hnW⟩, hsW, hkW⟩ := hF
    have y0 : W.cell? ⟨Bx, 0, none⟩ = some (.int .i64 x.v.b) := cell_blk hbx 0 rfl
    have s0 := hsW.cell
    have s1 := hsW.frozen
    have sS : sumW (pre ++ [x]) = IntKind.i64.wrap (sumW pre + x.v.b) := by simp [sumW, List.foldl_append]
    have kS : (pre ++ [x]).map keyC = pre.map keyC ++ [keyC x] := by simp
    have hkey : IntKind.u64.wrap x.v.c = (keyC x : Int) ∧ keyC x < 2 ^ 64 := by
      unfold keyC
      rw [IntKind.wrap_u64]; omega
    have a1 : W.cell? ⟨nb, 0, none⟩ = some (.pointer (some ⟨xb, 0, none⟩)) := (hkW.cell (p := ⟨nb, 0, none⟩) (by show nb < _; omega) (by show nb ≠ _; omega)).trans a0
    obtain ⟨S, hS⟩ : ∃ S, sumW pre = S := ⟨_, rfl⟩
    obtain ⟨S', hS'⟩ : ∃ S', IntKind.i64.wrap (S + x.v.b) = S' := ⟨_, rfl⟩
    rw [hS] at hsW s0 sS
    rw [hS'] at sS
    obtain ⟨xk, xv⟩ := x
    obtain ⟨vb, vc⟩ := xv
    dsimp only at y0 hbx hS' hkey ⊢
    gi_wp2
    have hb1 := (Below.heap_setCell W ⟨sb, 0, none⟩ (.int .i64 S') xb (by show xb ≠ sb; omega)).trans hbW
    have c2 : (W.setCell ⟨sb, 0, none⟩ (.int .i64 S')).cell? ⟨xb, 2, none⟩ = some (.pointer q') := cell_blk hb1 2 rfl
    have a2 : (W.setCell ⟨sb, 0, none⟩ (.int .i64 S')).cell? ⟨nb, 0, none⟩ = some (.pointer (some ⟨xb, 0, none⟩)) := (World.cell?_setCell_far _ _ _ _ (by show sb ≠ nb; omega)).trans a1
    have y1 : (W.setCell ⟨sb, 0, none⟩ (.int .i64 S')).cell? ⟨Bx, 1, none⟩ = some (.int .i64 vc) := (World.cell?_setCell_far _ _ _ _ (by show sb ≠ Bx; omega)).trans (cell_blk hbx 1 rfl)
    have HS1 : Hid (Boxed (W.setCell ⟨sb, 0, none⟩ (.int .i64 S')) sb 2 (.int .i64 S')) := Lib.hid (hsW.set _)
    have HN1 := Lib.hid (hnW.set (Apt.of hsW (by decide)) 0 (.int .i64 S'))
    have HK1 := Lib.hid ((KeepsOthers.setCell W ⟨sb, 0, none⟩ (.int .i64 S')))
    have HQ1 := Lib.hid ((Kq.refl xb w5.heap.size W).setNew (m := sb) (by omega) 0 (.int .i64 S'))
    have HSS := Lib.hid sS
    have HKS := Lib.hid kS
    have HQW := Lib.hid hkW
    have HB1 := Lib.hid hb1
    obtain ⟨hkey1, hkey2⟩ := hkey
    obtain ⟨kc, hkc⟩ : ∃ k, keyC ⟨xk, vb, vc⟩ = k := ⟨_, rfl⟩
    rw [hkc] at hkey1 hkey2 HKS
    have hDl : (dropAll (pre.map keyC) lc).length ≤ 1000 := Nat.le_trans (dropAll_len _ _) HCL.out.2
    have hDs := dropAll_snoc (pre.map keyC) kc lc
    rw [← HKS.out] at hDs
    obtain ⟨D, hD⟩ : ∃ D, dropAll (pre.map keyC) lc = D := ⟨_, rfl⟩
    rw [hD] at HN1 hDl hDs
    have HDS := Lib.hid hDs
    have HDR : Hid (∀ W', Ext (W.setCell ⟨sb, 0, none⟩ (.int .i64 S')) W' → Calls Tryz.prog 41 #[.agg #[.pointer q'], .int .u64 kc] W' (NmPost W' (dropL kc D))) := Lib.hid fun W' hx => nmdrop_calls q' D kc W' (HN1.out.ext hx) hkey2 hDl
    clear hb1 hbW hnW hsW hkW s0 s1 y0 a1 hbx sS kS hS hS' hkc hD hDl hDs hb hbm hbk hit hb6
    generalize W.setCell ⟨sb, 0, none⟩ (.int .i64 S') = W1 at *
    have hd : Ext W1 W1.drew := (Ext.refl W1).drew
    have keep : Hid (∀ W', Ext W1 W' → W'.cell? ⟨nb, 0, none⟩ = some (.pointer (some ⟨xb, 0, none⟩)) ∧ W'.cell? ⟨Bx, 1, none⟩ = some (.int .i64 vc)) := Lib.hid fun W' hE => ⟨hE.cell a2, hE.cell y1⟩
    have keep2 : Hid (∀ W', Ext W1 W' → ∀ v, (W'.setCell ⟨xb, 2, none⟩ v).cell? ⟨nb, 0, none⟩ = some (.pointer (some ⟨xb, 0, none⟩)) ∧ (W'.setCell ⟨xb, 2, none⟩ v).cell? ⟨Bx, 1, none⟩ = some (.int .i64 vc)) := Lib.hid fun W' hE v => ⟨(World.cell?_setCell_far _ _ _ v (by show xb ≠ nb; omega)).trans (hE.cell a2), (World.cell?_setCell_far _ _ _ v (by show xb ≠ Bx; omega)).trans (hE.cell y1)⟩
    refine wpInR_region_held_drew (S := fun w' => w'.cell? ⟨nb, 0, none⟩ = some (.pointer (some ⟨xb, 0, none⟩)) ∧ w'.cell? ⟨Bx, 1, none⟩ = some (.int .i64 vc)) (by kernel_rfl) (by kernel_rfl) (keep.out _ hd) (fun hHeld => ?_)
    refine wpAnyH_take (i := 0) (v := ?_) rfl (by kernel_rfl) (by kernel_rfl) (by kernel_rfl) (fun _ _ _ h => h) (Or.inl ⟨by rfl, ?_⟩) (by assumption) ?_
    rotate_left
    · intro w hSw
      try dsimp only at hSw
      go_simp
      try with_reducible rfl
    try simp only [Act.put]
    try simp only [List.setIfInBounds_toArray]
    try simp only [List.set_cons_succ]
    try simp only [List.set_cons_zero]
    refine wpAnyH_take (i := 1) (v := ?_) rfl (by kernel_rfl) (by kernel_rfl) (by kernel_rfl) (fun _ _ _ h => h) (Or.inl ⟨by rfl, ?_⟩) (by assumption) ?_
    rotate_left
    · intro w hSw
      try dsimp only at hSw
      go_simp
      try with_reducible rfl
    try simp only [Act.put]
    try simp only [List.setIfInBounds_toArray]
    try simp only [List.set_cons_succ]
    try simp only [List.set_cons_zero]
    refine wpAnyH_take (i := 2) (v := ?_) rfl (by kernel_rfl) (by kernel_rfl) (by kernel_rfl) (fun _ _ _ h => h) (Or.inl ⟨by rfl, ?_⟩) (by assumption) ?_
    rotate_left
    · intro w hSw
      try dsimp only at hSw
      go_simp
      try with_reducible rfl
    try simp only [Act.put]
    try simp only [List.setIfInBounds_toArray]
    try simp only [List.set_cons_succ]
    try simp only [List.set_cons_zero]
    refine wpAnyH_take (i := 3) (v := ?_) rfl (by kernel_rfl) (by kernel_rfl) (by kernel_rfl) (fun _ _ _ h => h) (Or.inl ⟨by rfl, ?_⟩) (by assumption) ?_
    rotate_left
    · intro w hSw
      try dsimp only at hSw
      go_simp
      try with_reducible rfl
    try simp only [Act.put]
    try simp only [List.setIfInBounds_toArray]
    try simp only [List.set_cons_succ]
    try simp only [List.set_cons_zero]
    refine wpAnyH_take (i := 5) (v := ?_) rfl (by kernel_rfl) (by kernel_rfl) (by kernel_rfl) (fun _ _ _ h => h) (Or.inl ⟨by rfl, ?_⟩) (by assumption) ?_
    rotate_left
    · intro w hSw
      try dsimp only at hSw
      go_simp
      try with_reducible rfl
    try simp only [Act.put]
    try simp only [List.setIfInBounds_toArray]
    try simp only [List.set_cons_succ]
    try simp only [List.set_cons_zero]
    refine wpAnyH_take (i := 6) (v := ?_) rfl (by kernel_rfl) (by kernel_rfl) (by kernel_rfl) (fun _ _ _ h => h) (Or.inl ⟨by rfl, ?_⟩) (by assumption) ?_
    rotate_left
    · intro w hSw
      try dsimp only at hSw
      go_simp
      try with_reducible rfl
    try simp only [Act.put]
    try simp only [List.setIfInBounds_toArray]
    try simp only [List.set_cons_succ]
    try simp only [List.set_cons_zero]
    refine wpAnyH_take (i := 7) (v := ?_) rfl (by kernel_rfl) (by kernel_rfl) (by kernel_rfl) (fun _ _ _ h => h) (Or.inl ⟨by rfl, ?_⟩) (by assumption) ?_
    rotate_left
    · intro w hSw
      try dsimp only at hSw
      go_simp
      try with_reducible rfl
    try simp only [Act.put]
    try simp only [List.setIfInBounds_toArray]
    try simp only [List.set_cons_succ]
    try simp only [List.set_cons_zero]
    refine wpAnyH_ready (rs := [4]) (by kernel_rfl) (by simp) ?_
    refine AllReadyH.cons rfl (fun K hK => ?_) AllReadyH.nil
    have e5' := hd.cell c2
    go_simp
    clear e5'
    refine hK.out _ _ ?_ (fun hHeld2 => ?_)
    · exact keep.out _ hd
    clear hHeld
    have hHeld := hHeld2
    clear hHeld2 hK K
    try simp only [Act.put]
    try simp only [List.setIfInBounds_toArray]
    try simp only [List.set_cons_succ]
    try simp only [List.set_cons_zero]
    refine wpAnyH_ready (rs := [8]) (by kernel_rfl) (by simp) ?_
    refine AllReadyH.cons rfl (fun K hK => ?_) AllReadyH.nil
    go_simp
    refine (HDR.out _ hd).mono ?_
    rintro e w7 ⟨q2, rfl, hin, hx7⟩
    replace hx7 := hd.trans hx7
    have hb7 := hx7.block HB1.out
    have c7 : w7.cell? ⟨xb, 2, none⟩ = some (.pointer q') := cell_blk hb7 2 rfl
    have f7 : w7.frozen? ⟨xb, 2, none⟩ = false := frozen_blk hb7 2
    go_simp
    refine hK.out _ _ ?_ (fun hHeld2 => ?_)
    · exact keep.out _ hx7
    clear hHeld
    have hHeld := hHeld2
    clear hHeld2 hK K
    try simp only [Act.put]
    try simp only [List.setIfInBounds_toArray]
    try simp only [List.set_cons_succ]
    try simp only [List.set_cons_zero]
    refine wpAnyH_take (i := 9) (v := ?_) rfl (by kernel_rfl) (by kernel_rfl) (by kernel_rfl) (fun _ _ _ h => h) (Or.inl ⟨by rfl, ?_⟩) (by assumption) ?_
    rotate_left
    · intro w hSw
      try dsimp only at hSw
      go_simp
      try with_reducible rfl
    try simp only [Act.put]
    try simp only [List.setIfInBounds_toArray]
    try simp only [List.set_cons_succ]
    try simp only [List.set_cons_zero]
    refine wpAnyH_take (i := 10) (v := ?_) rfl (by kernel_rfl) (by kernel_rfl) (by kernel_rfl) (fun _ _ _ h => h) (Or.inl ⟨by rfl, ?_⟩) (by assumption) ?_
    rotate_left
    · intro w hSw
      try dsimp only at hSw
      go_simp
      try with_reducible rfl
    try simp only [Act.put]
    try simp only [List.setIfInBounds_toArray]
    try simp only [List.set_cons_succ]
    try simp only [List.set_cons_zero]
    refine wpAnyH_ready (rs := [11]) (by kernel_rfl) (by simp) ?_
    refine AllReadyH.cons rfl (fun K hK => ?_) AllReadyH.nil
    go_simp
    refine hK.out _ _ ?_ (fun hHeld2 => ?_)
    · exact keep2.out _ hx7 _
    clear hHeld hHeld2 hK K c7 f7
    try simp only [Act.put]
    try simp only [List.setIfInBounds_toArray]
    try simp only [List.set_cons_succ]
    try simp only [List.set_cons_zero]
    refine wpAnyH_done (by kernel_rfl) ?_ _
    refine onlyN_intro ?_
    have hb8 := heap_setCell_same w7 xb 2 _ _ (.pointer q2) hb7
    have hKO : KeepsOthers w7 (w7.setCell ⟨xb, 2, none⟩ (.pointer q2)) := KeepsOthers.setCell _ _ _
    have hKO1 : KeepsOthers W1 w7 := ⟨hx7.size, fun k o h _ => hx7.block h⟩
    have hQQ := (HQ1.out.trans (Kq.of_ext hx7 (by have := HQ1.out.size; have := HQW.out.size; omega))).setOwn 2 (.pointer q2)
    gi_wp2
    refine ⟨((HK1.out.trans hKO1).trans hKO).from _, hQQ, ⟨q2, hb8, ?_⟩, ?_, HQW.out.trans hQQ⟩
    · rw [HDS.out]; exact hin.set (Apt.ix hb7) 2 _
    · rw [HSS.out]; exact (Below.heap_setCell w7 ⟨xb, 2, none⟩ (.pointer q2) sb (by show sb ≠ xb; omega)).trans (hx7.block HS1.out)
  case done =>
    rintro D ys W hD rfl hF hK
    obtain ⟨⟨q', hbW, hnW⟩, hsW, hkW⟩ := hF
    have hfl : It.fromO 0 ti = li := (It.from_zero hiw).trans hil
    rw [hfl] at hnW hsW
    rw [HSUM.out.2.1] at hnW
    rw [HSUM.out.1] at hsW
    obtain ⟨_, _, r1, r2, r3⟩ := HSUM.out
    have htw : IntKind.i64.wrap (t - R) = t - R := IntWalk.i64_in _ (by omega)
    have HM9 := Lib.hid (HM.out.kq HAP.out hkW)
    have HV9 := Lib.hid (HV.out.kq HAP.out hkW)
    have HN9 := Lib.hid hnW
    have HB := Lib.hid hbW
    have HS9 := Lib.hid hsW
    have HC9 := Lib.hid ((Chx.of_ext (xb := xb) hx0).trans (hkW.chx (Nat.le_refl _)))
    have a1 : W.cell? ⟨nb, 0, none⟩ = some (.pointer (some ⟨xb, 0, none⟩)) := (hkW.cell (p := ⟨nb, 0, none⟩) (by show nb < _; omega) (by show nb ≠ _; omega)).trans a0
    have c1 : W.cell? ⟨xb, 1, none⟩ = some (.pointer p) := cell_blk hbW 1 rfl
    have HD : Hid (∀ W', Ext W W' → Calls Tryz.prog 42 #[.agg #[.pointer p], .int .u64 kv] W' (MpPost W' (dropL kv lv))) := Lib.hid fun W' hx => mpdrop_calls p lv kv W' (HM9.out.ext hx) (by omega) HCL.out.1
    have keep : Hid (∀ W', Ext W W' → W'.cell? ⟨nb, 0, none⟩ = some (.pointer (some ⟨xb, 0, none⟩))) := Lib.hid fun W' hE => hE.cell a1
    have keep2 : Hid (∀ W', Ext W W' → ∀ v, (W'.setCell ⟨xb, 1, none⟩ v).cell? ⟨nb, 0, none⟩ = some (.pointer (some ⟨xb, 0, none⟩))) := Lib.hid fun W' hE v => (World.cell?_setCell_far _ _ _ v (by show xb ≠ nb; omega)).trans (hE.cell a1)
    have HK := Lib.hid hK
    clear hfl r1 r2 r3 hnW hbW hsW hkW hK hbm hbk hb hit hb6
    go_upto_region 9 with (fail)
    refine wp_region_noPanic ?_
    refine wp_region_held_drew (S := fun w' => w'.cell? ⟨nb, 0, none⟩ = some (.pointer (some ⟨xb, 0, none⟩))) (by kernel_rfl) ?_ (fun hHeld => ?_)
    · exact keep.out _ (Ext.refl W).drew
    refine wpAnyH_take (i := 0) (v := ?_) rfl (by kernel_rfl) (by kernel_rfl) (by kernel_rfl) (fun _ _ _ h => h) (Or.inl ⟨by rfl, ?_⟩) (by assumption) ?_
    rotate_left
    · intro w hSw
      try dsimp only at hSw
      go_simp
      try with_reducible rfl
    try simp only [Act.put]
    try simp only [List.setIfInBounds_toArray]
    try simp only [List.set_cons_succ]
    try simp only [List.set_cons_zero]
    refine wpAnyH_take (i := 1) (v := ?_) rfl (by kernel_rfl) (by kernel_rfl) (by kernel_rfl) (fun _ _ _ h => h) (Or.inl ⟨by rfl, ?_⟩) (by assumption) ?_
    rotate_left
    · intro w hSw
      try dsimp only at hSw
      go_simp
      try with_reducible rfl
    try simp only [Act.put]
    try simp only [List.setIfInBounds_toArray]
    try simp only [List.set_cons_succ]
    try simp only [List.set_cons_zero]
    refine wpAnyH_take (i := 2) (v := ?_) rfl (by kernel_rfl) (by kernel_rfl) (by kernel_rfl) (fun _ _ _ h => h) (Or.inl ⟨by rfl, ?_⟩) (by assumption) ?_
    rotate_left
    · intro w hSw
      try dsimp only at hSw
      go_simp
      try with_reducible rfl
    try simp only [Act.put]
    try simp only [List.setIfInBounds_toArray]
    try simp only [List.set_cons_succ]
    try simp only [List.set_cons_zero]
    refine wpAnyH_take (i := 3) (v := ?_) rfl (by kernel_rfl) (by kernel_rfl) (by kernel_rfl) (fun _ _ _ h => h) (Or.inl ⟨by rfl, ?_⟩) (by assumption) ?_
    rotate_left
    · intro w hSw
      try dsimp only at hSw
      go_simp
      try with_reducible rfl
    try simp only [Act.put]
    try simp only [List.setIfInBounds_toArray]
    try simp only [List.set_cons_succ]
    try simp only [List.set_cons_zero]
    refine wpAnyH_take (i := 5) (v := ?_) rfl (by kernel_rfl) (by kernel_rfl) (by kernel_rfl) (fun _ _ _ h => h) (Or.inl ⟨by rfl, ?_⟩) (by assumption) ?_
    rotate_left
    · intro w hSw
      try dsimp only at hSw
      go_simp
      try with_reducible rfl
    try simp only [Act.put]
    try simp only [List.setIfInBounds_toArray]
    try simp only [List.set_cons_succ]
    try simp only [List.set_cons_zero]
    refine wpAnyH_take (i := 6) (v := ?_) rfl (by kernel_rfl) (by kernel_rfl) (by kernel_rfl) (fun _ _ _ h => h) (Or.inl ⟨by rfl, ?_⟩) (by assumption) ?_
    rotate_left
    · intro w hSw
      try dsimp only at hSw
      go_simp
      try with_reducible rfl
    try simp only [Act.put]
    try simp only [List.setIfInBounds_toArray]
    try simp only [List.set_cons_succ]
    try simp only [List.set_cons_zero]
    refine wpAnyH_ready (rs := [4]) (by kernel_rfl) (by simp) ?_
    refine AllReadyH.cons rfl (fun K hK => ?_) AllReadyH.nil
    have e5' := (show Ext W W.drew from (Ext.refl W).drew).cell c1
    go_simp
    clear e5'
    refine hK.out _ _ ?_ (fun hHeld2 => ?_)
    · exact keep.out _ (Ext.refl W).drew
    clear hHeld
    have hHeld := hHeld2
    clear hHeld2 hK K
    try simp only [Act.put]
    try simp only [List.setIfInBounds_toArray]
    try simp only [List.set_cons_succ]
    try simp only [List.set_cons_zero]
    refine wpAnyH_ready (rs := [7]) (by kernel_rfl) (by simp) ?_
    refine AllReadyH.cons rfl (fun K hK => ?_) AllReadyH.nil
    go_simp
    refine (HD.out _ (Ext.refl W).drew).mono ?_
    rintro e wc ⟨pv, rfl, hic, hxc⟩
    replace hxc := (show Ext W W.drew from (Ext.refl W).drew).trans hxc
    have q1 := hxc.cell c1
    have q2 : wc.frozen? ⟨xb, 1, none⟩ = false := frozen_blk (hxc.block HB.out) 1
    go_simp
    refine hK.out _ _ ?_ (fun hHeld2 => ?_)
    · exact keep.out _ hxc
    clear hHeld
    have hHeld := hHeld2
    clear hHeld2 hK K
    try simp only [Act.put]
    try simp only [List.setIfInBounds_toArray]
    try simp only [List.set_cons_succ]
    try simp only [List.set_cons_zero]
    refine wpAnyH_take (i := 8) (v := ?_) rfl (by kernel_rfl) (by kernel_rfl) (by kernel_rfl) (fun _ _ _ h => h) (Or.inl ⟨by rfl, ?_⟩) (by assumption) ?_
    rotate_left
    · intro w hSw
      try dsimp only at hSw
      go_simp
      try with_reducible rfl
    try simp only [Act.put]
    try simp only [List.setIfInBounds_toArray]
    try simp only [List.set_cons_succ]
    try simp only [List.set_cons_zero]
    refine wpAnyH_take (i := 9) (v := ?_) rfl (by kernel_rfl) (by kernel_rfl) (by kernel_rfl) (fun _ _ _ h => h) (Or.inl ⟨by rfl, ?_⟩) (by assumption) ?_
    rotate_left
    · intro w hSw
      try dsimp only at hSw
      go_simp
      try with_reducible rfl
    try simp only [Act.put]
    try simp only [List.setIfInBounds_toArray]
    try simp only [List.set_cons_succ]
    try simp only [List.set_cons_zero]
    refine wpAnyH_ready (rs := [10]) (by kernel_rfl) (by simp) ?_
    refine AllReadyH.cons rfl (fun K hK => ?_) AllReadyH.nil
    go_simp
    refine hK.out _ _ ?_ (fun hHeld2 => ?_)
    · exact keep2.out _ hxc _
    clear hHeld hHeld2 hK K q1 q2
    try simp only [Act.put]
    try simp only [List.setIfInBounds_toArray]
    try simp only [List.set_cons_succ]
    try simp only [List.set_cons_zero]
    refine wpAnyH_done (by kernel_rfl) ?_ _
    refine noPanic_intro ?_
    have hbc := hxc.block HB.out
    have hapc : Apt xb wc := Apt.ix hbc
    have hb2 := heap_setCell_same wc xb 1 _ _ (.pointer pv) hbc
    have HM10 := Lib.hid (hic.set hapc 1 (.pointer pv))
    have HV10 := Lib.hid ((HV9.out.ext hxc).set hapc 1 (.pointer pv))
    have HN10 := Lib.hid ((HN9.out.ext hxc).set hapc 1 (.pointer pv))
    have HC10 := Lib.hid ((HC9.out.trans (Chx.of_ext hxc)).set 1 (.pointer pv))
    have hS10 := (Below.heap_setCell wc ⟨xb, 1, none⟩ (.pointer pv) sb (by show sb ≠ xb; omega)).trans (hxc.block HS9.out)
    have hK10 := (Below.heap_setCell wc ⟨xb, 1, none⟩ (.pointer pv) D (by show D ≠ xb; omega)).trans (hxc.block HK.out)
    have b1 : (wc.setCell ⟨xb, 1, none⟩ (.pointer pv)).cell? ⟨nb, 0, none⟩ = some (.pointer (some ⟨xb, 0, none⟩)) := keep2.out _ hxc _
    clear keep keep2 HD c1 a1 hic hapc hxc HB HM9 HV9 HN9 HC9 HS9 HK hbc
    go_upto_region 10 with (fail)
    generalize wc.setCell ⟨xb, 1, none⟩ (.pointer pv) = w10 at *
    have HB := Lib.hid (show w10.heap[xb]? = some (.cells #[.int .i64 u, .pointer pv, .pointer q', .int .i64 c0, .int .i64 t] 77 (0, 0)) from hb2)
    have c4 : w10.cell? ⟨xb, 4, none⟩ = some (.int .i64 t) := cell_blk HB.out 4 rfl
    have s10 : w10.cell? ⟨sb, 0, none⟩ = some (.int .i64 R) := cell_blk hS10 0 rfl
    have keep : Hid (∀ W', Ext w10 W' → W'.cell? ⟨nb, 0, none⟩ = some (.pointer (some ⟨xb, 0, none⟩)) ∧ W'.cell? ⟨sb, 0, none⟩ = some (.int .i64 R)) := Lib.hid fun W' hE => ⟨hE.cell b1, hE.cell s10⟩
    have keep2 : Hid (∀ W', Ext w10 W' → ∀ v, (W'.setCell ⟨xb, 4, none⟩ v).cell? ⟨nb, 0, none⟩ = some (.pointer (some ⟨xb, 0, none⟩)) ∧ (W'.setCell ⟨xb, 4, none⟩ v).cell? ⟨sb, 0, none⟩ = some (.int .i64 R)) := Lib.hid fun W' hE v => ⟨(World.cell?_setCell_far _ _ _ v (by show xb ≠ nb; omega)).trans (hE.cell b1), (World.cell?_setCell_far _ _ _ v (by show xb ≠ sb; omega)).trans (hE.cell s10)⟩
    have hd : Ext w10 w10.drew := (Ext.refl w10).drew
    have HK10 := Lib.hid hK10
    clear hb2 hK10
    refine wp_region_noPanic ?_
    refine wp_region_held_drew (S := fun w' => w'.cell? ⟨nb, 0, none⟩ = some (.pointer (some ⟨xb, 0, none⟩)) ∧ w'.cell? ⟨sb, 0, none⟩ = some (.int .i64 R)) (by kernel_rfl) ?_ (fun hHeld => ?_)
    · exact keep.out _ hd
    refine wpAnyH_take (i := 0) (v := ?_) rfl (by kernel_rfl) (by kernel_rfl) (by kernel_rfl) (fun _ _ _ h => h) (Or.inl ⟨by rfl, ?_⟩) (by assumption) ?_
    rotate_left
    · intro w hSw
      try dsimp only at hSw
      go_simp
      try with_reducible rfl
    try simp only [Act.put]
    try simp only [List.setIfInBounds_toArray]
    try simp only [List.set_cons_succ]
    try simp only [List.set_cons_zero]
    refine wpAnyH_take (i := 1) (v := ?_) rfl (by kernel_rfl) (by kernel_rfl) (by kernel_rfl) (fun _ _ _ h => h) (Or.inl ⟨by rfl, ?_⟩) (by assumption) ?_
    rotate_left
    · intro w hSw
      try dsimp only at hSw
      go_simp
      try with_reducible rfl
    try simp only [Act.put]
    try simp only [List.setIfInBounds_toArray]
    try simp only [List.set_cons_succ]
    try simp only [List.set_cons_zero]
    refine wpAnyH_take (i := 2) (v := ?_) rfl (by kernel_rfl) (by kernel_rfl) (by kernel_rfl) (fun _ _ _ h => h) (Or.inl ⟨by rfl, ?_⟩) (by assumption) ?_
    rotate_left
    · intro w hSw
      try dsimp only at hSw
      go_simp
      try with_reducible rfl
    try simp only [Act.put]
    try simp only [List.setIfInBounds_toArray]
    try simp only [List.set_cons_succ]
    try simp only [List.set_cons_zero]
    refine wpAnyH_take (i := 4) (v := ?_) rfl (by kernel_rfl) (by kernel_rfl) (by kernel_rfl) (fun _ _ _ h => h) (Or.inl ⟨by rfl, ?_⟩) (by assumption) ?_
    rotate_left
    · intro w hSw
      try dsimp only at hSw
      go_simp
      try with_reducible rfl
    try simp only [Act.put]
    try simp only [List.setIfInBounds_toArray]
    try simp only [List.set_cons_succ]
    try simp only [List.set_cons_zero]
    refine wpAnyH_ready (rs := [3]) (by kernel_rfl) (by simp) ?_
    refine AllReadyH.cons rfl (fun K hK => ?_) AllReadyH.nil
    have e5' := hd.cell c4
    go_simp
    clear e5'
    refine hK.out _ _ ?_ (fun hHeld2 => ?_)
    · exact keep.out _ hd
    clear hHeld
    have hHeld := hHeld2
    clear hHeld2 hK K
    try simp only [Act.put]
    try simp only [List.setIfInBounds_toArray]
    try simp only [List.set_cons_succ]
    try simp only [List.set_cons_zero]
    refine wpAnyH_take (i := 5) (v := ?_) rfl (by kernel_rfl) (by kernel_rfl) (by kernel_rfl) (fun _ _ _ h => h) (Or.inl ⟨by rfl, ?_⟩) (by assumption) ?_
    rotate_left
    · intro w hSw
      try dsimp only at hSw
      go_simp
      try with_reducible rfl
    try simp only [Act.put]
    try simp only [List.setIfInBounds_toArray]
    try simp only [List.set_cons_succ]
    try simp only [List.set_cons_zero]
    refine wpAnyH_take (i := 6) (v := ?_) rfl (by kernel_rfl) (by kernel_rfl) (by kernel_rfl) (fun _ _ _ h => h) (Or.inl ⟨by rfl, ?_⟩) (by assumption) ?_
    rotate_left
    · intro w hSw
      try dsimp only at hSw
      go_simp
      try with_reducible rfl
    try simp only [Act.put]
    try simp only [List.setIfInBounds_toArray]
    try simp only [List.set_cons_succ]
    try simp only [List.set_cons_zero]
    refine wpAnyH_take (i := 7) (v := ?_) rfl (by kernel_rfl) (by kernel_rfl) (by kernel_rfl) (fun _ _ _ h => h) (Or.inl ⟨by rfl, ?_⟩) (by assumption) ?_
    rotate_left
    · intro w hSw
      try dsimp only at hSw
      go_simp
      try with_reducible rfl
    try simp only [Act.put]
    try simp only [List.setIfInBounds_toArray]
    try simp only [List.set_cons_succ]
    try simp only [List.set_cons_zero]
    refine wpAnyH_ready (rs := [8]) (by kernel_rfl) (by simp) ?_
    refine AllReadyH.cons rfl (fun K hK => ?_) AllReadyH.nil
    have q1 := hd.cell c4
    have q2 : w10.drew.frozen? ⟨xb, 4, none⟩ = false := frozen_blk (hd.block HB.out) 4
    go_simp
    refine hK.out _ _ ?_ (fun hHeld2 => ?_)
    · exact keep2.out _ hd _
    clear hHeld hHeld2 hK K q1 q2
    try simp only [Act.put]
    try simp only [List.setIfInBounds_toArray]
    try simp only [List.set_cons_succ]
    try simp only [List.set_cons_zero]
    refine wpAnyH_done (by kernel_rfl) ?_ _
    refine noPanic_intro ?_
    have hap : Apt xb w10 := Apt.ix HB.out
    have hs2 : (w10.setCell ⟨xb, 4, none⟩ (.int .i64 (t - R))).cell? ⟨sb, 0, none⟩ = some (.int .i64 R) := (keep2.out _ (Ext.refl _) _).2
    have hK11 : (w10.setCell ⟨xb, 4, none⟩ (.int .i64 (t - R))).heap[D]? = some (.deferred (some [])) := (Below.heap_setCell w10 ⟨xb, 4, none⟩ (.int .i64 (t - R)) D (by show D ≠ xb; omega)).trans HK10.out
    have hd2 : Ext (w10.setCell ⟨xb, 4, none⟩ (.int .i64 (t - R))) (w10.setCell ⟨xb, 4, none⟩ (.int .i64 (t - R))).drew := (Ext.refl _).drew
    replace hs2 := hd2.cell hs2
    replace hK11 := hd2.block hK11
    have HFI := Lib.hid (HFF.out _ pv q' (heap_setCell_same w10 xb 4 _ _ (.int .i64 (t - R)) HB.out) (HV10.out.set hap 4 _) (HM10.out.set hap 4 _) (HN10.out.set hap 4 _))
    have HCI := Lib.hid (HC10.out.set 4 (.int .i64 (t - R)))
    go_wp2
    refine ⟨by simp, .inl ⟨_, _, rfl, run_takeDeferred hK11, ?_⟩⟩
    have hDz : w.heap.size ≤ D := by have := hx56.size; have := hx0.size; omega
    have hgr := grownBy_putObj' (w10.setCell ⟨xb, 4, none⟩ (.int .i64 (t - R))).drew D (.deferred none)
    refine ⟨.int .i64 R, by simp [results, Tryz.f18, go_sem], by rw [HRR.out], by rw [HCX.out]; exact (HFI.out.ext hd2).grown hgr fun r e => by cases e; exact ⟨_, hK11, rfl⟩, (HCI.out.drew).grown hgr fun r e => by cases e; exact hDz⟩
  case stop =>
    rintro D c pre W _ _ h _
    exact h.elim

set_option maxHeartbeats 1000000 in
set_option maxRecDepth 100000 in
theorem forg_no (xb : Nat) (u : Int) (x : Ix) (v : Int) (w : World) (h : IxAt w xb u x) (hf : Fit u x) (hne : itemsOf x.L v = []) :
    Calls Tryz.prog 18 #[.pointer (some ⟨xb, 0, none⟩), .int .i64 v] w (XPost w xb u x (.int .i64 0)) := by
  have hx0 : Ext w (w.alloc (.cells #[.pointer (some ⟨xb, 0, none⟩)] 24)) := (Ext.refl w).alloc _
  have a0 : (w.alloc (.cells #[.pointer (some ⟨xb, 0, none⟩)] 24)).cell? ⟨w.heap.size, 0, none⟩ = some (.pointer (some ⟨xb, 0, none⟩)) := by simp
  have H0 := Lib.hid (h.ext hx0)
  clear h
  refine (callsIn_wide (n := 5)).1 ?_
  refine callsIn_of_wp_marks Tryz.func18 rfl trivial ?_ rfl
  simp only [Tryz.ntmps18, List.size_toArray, List.length_cons, List.length_nil, Nat.reduceAdd, Nat.reduceSub, Array.replicate_succ, Array.replicate_zero, List.push_toArray, List.append_toArray, List.nil_append, List.cons_append]
  refine wpIn_wide.2 ?_
  go_upto_region 1 with (fail)
  generalize w.alloc (.cells #[.pointer (some ⟨xb, 0, none⟩)] 24) = W at *
  go_wp2_with fail
  refine (ofx_calls xb u x v W H0.out hf).mono ?_
  rw [hne]
  rintro e w3 ⟨pm, rfl, hit, hx1⟩
  replace H0 := Lib.hid (H0.out.ext hx1)
  replace hx0 := hx0.trans hx1
  clear hx1 a0
  go_upto_region 2 with (fail)
  have hx1 : Ext w3 (w3.alloc (.cells #[.pointer pm] 81)) := (Ext.refl _).alloc _
  have m0 : (w3.alloc (.cells #[.pointer pm] 81)).cell? ⟨w3.heap.size, 0, none⟩ = some (.pointer pm) := by simp
  replace H0 := Lib.hid (H0.out.ext hx1)
  replace hx0 := hx0.trans hx1
  replace hit := hit.ext hx1
  clear hx1
  generalize (w3.alloc (.cells #[.pointer pm] 81)) = w4 at *
  go_wp2_with fail
  refine (itlen_calls pm [] w4 hit).mono ?_
  rintro e w5 ⟨rfl, hx1⟩
  replace H0 := Lib.hid (H0.out.ext hx1)
  replace hx0 := hx0.trans hx1
  go_wp2
  exact ⟨.int .i64 0, by simp [results, Tryz.f18, go_sem], rfl, H0.out, Chx.of_ext hx0⟩
theorem xforget_calls (xb : Nat) (u : Int) (x : Ix) (v : Int) (w : World) (h : IxAt w xb u x) (hf : Fit u x) :
    Calls Tryz.prog 18 #[.pointer (some ⟨xb, 0, none⟩), .int .i64 v] w (XPost w xb u ⟨forgS x.L v, x.c⟩ (.int .i64 (sumS (x.L.filter fun s => decide (s.v = v))))) := by
  by_cases hne : itemsOf x.L v = []
  · have hn := (items_nil hf.ok.dis hf.ok.n0 v).1 hne
    have e1 : (x.L.filter fun s => decide (s.v = v)) = [] := List.filter_eq_nil_iff.2 fun s hs => by simpa using hn s hs
    have e2 : forgS x.L v = x.L := List.filter_eq_self.2 fun s hs => by simpa using hn s hs
    rw [e1, e2]
    exact forg_no xb u x v w h hf hne
  · exact forg_yes xb u x v w h hf hne
end Go.Proofs.YtgcplndmhlideaaGreat
