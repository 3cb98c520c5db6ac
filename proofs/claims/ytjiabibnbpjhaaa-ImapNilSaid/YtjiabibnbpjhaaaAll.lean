/- The contracts of the law's own all and in: the runs that a map tells, as a list. -/
import Derived.Test.YtjiabibnbpjhaaaIter
namespace Go.Proofs.Ytjiabibnbpjhaaa
open Go.RowKit

theorem info50 : (Try.prog.info? 50).map (fun i => (i.zero, i.size, i.bytes)) = some (some (.agg #[.int .i64 0, .int .i64 0, .int .i64 0]), 3, 24) := by kernel_rfl

/-- The variable that is appended to, and the row that it holds. -/
def Out (B o : Nat) (L : List Rn) (w : World) : Prop := ∃ v, w.heap[o]? = some (.cells #[v] 27 (0, 0)) ∧ w.ownsRow B 50 3 v L.length (flat L) ∧ B ≤ o

theorem Out.ext {B o : Nat} {L : List Rn} {w w' : World} (h : Out B o L w) (hx : Ext w w') : Out B o L w' := by
  obtain ⟨v, h1, h2, h3⟩ := h
  exact ⟨v, hx.block h1, ownsRow_ext h2 hx, h3⟩

theorem own_ne {w : World} {base : Nat} {e t : TypeId} {size n : Nat} {v : Value} {xs : List Value} {g : Nat} {cs : Array Value} {fr : Nat × Nat} (h : w.ownsRow base e size v n xs) (hg : w.heap[g]? = some (.cells cs t fr)) (hne : t ≠ e) : v.ownBlock ≠ some g := by
  rcases h.2 with ⟨rfl, _⟩ | ⟨g', cap, cur, rfl, _, hh, _⟩
  · simp [Value.ownBlock]
  · intro he
    obtain rfl : g' = g := by simpa [Value.ownBlock] using he
    rw [hg] at hh
    injection hh with hh
    injection hh with _ ht
    exact hne ht

/-- An append, then the store of what it gave: a step of Kp. -/
theorem kp_step {B o : Nat} {w w1 : World} {v v' : Value} {n : Nat} {xs : List Value} {w0 : World} (hx : Ext w0 w) (hB : B ≤ w0.heap.size) (hown : w.ownsRow B 50 3 v n xs) (hm : Moved w w1 v v') (hBo : B ≤ o) :
    Kp B o 50 w0 (w1.setCell ⟨o, 0, none⟩ v') := by
  have h1 : Below B w w1 := ⟨hm.1.os, hm.1.tape, hm.1.output, hm.1.size, fun k hk => hm.1.block k (Nat.lt_of_lt_of_le hk (Nat.le_trans hB hx.size)) (fun e => by have := (own_lt hown e.symm).1; omega)⟩
  refine ⟨((Below.mono hx hB).trans h1).setCell (p := ⟨o, 0, none⟩) hBo _, fun g cs t fr hg ht ho => ?_⟩
  rw [Below.heap_setCell _ _ _ _ ho]
  have hg1 := hx.block hg
  rw [hm.1.block g (Array.getElem?_eq_some_iff.1 hg1).1 (fun e => own_ne hown hg1 ht e.symm)]
  exact hg1

/-- What telling one run more comes to. -/
def Tell (B o : Nat) (L : List Rn) (r : Rn) (w : World) (e : Ending) (w' : World) : Prop :=
  ∃ q, e = .returned (.bool q) ∧ Kp B o 50 w w' ∧ (q = true → Out B o (L ++ [r]) w') ∧ (q = false → False)

set_option maxRecDepth 100000 in
theorem all1_calls (B o : Nat) (L : List Rn) (r : Rn) (w : World) (hJ : Out B o L w) (hB : B ≤ w.heap.size) (hL : L.length ≤ 5000) :
    Calls Try.prog 37 #[.agg #[.int .i64 r.f, .int .i64 r.t], .int .i64 r.v, .pointer (some ⟨o, 0, none⟩)] w (Tell B o L r w) := by
  obtain ⟨v, ho, hown, hBo⟩ := hJ
  obtain ⟨A, c, rfl, _⟩ := own_shape hown
  have hlt := (Array.getElem?_eq_some_iff.1 ho).1
  have hlt1 : o < w.heap.size + 1 := by omega
  have o0 : w.cell? ⟨o, 0, none⟩ = some (.slice A L.length c) := by rw [cell_of_row w o 0 _ _ _ ho]; rfl
  go_enter Try.func37, Try.ntmps37
  have hx1 : Ext w (w.alloc (.cells #[.int .i64 r.f, .int .i64 r.t] 34)) := (Ext.refl w).alloc _
  have hown1 := ownsRow_ext hown hx1
  have ho1 := hx1.block ho
  have hlt1' : o < (w.alloc (.cells #[.int .i64 r.f, .int .i64 r.t] 34)).heap.size := by simpa using hlt1
  go_wp2_with (at_builtin; refine wpList_append_new _ rfl _ _ 27 rfl B 50 _ 3 24 Try.underlying27 info50 rfl (by omega) (.slice A L.length c) _ _ rfl hown1 1 1 _ (by simp) _ rfl rfl (by simp [Value.oneCell']) (by simp [maxLen]; omega) (by omega) (by simp; omega) ?_; intro v1 w1 hown2 hm; obtain ⟨A1, c1, rfl, _⟩ := own_shape hown2; have ho2 := (hm.1.block o hlt1' (fun e => own_ne hown1 ho1 (by decide) e.symm)).trans ho1; have o1 : w1.cell? ⟨o, 0, none⟩ = some (.slice A L.length c) := (by rw [cell_of_row w1 o 0 _ _ _ ho2]; rfl); have o2 : w1.frozen? ⟨o, 0, none⟩ = false := (by simp [World.frozen?, ho2]))
  go_ret
  have hd : decide ((L.length : Int) + 1 < 10000) = true := by simp; omega
  have hset : (w1.setCell ⟨o, 0, none⟩ (.slice A1 (L.length + 1) c1)).heap[o]? = some (.cells #[.slice A1 (L.length + 1) c1] 27 (0, 0)) := heap_setCell_same w1 o 0 _ 27 _ ho2
  refine ⟨true, ?_, kp_step hx1 hB hown1 hm hBo, fun _ => ⟨_, hset, ?_, hBo⟩, by simp⟩
  · rw [← hd]; rfl
  · have h3 := World.ownsRow.kept (row := some o) hown2 (w' := w1.setCell ⟨o, 0, none⟩ (.slice A1 (L.length + 1) c1)) ⟨rfl, rfl, rfl, by simp [World.setCell], fun k _ hk => Below.heap_setCell _ _ _ _ (fun e => hk (by rw [e]))⟩ (.inr (own_ne hown2 ho2 (by decide)))
    rw [flat_append, flat_one, List.length_append]
    exact h3

set_option maxRecDepth 100000 in
theorem in1_calls (B o : Nat) (L : List Rn) (r : Rn) (w : World) (hJ : Out B o L w) (hB : B ≤ w.heap.size) (hL : L.length ≤ 5000) :
    Calls Try.prog 39 #[.agg #[.int .i64 r.f, .int .i64 r.t], .int .i64 r.v, .pointer (some ⟨o, 0, none⟩)] w (Tell B o L r w) := by
  obtain ⟨v, ho, hown, hBo⟩ := hJ
  obtain ⟨A, c, rfl, _⟩ := own_shape hown
  have hlt := (Array.getElem?_eq_some_iff.1 ho).1
  have hlt1 : o < w.heap.size + 1 := by omega
  have o0 : w.cell? ⟨o, 0, none⟩ = some (.slice A L.length c) := by rw [cell_of_row w o 0 _ _ _ ho]; rfl
  go_enter Try.func39, Try.ntmps39
  have hx1 : Ext w (w.alloc (.cells #[.int .i64 r.f, .int .i64 r.t] 34)) := (Ext.refl w).alloc _
  have hown1 := ownsRow_ext hown hx1
  have ho1 := hx1.block ho
  have hlt1' : o < (w.alloc (.cells #[.int .i64 r.f, .int .i64 r.t] 34)).heap.size := by simpa using hlt1
  go_wp2_with (at_builtin; refine wpList_append_new _ rfl _ _ 27 rfl B 50 _ 3 24 Try.underlying27 info50 rfl (by omega) (.slice A L.length c) _ _ rfl hown1 1 1 _ (by simp) _ rfl rfl (by simp [Value.oneCell']) (by simp [maxLen]; omega) (by omega) (by simp; omega) ?_; intro v1 w1 hown2 hm; obtain ⟨A1, c1, rfl, _⟩ := own_shape hown2; have ho2 := (hm.1.block o hlt1' (fun e => own_ne hown1 ho1 (by decide) e.symm)).trans ho1; have o1 : w1.cell? ⟨o, 0, none⟩ = some (.slice A L.length c) := (by rw [cell_of_row w1 o 0 _ _ _ ho2]; rfl); have o2 : w1.frozen? ⟨o, 0, none⟩ = false := (by simp [World.frozen?, ho2]))
  go_ret
  have hd : decide ((L.length : Int) + 1 < 10000) = true := by simp; omega
  have hset : (w1.setCell ⟨o, 0, none⟩ (.slice A1 (L.length + 1) c1)).heap[o]? = some (.cells #[.slice A1 (L.length + 1) c1] 27 (0, 0)) := heap_setCell_same w1 o 0 _ 27 _ ho2
  refine ⟨true, ?_, kp_step hx1 hB hown1 hm hBo, fun _ => ⟨_, hset, ?_, hBo⟩, by simp⟩
  · rw [← hd]; rfl
  · have h3 := World.ownsRow.kept (row := some o) hown2 (w' := w1.setCell ⟨o, 0, none⟩ (.slice A1 (L.length + 1) c1)) ⟨rfl, rfl, rfl, by simp [World.setCell], fun k _ hk => Below.heap_setCell _ _ _ _ (fun e => hk (by rw [e]))⟩ (.inr (own_ne hown2 ho2 (by decide)))
    rw [flat_append, flat_one, List.length_append]
    exact h3

set_option maxRecDepth 100000 in
theorem apart1_calls (B o : Nat) (L : List Rn) (r : Rn) (w : World) (hJ : Out B o L w) (hB : B ≤ w.heap.size) (hL : L.length ≤ 5000) :
    Calls Try.prog 24 #[.agg #[.int .i64 r.f, .int .i64 r.t], .int .i64 r.v, .pointer (some ⟨o, 0, none⟩)] w (Tell B o L r w) := by
  obtain ⟨v, ho, hown, hBo⟩ := hJ
  obtain ⟨A, c, rfl, _⟩ := own_shape hown
  have hlt := (Array.getElem?_eq_some_iff.1 ho).1
  have hlt1 : o < w.heap.size + 1 := by omega
  have o0 : w.cell? ⟨o, 0, none⟩ = some (.slice A L.length c) := by rw [cell_of_row w o 0 _ _ _ ho]; rfl
  go_enter Try.func24, Try.ntmps24
  have hx1 : Ext w (w.alloc (.cells #[.int .i64 r.f, .int .i64 r.t] 34)) := (Ext.refl w).alloc _
  have hown1 := ownsRow_ext hown hx1
  have ho1 := hx1.block ho
  have hlt1' : o < (w.alloc (.cells #[.int .i64 r.f, .int .i64 r.t] 34)).heap.size := by simpa using hlt1
  go_wp2_with (at_builtin; refine wpList_append_new _ rfl _ _ 27 rfl B 50 _ 3 24 Try.underlying27 info50 rfl (by omega) (.slice A L.length c) _ _ rfl hown1 1 1 _ (by simp) _ rfl rfl (by simp [Value.oneCell']) (by simp [maxLen]; omega) (by omega) (by simp; omega) ?_; intro v1 w1 hown2 hm; obtain ⟨A1, c1, rfl, _⟩ := own_shape hown2; have ho2 := (hm.1.block o hlt1' (fun e => own_ne hown1 ho1 (by decide) e.symm)).trans ho1; have o1 : w1.cell? ⟨o, 0, none⟩ = some (.slice A L.length c) := (by rw [cell_of_row w1 o 0 _ _ _ ho2]; rfl); have o2 : w1.frozen? ⟨o, 0, none⟩ = false := (by simp [World.frozen?, ho2]))
  go_ret
  have hd : decide ((L.length : Int) + 1 < 10000) = true := by simp; omega
  have hset : (w1.setCell ⟨o, 0, none⟩ (.slice A1 (L.length + 1) c1)).heap[o]? = some (.cells #[.slice A1 (L.length + 1) c1] 27 (0, 0)) := heap_setCell_same w1 o 0 _ 27 _ ho2
  refine ⟨true, ?_, kp_step hx1 hB hown1 hm hBo, fun _ => ⟨_, hset, ?_, hBo⟩, by simp⟩
  · rw [← hd]; rfl
  · have h3 := World.ownsRow.kept (row := some o) hown2 (w' := w1.setCell ⟨o, 0, none⟩ (.slice A1 (L.length + 1) c1)) ⟨rfl, rfl, rfl, by simp [World.setCell], fun k _ hk => Below.heap_setCell _ _ _ _ (fun e => hk (by rw [e]))⟩ (.inr (own_ne hown2 ho2 (by decide)))
    rw [flat_append, flat_one, List.length_append]
    exact h3

/-- A slice of runs that reads as l, its cells in rows of element type T. -/
def Row3 (w : World) (A : Option Addr) (l : List Rn) : Prop :=
  ∀ (k : Nat) (h : k < l.length), ∃ b, A = some ⟨b, 0, none⟩ ∧ w.cell? ⟨b, k * 3, none⟩ = some (.int .i64 l[k].f) ∧ w.cell? ⟨b, k * 3 + 1, none⟩ = some (.int .i64 l[k].t) ∧ w.cell? ⟨b, k * 3 + 2, none⟩ = some (.int .i64 l[k].v)
theorem Row3.ext {w w' : World} {A : Option Addr} {l : List Rn} (h : Row3 w A l) (hx : Ext w w') : Row3 w' A l := fun k hk => by
  obtain ⟨b, hA, p0, p1, p2⟩ := h k hk
  exact ⟨b, hA, hx.cell p0, hx.cell p1, hx.cell p2⟩
theorem row3_own {w : World} {base : Nat} {e : TypeId} {A : Option Addr} {c : Nat} {l : List Rn} (h : w.ownsRow base e 3 (.slice A l.length c) l.length (flat l)) : Row3 w A l := fun k hk => by
  obtain ⟨g, cap, hv, _, _⟩ := h.form (by omega)
  cases hv
  refine ⟨g, rfl, ?_, ?_, ?_⟩
  · rw [h.cellAt _ (by omega)]; exact (flat_get l k 0 hk (by omega)).trans rfl
  · rw [h.cellAt _ (by omega)]; exact (flat_get l k 1 hk (by omega)).trans rfl
  · rw [h.cellAt _ (by omega)]; exact (flat_get l k 2 hk (by omega)).trans rfl


theorem enters37 (args : Array Value) (w : World) : (callFunc 37 args).run Try.prog w = .ok (.enter 37 args) w := by
  simp [go_sem]
theorem meetsR_length (l : List Rn) (f t : Int) : (meetsR l f t).length ≤ l.length := by
  unfold meetsR; rw [List.length_map]; exact List.length_filter_le _ _

/-- Behind a walk over runs that appended to the variable o: what was there before the variable is as it was. -/
theorem ext_of_kp {w w1 w2 : World} {o : Nat} {T : TypeId} (h1 : Ext w w1) (h : Kp w.heap.size o T w1 w2) : Ext w w2 :=
  Below.trans h1 h.1

theorem tell_hy {y B o : Nat} {rs : List Rn} {f t : Int} (hl : rs.length ≤ 5000)
    (h : ∀ (L : List Rn) (r : Rn) (w : World), Out B o L w → B ≤ w.heap.size → L.length ≤ 5000 → Calls Try.prog y #[.agg #[.int .i64 r.f, .int .i64 r.t], .int .i64 r.v, .pointer (some ⟨o, 0, none⟩)] w (Tell B o L r w)) :
    ∀ L r w, Out B o L w → (L ++ [r]) <+: meetsR rs f t → Calls Try.prog y #[.agg #[.int .i64 r.f, .int .i64 r.t], .int .i64 r.v, .pointer (some ⟨o, 0, none⟩)] w fun e w' =>
      ∃ q, e = .returned (.bool q) ∧ Kp B o 50 w w' ∧ (q = true → Out B o (L ++ [r]) w') ∧ (q = false → False) := by
  intro L r w hO hp
  have h1 := hp.length_le
  have h2 := meetsR_length rs f t
  simp only [List.length_append, List.length_singleton] at h1
  refine (h L r w hO ?_ (by omega)).mono fun e w' hh => hh
  obtain ⟨v, ho, _, hBo⟩ := hO
  have := (Array.getElem?_eq_some_iff.1 ho).1
  omega

set_option maxRecDepth 100000 in
theorem all_calls (mb : Nat) (l : List Rn) (w : World) (hm : Holds w mb l) (hl : l.length ≤ 5000) :
    Calls Try.prog 16 #[.pointer (some ⟨mb, 0, none⟩)] w (ListPost w (meetsR l 0 4611686018427387904)) := by
  have hmf : ∀ (fn : Fn) (first cap : Array Value) (w : World), (Instr.makeFunc fn first cap).run Try.prog w = .ok (.func fn first cap) w := fun _ _ _ _ => rfl
  have hxo : Ext w (w.alloc (.cells #[.slice none 0 0] 27)) := (Ext.refl w).alloc _
  have hob : (w.alloc (.cells #[.slice none 0 0] 27)).heap[w.heap.size]? = some (.cells #[.slice none 0 0] 27 (0, 0)) := heap_alloc_new w _
  go_enter Try.func16, Try.ntmps16
  go_wp2_with fail
  refine (all_seq_calls mb l w _ hxo hm).mono ?_
  rintro e w1 ⟨v, rfl, ⟨br, bs, A, c, rfl, h1, h2, h3⟩, hx⟩
  replace hob := hx.block hob
  have hO : Out w.heap.size w.heap.size [] w1 := ⟨_, hob, World.ownsRow_nil _ _ _ _, Nat.le_refl _⟩
  have hx1 := hxo.trans hx
  have hne1 : br ≠ w.heap.size := by rintro rfl; rw [hob] at h1; injection h1 with h1; injection h1 with _ h1; exact absurd h1 (by decide)
  have hne2 : bs ≠ w.heap.size := by rintro rfl; rw [hob] at h2; injection h2 with h2; injection h2 with _ h2; exact absurd h2 (by decide)
  have hz1 : w.heap.size + 1 ≤ w1.heap.size := by have := hx.size; simpa using this
  clear hob hx hxo hm
  go_wp2_with fail
  refine (iter_calls 37 w.heap.size w.heap.size bs br enters37 l A c 0 4611686018427387904 (Out w.heap.size w.heap.size) (fun _ _ => False) (fun L a b h hx => h.ext hx) ?_ w1 (by omega) h1 h2 hne1 hne2 h3 (by omega) hO).mono ?_
  · exact tell_hy hl (fun L r w a b c => all1_calls _ _ L r w a b c)
  rintro e w2 ⟨rfl, hk, hJ | ⟨_, _, hJ⟩⟩
  · obtain ⟨v, ho, hown, _⟩ := hJ
    have o0 : w2.cell? ⟨w.heap.size, 0, none⟩ = some v := by rw [cell_of_row w2 _ 0 _ _ _ ho]; rfl
    obtain ⟨A', c', rfl, _⟩ := own_shape hown
    have hx2 := ext_of_kp hx1 hk
    clear h1 h2 h3 hO hx1 hne1 hne2 ho hk
    go_wp2
    go_ret
    exact ⟨_, rfl, hown, hx2⟩
  · exact hJ.elim

theorem enters39 (args : Array Value) (w : World) : (callFunc 39 args).run Try.prog w = .ok (.enter 39 args) w := by
  simp [go_sem]
set_option maxRecDepth 100000 in
theorem inl_calls (mb : Nat) (l : List Rn) (f t : Int) (w : World) (hm : Holds w mb l) (hl : l.length ≤ 5000) :
    Calls Try.prog 17 #[.pointer (some ⟨mb, 0, none⟩), .agg #[.int .i64 f, .int .i64 t]] w (ListPost w (meetsR l f t)) := by
  have hmf : ∀ (fn : Fn) (first cap : Array Value) (w : World), (Instr.makeFunc fn first cap).run Try.prog w = .ok (.func fn first cap) w := fun _ _ _ _ => rfl
  have hxo : Ext w ((w.alloc (.cells #[.int .i64 f, .int .i64 t] 34)).alloc (.cells #[.slice none 0 0] 27)) := ((Ext.refl w).alloc _).alloc _
  have hob : ((w.alloc (.cells #[.int .i64 f, .int .i64 t] 34)).alloc (.cells #[.slice none 0 0] 27)).heap[w.heap.size + 1]? = some (.cells #[.slice none 0 0] 27 (0, 0)) := by
    have := heap_alloc_new (w.alloc (.cells #[.int .i64 f, .int .i64 t] 34)) (.cells #[.slice none 0 0] 27)
    simpa using this
  go_enter Try.func17, Try.ntmps17
  go_wp2_with fail
  refine (in_calls mb l _ _ w _ hxo hm).mono ?_
  rintro e w1 ⟨v, rfl, ⟨br, bs, A, c, rfl, h1, h2, h3⟩, hx⟩
  replace hob := hx.block hob
  have hO : Out w.heap.size (w.heap.size + 1) [] w1 := ⟨_, hob, World.ownsRow_nil _ _ _ _, by omega⟩
  have hx1 := hxo.trans hx
  have hne1 : br ≠ w.heap.size + 1 := by rintro rfl; rw [hob] at h1; injection h1 with h1; injection h1 with _ h1; exact absurd h1 (by decide)
  have hne2 : bs ≠ w.heap.size + 1 := by rintro rfl; rw [hob] at h2; injection h2 with h2; injection h2 with _ h2; exact absurd h2 (by decide)
  have hz1 : w.heap.size + 1 + 1 ≤ w1.heap.size := by have := hx.size; simpa using this
  clear hob hx hxo hm
  go_wp2_with fail
  refine (iter_calls 39 (w.heap.size + 1) w.heap.size bs br enters39 l A c f t (Out w.heap.size (w.heap.size + 1)) (fun _ _ => False) (fun L a b h hx => h.ext hx) ?_ w1 (by omega) h1 h2 hne1 hne2 h3 (by omega) hO).mono ?_
  · exact tell_hy hl (fun L r w a b c => in1_calls _ _ L r w a b c)
  rintro e w2 ⟨rfl, hk, hJ | ⟨_, _, hJ⟩⟩
  · obtain ⟨v, ho, hown, _⟩ := hJ
    have o0 : w2.cell? ⟨w.heap.size + 1, 0, none⟩ = some v := by rw [cell_of_row w2 _ 0 _ _ _ ho]; rfl
    obtain ⟨A', c', rfl, _⟩ := own_shape hown
    have hx2 := ext_of_kp hx1 hk
    clear h1 h2 h3 hO hx1 hne1 hne2 ho hk
    go_wp2
    go_ret
    exact ⟨_, rfl, hown, hx2⟩
  · exact hJ.elim
end Go.Proofs.Ytjiabibnbpjhaaa
