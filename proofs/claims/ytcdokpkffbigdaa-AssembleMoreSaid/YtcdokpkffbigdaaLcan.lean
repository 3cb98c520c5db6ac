/- The law's can: what a body can tell, as a list. -/
import Derived.Test.YtcdokpkffbigdaaCan
namespace Go.Proofs.Ytcdokpkffbigdaa
open Go.RowKit

/-- The variable that is appended to, and the row that it holds. -/
def Out (n₀ o : Nat) (L : List Pt) (w : World) : Prop := ∃ v, w.heap[o]? = some (.cells #[v] 22 (0, 0)) ∧ w.ownsRow n₀ 40 3 v L.length (pts L) ∧ o < n₀ ∧ n₀ ≤ w.heap.size
def RwO (o : Nat) (w : World) (g : Nat) : Prop := ∃ v, w.heap[o]? = some (.cells #[v] 22 (0, 0)) ∧ v.ownBlock = some g
theorem Out.ext {n₀ o : Nat} {L : List Pt} {w w' : World} (h : Out n₀ o L w) (hx : Ext w w') : Out n₀ o L w' := by
  obtain ⟨v, h1, h2, h3, h4⟩ := h
  exact ⟨v, hx.block h1, ownsRow_ext h2 hx, h3, Nat.le_trans h4 hx.size⟩
theorem Out.rw_ {n₀ o : Nat} {L : List Pt} {w w' : World} {g : Nat} (h : Out n₀ o L w) (hx : Ext w w') (hr : RwO o w' g) : g < w.heap.size := by
  obtain ⟨v, h1, h2, _⟩ := h
  obtain ⟨v', h3, h4⟩ := hr
  have := hx.block h1
  rw [this] at h3
  simp at h3
  subst h3
  exact (own_lt h2 h4).2
def Tell (n₀ o : Nat) (L : List Pt) (q : Pt) (w : World) (e : Ending) (w' : World) : Prop :=
  ∃ r, e = .returned (.bool r) ∧ Ky o n₀ (RwO o) w w' ∧ (r = true → Out n₀ o (L ++ [q]) w') ∧ (r = false → False)
theorem ky_step {n₀ o : Nat} {w wa w3 : World} {v v1 : Value} {n : Nat} {xs : List Value} (ho : w.heap[o]? = some (.cells #[v] 22 (0, 0))) (hx : Ext w wa) (hn : n₀ ≤ w.heap.size) (hown : wa.ownsRow n₀ 40 3 v n xs) (hm : Moved wa w3 v v1) (u : Value) : Ky o n₀ (RwO o) w (w3.setCell ⟨o, 0, none⟩ u) := by
  have hsz : wa.heap.size ≤ (w3.setCell ⟨o, 0, none⟩ u).heap.size := by simpa [World.setCell] using hm.1.size
  refine ⟨⟨hm.1.os.trans hx.os, hm.1.tape.trans hx.tape, hm.1.output.trans hx.output, Nat.le_trans hx.size hsz, fun k hk hne => ?_⟩, fun g hg hne hr => ?_⟩
  · rw [Below.heap_setCell _ _ _ _ hne, hm.1.block k (by have := hx.size; omega) (fun e => by have := own_base hown e.symm; omega)]
    exact Below.block hx k (by omega)
  · rw [Below.heap_setCell _ _ _ _ hne, hm.1.block g (by have := hx.size; omega) (fun e => hr ⟨v, ho, e.symm⟩)]
    exact Below.block hx g hg

set_option maxHeartbeats 1000000 in
set_option maxRecDepth 100000 in
theorem can1_calls (n₀ o : Nat) (L : List Pt) (q : Pt) (w : World) (hJ : Out n₀ o L w) (hL : L.length ≤ 900) :
    Calls Try.prog 41 #[.agg #[.string ⟨q.s.toArray⟩, .int .i64 q.f, .int .i64 q.t], .pointer (some ⟨o, 0, none⟩)] w (Tell n₀ o L q w) := by
  obtain ⟨v, ho, hown, hon, hnw⟩ := hJ
  obtain ⟨A, c, rfl, _⟩ := own_shape hown
  have hx1 : Ext w (w.alloc (.cells #[.string ⟨q.s.toArray⟩, .int .i64 q.f, .int .i64 q.t] 40)) := (Ext.refl w).alloc _
  have ho1 := hx1.block ho
  have o0 : (w.alloc (.cells #[.string ⟨q.s.toArray⟩, .int .i64 q.f, .int .i64 q.t] 40)).cell? ⟨o, 0, none⟩ = some (.slice A L.length c) := by rw [cell_of_block ho1]; rfl
  have hown1 := ownsRow_ext hown hx1
  have hb := Nat.le_trans hnw hx1.size
  have hlt1 := (Array.getElem?_eq_some_iff.1 ho1).1
  have HO := Lib.hid ho
  have hd : decide ((L.length : Int) + 1 < 1000) = true := by simp; omega
  clear ho hown
  go_enter Try.func41, Try.ntmps41
  go_wp2_with (at_builtin; refine wpList_append_new _ rfl _ _ 22 rfl n₀ 40 _ 3 32 Try.underlying22 infoPart rfl (by omega) (.slice A L.length c) L.length (pts L) rfl hown1 1 1 _ (by simp) _ rfl rfl (by simp [Value.oneCell']) (by simp [maxLen]; omega) (by omega) hb ?_; intro v1 w3 hown2 hm; obtain ⟨A1, c1, rfl, _⟩ := own_shape hown2; have ho2 := (hm.1.block o hlt1 (fun e => by have := own_base hown1 e.symm; omega)).trans ho1; have o1 : w3.cell? ⟨o, 0, none⟩ = some (.slice A L.length c) := (by rw [cell_of_block ho2]; rfl); have o2 : ∀ j, w3.frozen? ⟨o, j, none⟩ = false := (fun j => frozen_of_block ho2 j))
  go_ret
  have hnb : (Value.slice A1 (L.length + 1) c1).ownBlock ≠ some o := fun e => by
    have := own_base hown2 e
    omega
  refine ⟨true, ?_, ky_step HO.out hx1 hnw hown1 hm _, fun _ => ⟨.slice A1 (L.length + 1) c1, (heap_setCell_same _ _ _ _ _ _ ho2).trans rfl, ?_, hon, ?_⟩, by simp⟩
  · first | rfl | (rw [← hd]; rfl)
  · have h3 := own_set hown2 hnb (p := ⟨o, 0, none⟩) (.slice A1 (L.length + 1) c1)
    rw [List.length_append, pts_append]
    exact h3
  · have h5 := hm.1.size
    have h6 := hx1.size
    have h7 : (w3.setCell ⟨o, 0, none⟩ (.slice A1 (L.length + 1) c1)).heap.size = w3.heap.size := by simp [World.setCell]
    rw [h7]
    omega

theorem pcanL_length (S : List Sp) (L : List Pt) : (pcanL S L).length ≤ L.length := by
  induction L with
  | nil => simp [pcanL]
  | cons p l ih =>
    simp only [pcanL]
    split
    · simp
    · split
      · simp; exact ih
      · simp
set_option maxHeartbeats 1000000 in
set_option maxRecDepth 100000 in
theorem lcan_calls (lo hi pb : Nat) (P : List Pt) (n : Int) (B : Option Addr) (d : Nat) (S : List Sp) (w : World) (h : BodyAt lo hi w pb P n) (hl : P.length ≤ 100) (hS : SAt w B S) (hN : Norm S) (hlS : S.length ≤ 1000000) :
    Calls Try.prog 21 #[.pointer (some ⟨pb, 0, none⟩), .agg #[.slice B S.length d]] w (PRowPost w (pcanL S P)) := by
  have hmf : ∀ (fn : Fn) (first cap : Array Value) (w : World), (Instr.makeFunc fn first cap).run Try.prog w = .ok (.func fn first cap) w := fun _ _ _ _ => rfl
  have hx0 : Ext w ((w.alloc (.cells #[.slice B S.length d] 34)).alloc (.cells #[.slice none 0 0] 22)) := ((Ext.refl w).alloc _).alloc _
  have hob : ((w.alloc (.cells #[.slice B S.length d] 34)).alloc (.cells #[.slice none 0 0] 22)).heap[w.heap.size + 1]? = some (.cells #[.slice none 0 0] 22 (0, 0)) := by
    have := heap_alloc_new (w.alloc (.cells #[.slice B S.length d] 34)) (.cells #[.slice none 0 0] 22)
    simpa using this
  have hsb := (((Ext.refl _).alloc (.cells #[.slice none 0 0] 22)).block (heap_alloc_new w (.cells #[.slice B S.length d] 34)))
  have hBlt : 0 < S.length → ∀ b o, B = some ⟨b, o, none⟩ → b < w.heap.size := fun h0 b o e => by
    obtain ⟨b', o', e', p0, _⟩ := hS 0 h0
    rw [e] at e'
    cases e'
    exact block_of_cell p0
  have HC := Lib.hid (can_calls lo hi pb P n B d S _ (h.ext hx0) (by omega))
  have HS := Lib.hid (fun W (hx : Ext w W) => hS.ext hx)
  have s0 : ((w.alloc (.cells #[.slice B S.length d] 34)).alloc (.cells #[.slice none 0 0] 22)).cell? ⟨w.heap.size, 0, none⟩ = some (.slice B S.length d) := by rw [cell_of_block hsb]; rfl
  have HBL := Lib.hid hBlt
  have HPL := Lib.hid (pcanL_length S P)
  clear h hS hBlt hsb
  go_enter Try.func21, Try.ntmps21
  go_wp2_with fail
  generalize ((w.alloc (.cells #[.slice B S.length d] 34)).alloc (.cells #[.slice none 0 0] 22)) = w1 at *
  refine HC.out.mono ?_
  rintro e w2 ⟨bl, bh, A, c, rfl, hcp, hx2⟩
  obtain ⟨h1, h2, h3, h4, h5, h6⟩ := hcp.out
  have hx02 := hx0.trans hx2
  have hz1 := (Array.getElem?_eq_some_iff.1 hob).1
  have hO : Out w2.heap.size (w.heap.size + 1) [] w2 := ⟨_, hx2.block hob, World.ownsRow_nil _ _ _ _, by have := hx2.size; omega, Nat.le_refl _⟩
  have hi1 := (Array.getElem?_eq_some_iff.1 h1).1
  have hi2 := (Array.getElem?_eq_some_iff.1 h2).1
  have HIT := Lib.hid (iter_calls 41 (w.heap.size + 1) w2.heap.size bl bh (fun args w => by simp [go_sem]) P A c B d S (Out w2.heap.size (w.heap.size + 1)) (fun _ _ => False) (RwO (w.heap.size + 1)) (by have := hx2.size; omega)
    (fun L a b g hj hx hr => hj.rw_ hx hr) (fun L a b hj hx => hj.ext hx) hN hlS
    (fun L q W hj hp hn => (can1_calls _ _ L q W hj (by have := hp.length_le; have := HPL.out; simp only [List.length_append, List.length_singleton] at *; omega)).mono fun e w' hh => hh)
    w2 (Nat.le_refl _) h1 h2 ⟨hi1, by omega⟩ ⟨hi2, by omega⟩ h3
    (fun h0 b o' e => by
      have hb6 := h6 b o' e
      obtain ⟨b', o'', e', p0, _⟩ := h3 0 h0
      rw [e] at e'
      cases e'
      exact ⟨block_of_cell p0, by omega⟩)
    (HS.out w2 hx02)
    (fun h0 b o' e => by have := HBL.out h0 b o' e; have := hx02.size; exact ⟨by omega, by omega⟩) (by omega) hO)
  clear HC hcp h1 h2 h3 h4 h5 h6 hO hob s0
  go_wp2_with fail
  refine HIT.out.mono ?_
  rintro e w3 ⟨rfl, hk, hE⟩
  rcases hE with hJ | ⟨_, _, hJ⟩
  · obtain ⟨v, ho, hown, _, _⟩ := hJ
    have o0 : w3.cell? ⟨w.heap.size + 1, 0, none⟩ = some v := by rw [cell_of_block ho]; rfl
    obtain ⟨A', c', rfl, _⟩ := own_shape hown
    have hxf : Ext w w3 := ⟨hk.os.trans hx02.os, hk.tape.trans hx02.tape, hk.output.trans hx02.output, Nat.le_trans hx02.size hk.size, fun k hk' => (hk.block k (Nat.lt_of_lt_of_le hk' hx02.size) (by omega)).trans (Below.block hx02 k hk')⟩
    have HO := Lib.hid (own_base_le hown hx02.size)
    clear ho hown hk HIT
    go_wp2
    go_ret
    exact ⟨_, rfl, HO, hxf⟩
  · exact hJ.elim
end Go.Proofs.Ytcdokpkffbigdaa
