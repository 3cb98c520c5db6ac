/- Rows of things read in place; a map of keys that stay. -/
import Derived.Test.YtmcddajniiaieaaDoorDrc
namespace Go.Proofs.YtmcddajniiaieaaDoor
open Go.RowKit

theorem nm_list {a b : Bool} (h : a ≠ b) : ¬ (nmB a).toList = (nmB b).toList := by
  have h1 : (nmB true).toList = [97] := by kernel_rfl
  have h2 : (nmB false).toList = [98] := by kernel_rfl
  cases a <;> cases b
  · exact absurd rfl h
  · rw [h1, h2]; decide
  · rw [h1, h2]; decide
  · exact absurd rfl h
theorem thsV_cons (s : Th) (L : List Th) : thsV (s :: L) = s.cells ++ thsV L := by simp [thsV]
theorem thsV_snoc (L : List Th) (x : Th) : thsV (L ++ [x]) = thsV L ++ [.int .i64 x.k, .int .i64 x.n, .string (nmB x.t), .int .u64 x.u] := by rw [thsV_append]; simp [thsV, Th.cells]
theorem thsV_get (L : List Th) (k j : Nat) (h : k < L.length) (hj : j < 4) : (thsV L)[k * 4 + j]? = (L[k].cells)[j]? := by
  induction L generalizing k with
  | nil => simp at h
  | cons r L ih =>
    have h4 : r.cells.length = 4 := rfl
    rw [thsV_cons]
    rcases k with _ | k
    · rw [List.getElem?_append_left (by rw [h4]; omega)]
      simp
    · rw [List.getElem?_append_right (by rw [h4]; omega), h4, show (k + 1) * 4 + j - 4 = k * 4 + j from by omega, ih k (by simpa using h)]
      simp
/-- A slice that shows things. -/
def TAt (w : World) (N : Nat) (A : Option Addr) (L : List Th) : Prop := ∀ k (hk : k < L.length), ∃ b, A = some ⟨b, 0, none⟩ ∧ N ≤ b ∧ (∃ cs, w.heap[b]? = some (.cells cs 39 (0, 0))) ∧ w.cell? ⟨b, k * 4, none⟩ = some (.int .i64 L[k].k) ∧ w.cell? ⟨b, k * 4 + 1, none⟩ = some (.int .i64 L[k].n) ∧ w.cell? ⟨b, k * 4 + 2, none⟩ = some (.string (nmB L[k].t)) ∧ w.cell? ⟨b, k * 4 + 3, none⟩ = some (.int .u64 L[k].u)
theorem tat_of_own {w : World} {N : Nat} {A : Option Addr} {n c : Nat} {L : List Th} (h : w.ownsRow N 39 4 (.slice A n c) n (thsV L)) (hn : n = L.length) : TAt w N A L := fun k hk => by
  subst hn
  have h2 := h.2
  obtain ⟨g, cap, hv, hg1, hg2⟩ := h.form (by omega)
  cases hv
  have hg := fun j (hj : j < 4) => thsV_get L k j hk hj
  refine ⟨g, rfl, hg1, ?_, ?_, ?_, ?_, ?_⟩
  · rcases h2 with ⟨h', _⟩ | ⟨g', cap', cur, h', _, hgg, _⟩
    · cases h'
    · cases h'
      exact ⟨_, hgg⟩
  · have := h.cellAt (k * 4) (by omega); rw [this]; exact (hg 0 (by omega)).trans rfl
  · have := h.cellAt (k * 4 + 1) (by omega); rw [this]; exact (hg 1 (by omega)).trans rfl
  · have := h.cellAt (k * 4 + 2) (by omega); rw [this]; exact (hg 2 (by omega)).trans rfl
  · have := h.cellAt (k * 4 + 3) (by omega); rw [this]; exact (hg 3 (by omega)).trans rfl
section
variable {w w' : World} {N B : Nat} {A : Option Addr} {L : List Th} {T : List TypeId} {M : List Nat}
theorem TAt.ext (h : TAt w N A L) (hx : Ext w w') : TAt w' N A L := fun k hk => by
  obtain ⟨b, e, hN, ⟨cs, h0⟩, h1, h2, h3, h4⟩ := h k hk
  exact ⟨b, e, hN, ⟨cs, hx.block h0⟩, hx.cell h1, hx.cell h2, hx.cell h3, hx.cell h4⟩
theorem cell_of_blk {b j : Nat} {o : Obj} {v : Value} (h : w.heap[b]? = some o) (h' : w'.heap[b]? = some o) (hc : w.cell? ⟨b, j, none⟩ = some v) : w'.cell? ⟨b, j, none⟩ = some v := by
  rw [← hc]
  simp only [World.cell?, h, h']
theorem TAt.kp (h : TAt w N A L) (hx : Kp B T M w w') (hT : 39 ∉ T) : TAt w' N A L := fun k hk => by
  obtain ⟨b, e, hN, ⟨cs, h0⟩, h1, h2, h3, h4⟩ := h k hk
  have h0' := hx.cells h0 hT
  exact ⟨b, e, hN, ⟨cs, h0'⟩, cell_of_blk h0 h0' h1, cell_of_blk h0 h0' h2, cell_of_blk h0 h0' h3, cell_of_blk h0 h0' h4⟩
theorem IAt.kpB {l : List Int} (h : IAt w A l) (hx : Kp B [] M w w') : IAt w' A l := fun k hk => by
  obtain ⟨b, o, e, p⟩ := h k hk
  refine ⟨b, o, e, ?_⟩
  have hp := p
  simp only [World.cell?] at hp
  cases hb : w.heap[b]? with
  | none => simp [hb] at hp
  | some ob =>
    cases ob with
    | cells cs t fr => exact cell_of_blk hb (hx.cells hb (by simp)) p
    | _ => simp [hb] at hp
theorem own_kp {n : Nat} {e : TypeId} {v : Value} {size : Nat} {xs : List Value} (h : w.ownsRow N e size v n xs) (hx : Kp B T M w w') (hT : e ∉ T) : w'.ownsRow N e size v n xs := by
  refine ⟨h.1, ?_⟩
  rcases h.2 with h2 | ⟨g, cap, cur, hv, hg, hh, r⟩
  · exact .inl h2
  · exact .inr ⟨g, cap, cur, hv, hg, hx.cells hh hT, r⟩
theorem kp_moved {w0 : World} {e : TypeId} {size n : Nat} {v v' : Value} {xs : List Value} (h : Kp B T M w0 w) (ho : w.ownsRow w0.heap.size e size v n xs) (hm : Moved w w' v v') : Kp B T M w0 w' :=
  ⟨hm.1.os.trans h.os, hm.1.tape.trans h.tape, hm.1.output.trans h.output, Nat.le_trans h.size hm.1.size, fun k hk hn => (hm.1.block k (Nat.lt_of_lt_of_le hk h.size) (fun e1 => by
    rcases ho.2 with ⟨rfl, _⟩ | ⟨g, cap, cur, rfl, hb, _, _⟩
    · simp [Value.ownBlock] at e1
    · simp [Value.ownBlock] at e1; omega)).trans (h.block k hk hn)⟩
theorem mapV_moved {P : Program} {k : TypeId} {b n m : Nat} {f : Lit → Option Value} {e : TypeId} {size N : Nat} {v v' : Value} {xs : List Value} (h : MapV P k w b n f) (ho : w.ownsRow N e size v m xs) (hm : Moved w w' v v') : MapV P k w' b n f :=
  h.grown hm.1 fun e1 => by
    obtain ⟨es, c, hb⟩ := h.blk
    rcases ho.2 with ⟨rfl, _⟩ | ⟨g, cap, cur, rfl, _, hh, _⟩
    · simp [Value.ownBlock] at e1
    · simp [Value.ownBlock] at e1
      subst e1
      rw [hb] at hh
      cases hh
theorem own_grown {P : Program} {k : TypeId} {b n m : Nat} {f : Lit → Option Value} {e : TypeId} {size N : Nat} {v : Value} {xs : List Value} (ho : w.ownsRow N e size v m xs) (h : MapV P k w b n f) (hg : w.grownBy w' (some b)) : w'.ownsRow N e size v m xs :=
  ho.kept hg (.inr fun e1 => by
    obtain ⟨es, c, hb⟩ := h.blk
    rcases ho.2 with ⟨rfl, _⟩ | ⟨g, cap, cur, rfl, _, hh, _⟩
    · simp [Value.ownBlock] at e1
    · simp [Value.ownBlock] at e1
      subst e1
      rw [hb] at hh
      cases hh)
end
/-- What came after the row is none of the row's. -/
theorem moved_blk {w0 w w' : World} {N b : Nat} {e : TypeId} {size n : Nat} {v v' : Value} {xs : List Value} {o : Obj} (ho : w0.ownsRow N e size v n xs) (hm : Moved w w' v v') (hb : w0.heap.size ≤ b) (hb2 : w.heap[b]? = some o) : w'.heap[b]? = some o :=
  (hm.1.block b (Array.getElem?_eq_some_iff.1 hb2).1 (fun e1 => by
    rcases ho.2 with ⟨rfl, _⟩ | ⟨g, cap, cur, rfl, _, hg, _⟩
    · simp [Value.ownBlock] at e1
    · simp [Value.ownBlock] at e1
      have := (Array.getElem?_eq_some_iff.1 hg).1
      omega)).trans hb2
open Classical in
/-- The map that has these keys, each with true. -/
noncomputable def stF (K : List Int) : Lit → Option Value := fun kl => if ∃ k ∈ K, kl = kI k then some (.bool true) else none
theorem kI_inj {a b : Int} (h : kI a = kI b) : a = b := by unfold kI at h; cases h; rfl
theorem stF_nil : stF [] = fun _ => none := by
  funext kl
  unfold stF
  rw [if_neg (by rintro ⟨k, hk, _⟩; cases hk)]
theorem stF_put (K : List Int) (k : Int) : upd (stF K) (kI k) (some (.bool true)) = stF (k :: K) := by
  funext kl
  by_cases e : kl = kI k
  · subst e
    rw [upd_same]
    unfold stF
    rw [if_pos ⟨k, List.mem_cons_self, rfl⟩]
  · rw [upd_other _ _ e]
    unfold stF
    by_cases h : ∃ k ∈ K, kl = kI k
    · obtain ⟨j, hj, e2⟩ := h
      rw [if_pos ⟨j, hj, e2⟩, if_pos ⟨j, List.mem_cons_of_mem _ hj, e2⟩]
    · rw [if_neg h, if_neg (by
        rintro ⟨j, hj, e2⟩
        rcases List.mem_cons.1 hj with rfl | hj
        · exact e e2
        · exact h ⟨j, hj, e2⟩)]
theorem stF_look (K : List Int) (k : Int) : (stF K (kI k)).getD (.bool false) = .bool (decide (k ∈ K)) := by
  unfold stF
  by_cases h : k ∈ K
  · rw [if_pos ⟨k, h, rfl⟩]
    simp [h]
  · rw [if_neg (by rintro ⟨j, hj, e⟩; rw [kI_inj e] at h; exact h hj)]
    simp [h]
theorem zeroB (w : World) : (zeroValue 4).run Tryd.prog w = .ok (.bool false) w := by kernel_rfl
theorem st_look {w : World} {b n : Nat} {K : List Int} (h : MapV Tryd.prog 2 w b n (stF K)) {k : Int} (hk : I64 k) :
    (Instr.lookup 109 (.map (some b)) (.int .i64 k) false).run Tryd.prog w = .ok (.bool (decide (k ∈ K))) w := by
  rw [h.look (Maps.int_keyed Tryd.underlying2) Tryd.underlying109 (zeroB w) (key_mk hk), stF_look]
/-- A map that came after the door is none of the door's. -/
theorem DrAt.fresh {w wa w' : World} {B db c B' sm : Nat} {S : Int} {d : Dr} (h : DrAt w B db c S d) (hx : Ext w wa) (hk : Kp B' [] [sm] wa w') (hs : w.heap.size ≤ sm) : DrAt w' B db c S d := by
  have h1 : d.tm ≠ sm := by obtain ⟨f, hf, _⟩ := h.map; have := hf.lt; omega
  have h2 : ∀ m, d.ls.m = some m → m ≠ sm := fun m hm => by
    rcases h.ls.map with ⟨h0, _⟩ | ⟨a, h0, _, fl, hl, _⟩
    · rw [h0] at hm; cases hm
    · rw [h0] at hm
      cases hm
      have := hl.lt
      omega
  have h3 : ∀ m, d.bk.m = some m → m ≠ sm := fun m hm => by
    rcases h.bk.map with ⟨h0, _⟩ | ⟨a, f, h0, _, hl, _⟩
    · rw [h0] at hm; cases hm
    · rw [h0] at hm
      cases hm
      have := hl.lt
      omega
  exact (h.ext hx).step hk (by simp) (by simpa using h1) (Nat.le_refl _) h.cc ((h.bk.ext hx).kp_ hk (by simp) (fun m hm hmm => h3 m hm (by simpa using hmm))) ((h.ls.ext hx).kp_ hk (by simp) (by simp) (fun m hm hmm => h2 m hm (by simpa using hmm)))
    ((h.sk.ext hx).kp_ hk (by simp) (by simp) (by simp)) h.same h.ap1 h.ap2 h.ap3
/-- The bytes of things. -/
def sumT (L : List Th) : Int := (L.map Th.n).sum
theorem sumT_nil : sumT [] = 0 := rfl
theorem sumT_snoc (L : List Th) (x : Th) : sumT (L ++ [x]) = sumT L + x.n := by simp [sumT]
theorem sumT_le (L : List Th) (h : ∀ x ∈ L, 1 ≤ x.n ∧ x.n ≤ 1099511627776) : 0 ≤ sumT L ∧ sumT L ≤ L.length * 1099511627776 := by
  induction L with
  | nil => simp [sumT]
  | cons x L ih =>
    have h1 := h x List.mem_cons_self
    have h2 := ih fun y hy => h y (List.mem_cons_of_mem _ hy)
    simp only [sumT, List.map_cons, List.sum_cons, List.length_cons] at h2 ⊢
    omega
end Go.Proofs.YtmcddajniiaieaaDoor
