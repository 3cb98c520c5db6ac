/- Small laws for Offer. -/
import Derived.Test.YtmcddajniiaieaaDoorRm
namespace Go.Proofs.YtmcddajniiaieaaDoor
open Go.RowKit
open Go.Maps (Keyed)

theorem len_sub {l m : List Int} (h : l.Nodup) (hs : ∀ x ∈ l, x ∈ m) : l.length ≤ m.length := by
  induction l generalizing m with
  | nil => simp
  | cons a l ih =>
    rw [List.nodup_cons] at h
    have ha := hs a List.mem_cons_self
    have h1 := ih (m := m.erase a) h.2 (fun x hx => (List.mem_erase_of_ne (fun e => by subst e; exact h.1 hx)).2 (hs x (List.mem_cons_of_mem _ hx)))
    rw [List.length_erase_of_mem ha] at h1
    have : 0 < m.length := List.length_pos_of_mem ha
    simp only [List.length_cons]
    omega
section
variable {w w' wR : World} {N B db c : Nat} {S : Int} {d : Dr} {A : Option Addr} {L : List Th} {T : List TypeId}
theorem kp_of_moved {e : TypeId} {size n : Nat} {v v' : Value} {xs : List Value} (ho : w.ownsRow N e size v n xs) (hm : Moved w w' v v') : Kp 0 [e] [] w w' :=
  ⟨hm.1.os, hm.1.tape, hm.1.output, hm.1.size, fun i hi hn => hm.1.block i hi (fun e1 => by
    rcases ho.2 with ⟨rfl, _⟩ | ⟨g, cap, cur, rfl, _, hg, _⟩
    · simp [Value.ownBlock] at e1
    · simp [Value.ownBlock] at e1
      subst e1
      rcases hn with hn | hn
      · omega
      · exact hn (.inl ⟨_, _, _, hg, List.mem_singleton.2 rfl⟩))⟩
theorem DrAt.moved {n : Nat} {v v' : Value} {xs : List Value} (h : DrAt w B db c S d) (hsk : SkAt wR B d.sb d.m) (hk : Kpa B drTs wR w') (ho : w.ownsRow N 2 1 v n xs) (hm : Moved w w' v v') : DrAt w' B db c S d := by
  obtain ⟨M, hM⟩ := hk
  have hp := kp_of_moved ho hm
  exact h.step hp (by decide) (by simp) (Nat.le_refl _) h.cc (h.bk.kp_ hp (by decide) (by simp)) (h.ls.kp_ hp (by decide) (by decide) (by simp)) (hsk.kp_ hM (by decide) (by decide) (by decide)) h.same h.ap1 h.ap2 h.ap3
theorem TAt.kpa (h : TAt w N A L) (hk : Kpa B T w w') (hT : 39 ∉ T) : TAt w' N A L := by
  obtain ⟨M, hM⟩ := hk
  exact h.kp hM hT
theorem own_kpa {n : Nat} {e : TypeId} {v : Value} {size : Nat} {xs : List Value} (h : w.ownsRow N e size v n xs) (hk : Kpa B T w w') (hT : e ∉ T) : w'.ownsRow N e size v n xs := by
  obtain ⟨M, hM⟩ := hk
  exact own_kp h hM hT
theorem kpa_moved {e : TypeId} {size n : Nat} {v v' : Value} {xs : List Value} (h : Kpa B T wR w) (ho : w.ownsRow wR.heap.size e size v n xs) (hm : Moved w w' v v') : Kpa B T wR w' := by
  obtain ⟨M, hM⟩ := h
  exact ⟨M, kp_moved hM ho hm⟩
theorem MapV.put_run {P : Program} {k : TypeId} {b n : Nat} {f : Lit → Option Value} {t e : TypeId} (h : MapV P k w b n f) (K : Keyed P k) (ht : P.underlying t = some (.map k e)) (hn : n < maxLen) {key : Value} (val : Value) {kl : Lit} (hkey : keyOf P k key = some kl) :
    ∃ w', (Instr.mapUpdate t (.map (some b)) key val).run P w = .ok () w' ∧ MapV P k w' b (n + 1) (upd f kl (some val)) ∧ w.grownBy w' (some b) := by
  obtain ⟨D, h1, h2, h3⟩ := h
  obtain ⟨w', hrun, r1, r2⟩ := h1.store K ht hn hkey (d := .held val) (ps := []) rfl
  refine ⟨w', hrun, ⟨_, r1, h2.put _ _, fun l hl => ?_⟩, r2.grown⟩
  by_cases e : l = kl
  · subst e
    rw [upd_same]
    exact ⟨Maps.has_put_same h2 hl _, fun v hv z => by cases hv; exact Maps.atKey_put_same h2 hl _ _⟩
  · rw [upd_other _ _ e, Maps.has_put_other e]
    exact ⟨(h3 l hl).1, fun v hv z => by rw [Maps.atKey_put_other e]; exact (h3 l hl).2 v hv z⟩
end
/-- The door with one thing more. -/
theorem DrAt.more {w0 w1 w2 w3 : World} {B db c : Nat} {S : Int} {d : Dr} {t : Th} {bk' : Bk} {s' : Ls} {x : Nd} {f : Lit → Option Value} (h : DrAt w0 B db c S d) (hk : I64 t.k) (hu : 0 ≤ t.u ∧ t.u < 18446744073709551616) (ht : 1 ≤ t.n ∧ t.n ≤ 1099511627776) (hno : ∀ y ∈ d.D, y.k ≠ t.k) (hc : c + 1 ≤ 800)
    (hb : BkAt w1 B d.bb (c + 1) S bk') (hbm : BkM w0 d.bk bk') (k1 : Kp B bkTs d.bk.m.toList w0 w1)
    (hl : LsAt w2 B d.lb (c + 1) s') (hlm : s'.m = d.ls.m ∨ (d.ls.m = none ∧ ∃ m, s'.m = some m ∧ w1.heap.size ≤ m)) (hx : x.k = t.k) (hall : ∀ y, y ∈ s'.all ↔ y ∈ d.ls.all ∨ y = x) (k2 : Kp B lsTs d.ls.m.toList w1 w2)
    (hf2 : ∀ x ∈ d.D, f (kI x.k) = some x.val) (hf3 : ∀ kl v, f kl = some v → ∃ x ∈ d.D, kl = kI x.k)
    (hm : MapV Tryd.prog 2 w3 d.tm (c + 1) (upd f (kI t.k) (some t.val))) (k3 : Kp B [] [d.tm] w2 w3) :
    DrAt w3 B db (c + 1) S ⟨d.lb, d.bb, d.sb, d.tm, s', bk', d.m, d.D ++ [t]⟩ := by
  have htm : d.tm < w0.heap.size := by obtain ⟨f, hf, _⟩ := h.map; exact hf.lt
  have s1 := k1.size
  have s2 := k2.size
  have hbtm : bk'.m ≠ some d.tm := by
    rcases hbm with e | ⟨_, m, e, hm⟩
    · rw [e]; exact h.ap2
    · rw [e]
      intro e2
      have e2 : m = d.tm := by simpa using e2
      omega
  have hstm : s'.m ≠ some d.tm := by
    rcases hlm with e | ⟨_, m, e, hm⟩
    · rw [e]; exact h.ap1
    · rw [e]
      intro e2
      have e2 : m = d.tm := by simpa using e2
      omega
  have hbl : ∀ a, d.ls.m = some a → bk'.m ≠ some a := fun a ha => by
    rcases hbm with e | ⟨_, m, e, hm⟩
    · rw [e]; exact h.ap3 a ha
    · rw [e]
      intro e2
      have e2 : m = a := by simpa using e2
      rcases h.ls.map with ⟨h0, _⟩ | ⟨a', h0, _, fl, hl, _⟩
      · rw [h0] at ha; cases ha
      · rw [h0] at ha
        cases ha
        have := hl.lt
        omega
  have hbs : ∀ a, s'.m = some a → bk'.m ≠ some a := fun a ha => by
    rcases hlm with e | ⟨_, m, e, hm⟩
    · exact hbl a (e ▸ ha)
    · rw [e] at ha
      cases ha
      intro e2
      rcases hb.map with ⟨h0, _⟩ | ⟨a', fb, h0, _, hl, _⟩
      · rw [h0] at e2; cases e2
      · rw [h0] at e2
        cases e2
        have := hl.lt
        omega
  refine ⟨k3.cells (k2.cells (k1.cells h.blk (by decide)) (by decide)) (by simp), h.db, ?_, ?_, ?_, h.tm, ?_, ?_, ?_, ?_, hstm, hbtm, hbs, h.S1, hc⟩
  · exact (hb.kp_ k2 (by decide) (fun m hm hmm => hbl m (by simpa using hmm) hm)).kp_ k3 (by simp) (fun m hm hmm => hbtm (by rw [hm]; simpa using hmm))
  · exact hl.kp_ k3 (by simp) (by simp) (fun m hm hmm => hstm (by rw [hm]; simpa using hmm))
  · exact ((h.sk.kp_ k1 (by decide) (by decide) (by decide)).kp_ k2 (by decide) (by decide) (by decide)).kp_ k3 (by simp) (by simp) (by simp)
  · refine ⟨_, hm, fun y hy => ?_, fun kl v hv => ?_⟩
    · rcases List.mem_append.1 hy with hy | hy
      · rw [upd_other _ _ (fun e => hno y hy (kI_inj e))]
        exact hf2 y hy
      · rw [List.mem_singleton.1 hy, upd_same]
    · by_cases e : kl = kI t.k
      · exact ⟨t, List.mem_append_right _ (List.mem_singleton.2 rfl), e⟩
      · rw [upd_other _ _ e] at hv
        obtain ⟨y, hy, e2⟩ := hf3 kl v hv
        exact ⟨y, List.mem_append_left _ hy, e2⟩
  · show ((d.D ++ [t]).map Th.k).Nodup
    rw [List.map_append, List.nodup_append]
    refine ⟨h.kd, by simp, ?_⟩
    intro a ha b hb e
    have hb : b = t.k := by simpa using hb
    subst e
    obtain ⟨y, hy, e2⟩ := List.mem_map.1 ha
    exact hno y hy (e2.trans hb)
  · intro k'
    constructor
    · rintro ⟨y, hy, e⟩
      rcases List.mem_append.1 hy with hy | hy
      · obtain ⟨z, hz, e2⟩ := (h.same k').1 ⟨y, hy, e⟩
        exact ⟨z, (hall z).2 (.inl hz), e2⟩
      · rw [List.mem_singleton.1 hy] at e
        exact ⟨x, (hall x).2 (.inr rfl), hx.trans e⟩
    · rintro ⟨z, hz, e⟩
      rcases (hall z).1 hz with hz | rfl
      · obtain ⟨y, hy, e2⟩ := (h.same k').2 ⟨z, hz, e⟩
        exact ⟨y, List.mem_append_left _ hy, e2⟩
      · exact ⟨t, List.mem_append_right _ (List.mem_singleton.2 rfl), hx.symm.trans e⟩
  · intro y hy
    rcases List.mem_append.1 hy with hy | hy
    · exact h.small y hy
    · rw [List.mem_singleton.1 hy]
      exact ⟨hk, ht, hu⟩
end Go.Proofs.YtmcddajniiaieaaDoor
