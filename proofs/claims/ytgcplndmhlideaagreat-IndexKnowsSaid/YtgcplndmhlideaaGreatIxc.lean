/- The maps as lists: what Put and Drop make of them; what a put, a drop and a forgetting make of the map of versions. -/
import Derived.Test.YtgcplndmhlideaaGreatIxb
namespace Go.Proofs.YtgcplndmhlideaaGreat
open Go.RowKit

theorem wf_leaf {V : Type} {k : Nat} {v : V} (hk : k < 2 ^ 64) : Nd.oWF (some (Nd.leaf k v)) ∧ Nd.oL (some (Nd.leaf k v)) = putL k v ([] : List (Pr V)) := ⟨hk, by simp [Nd.oL, Nd.toL, putL, putGo]⟩
theorem wf_put {V : Type} {k : Nat} {v : V} (hk : k < 2 ^ 64) {t : Nd V} (h : Nd.oWF (some t)) : Nd.oWF (some (t.put k v)) ∧ Nd.oL (some (t.put k v)) = putL k v (Nd.oL (some t)) := put_ok hk h
theorem itput_calls (p : Option Addr) (l : List (Pr It)) (k : Nat) (v : It) (w : World) (h : ItAt w p l) (hk : k < 2 ^ 64) (hl : l.length ≤ 1000) :
    Calls Tryz.prog 37 #[.agg #[.pointer p], .int .u64 k, .agg #[.int .i64 v.b, .int .i64 v.c]] w (OfPost w (putL k v l)) := by
  obtain ⟨t, a, b, rfl⟩ := h
  refine (It.mput_calls p t k v w ⟨a, b, hl⟩ hk).mono ?_
  rintro e w' ⟨q, rfl, c, d⟩
  refine ⟨q, rfl, ⟨_, c, ?_⟩, d⟩
  cases t with
  | none => exact wf_leaf hk
  | some t => exact wf_put hk b
theorem itdrop_calls (p : Option Addr) (l : List (Pr It)) (k : Nat) (w : World) (h : ItAt w p l) (hk : k < 2 ^ 64) (hl : l.length ≤ 1000) :
    Calls Tryz.prog 44 #[.agg #[.pointer p], .int .u64 k] w (OfPost w (dropL k l)) := by
  obtain ⟨t, a, b, rfl⟩ := h
  refine (It.mdrop_calls p t k w ⟨a, b, hl⟩ hk).mono ?_
  rintro e w' ⟨q, rfl, c, d⟩
  refine ⟨q, rfl, ⟨_, c, ?_⟩, d⟩
  cases t with
  | none => exact ⟨trivial, rfl⟩
  | some t => exact drop_ok b
def NmPost (w : World) (l : List (Pr Nm)) (e : Ending) (w' : World) : Prop := ∃ p, e = .returned (.agg #[.pointer p]) ∧ NmAt w' p l ∧ Ext w w'
theorem nmput_calls (p : Option Addr) (l : List (Pr Nm)) (k : Nat) (v : Nm) (w : World) (h : NmAt w p l) (hk : k < 2 ^ 64) (hl : l.length ≤ 1000) :
    Calls Tryz.prog 38 #[.agg #[.pointer p], .int .u64 k, .agg #[.int .i64 v.v, .int .i64 v.n]] w (NmPost w (putL k v l)) := by
  obtain ⟨t, a, b, rfl⟩ := h
  refine (Nm.mput_calls p t k v w ⟨a, b, hl⟩ hk).mono ?_
  rintro e w' ⟨q, rfl, c, d⟩
  refine ⟨q, rfl, ⟨_, c, ?_⟩, d⟩
  cases t with
  | none => exact wf_leaf hk
  | some t => exact wf_put hk b
theorem nmdrop_calls (p : Option Addr) (l : List (Pr Nm)) (k : Nat) (w : World) (h : NmAt w p l) (hk : k < 2 ^ 64) (hl : l.length ≤ 1000) :
    Calls Tryz.prog 41 #[.agg #[.pointer p], .int .u64 k] w (NmPost w (dropL k l)) := by
  obtain ⟨t, a, b, rfl⟩ := h
  refine (Nm.mdrop_calls p t k w ⟨a, b, hl⟩ hk).mono ?_
  rintro e w' ⟨q, rfl, c, d⟩
  refine ⟨q, rfl, ⟨_, c, ?_⟩, d⟩
  cases t with
  | none => exact ⟨trivial, rfl⟩
  | some t => exact drop_ok b
def MpPost (w : World) (l : List (Pr Mp)) (e : Ending) (w' : World) : Prop := ∃ p, e = .returned (.agg #[.pointer p]) ∧ MpAt w' p l ∧ Ext w w'
theorem mpput_calls (p : Option Addr) (l : List (Pr Mp)) (k : Nat) (v : Mp) (w : World) (h : MpAt w p l) (hk : k < 2 ^ 64) (hl : l.length ≤ 1000) :
    Calls Tryz.prog 36 #[.agg #[.pointer p], .int .u64 k, .agg #[.pointer v]] w (MpPost w (putL k v l)) := by
  obtain ⟨t, a, b, rfl⟩ := h
  refine (Mp.mput_calls p t k v w ⟨a, b, hl⟩ hk).mono ?_
  rintro e w' ⟨q, rfl, c, d⟩
  refine ⟨q, rfl, ⟨_, c, ?_⟩, d⟩
  cases t with
  | none => exact wf_leaf hk
  | some t => exact wf_put hk b
theorem mpdrop_calls (p : Option Addr) (l : List (Pr Mp)) (k : Nat) (w : World) (h : MpAt w p l) (hk : k < 2 ^ 64) (hl : l.length ≤ 1000) :
    Calls Tryz.prog 42 #[.agg #[.pointer p], .int .u64 k] w (MpPost w (dropL k l)) := by
  obtain ⟨t, a, b, rfl⟩ := h
  refine (Mp.mdrop_calls p t k w ⟨a, b, hl⟩ hk).mono ?_
  rintro e w' ⟨q, rfl, c, d⟩
  refine ⟨q, rfl, ⟨_, c, ?_⟩, d⟩
  cases t with
  | none => exact ⟨trivial, rfl⟩
  | some t => exact drop_ok b
theorem itlen_calls (p : Option Addr) (l : List (Pr It)) (w : World) (h : ItAt w p l) :
    Calls Tryz.prog 40 #[.agg #[.pointer p]] w fun e w' => e = .returned (.int .i64 (l.length : Int)) ∧ Ext w w' := by
  obtain ⟨t, a, b, rfl⟩ := h
  exact It.mlen_calls p t w a

section
variable {w : World} {lv : List (Pr Mp)} {L L' : List Sl} {kv : Nat} {p : Option Addr}
theorem Vers.put (h : Vers w lv L) (hu : Up lv) (hp : ItAt w p (itemsOf L' kv)) (hne : itemsOf L' kv ≠ []) (ho : ∀ v', v' ≠ (kv : Int) → itemsOf L' v' = itemsOf L v') (hm : ∀ s ∈ L', s.v ≠ kv → s ∈ L) : Vers w (putL kv p lv) L' := by
  refine ⟨fun e he => ?_, fun e he => ?_, fun s hs => ?_⟩
  · rcases (mem_putL hu).1 he with rfl | ⟨he, hk⟩
    · exact hp
    · rw [ho _ (by omega)]; exact h.at_ e he
  · rcases (mem_putL hu).1 he with rfl | ⟨he, hk⟩
    · exact hne
    · rw [ho _ (by omega)]; exact h.ne e he
  · by_cases hv : s.v = kv
    · exact ⟨⟨kv, p⟩, (mem_putL hu).2 (.inl rfl), hv.symm⟩
    · obtain ⟨e, he, hk⟩ := h.all s (hm s hs hv)
      exact ⟨e, (mem_putL hu).2 (.inr ⟨he, by omega⟩), hk⟩
theorem Vers.drop (h : Vers w lv L) (hn : ∀ s ∈ L', s.v ≠ kv) (ho : ∀ v', v' ≠ (kv : Int) → itemsOf L' v' = itemsOf L v') (hm : ∀ s ∈ L', s.v ≠ kv → s ∈ L) : Vers w (dropL kv lv) L' := by
  refine ⟨fun e he => ?_, fun e he => ?_, fun s hs => ?_⟩
  · obtain ⟨he, hk⟩ := mem_dropL.1 he
    rw [ho _ (by omega)]; exact h.at_ e he
  · obtain ⟨he, hk⟩ := mem_dropL.1 he
    rw [ho _ (by omega)]; exact h.ne e he
  · obtain ⟨e, he, hk⟩ := h.all s (hm s hs (hn s hs))
    exact ⟨e, mem_dropL.2 ⟨he, by have := hn s hs; omega⟩, hk⟩
end

/-- The index behind a put, and what is told. -/
def putX (u : Int) (x : Ix) (v n b : Int) : Ix × Int :=
  if (0 ≤ v ∧ v ≤ 1099511627776) ∧ (0 ≤ n ∧ n ≤ 1099511627776) ∧ 1 ≤ b ∧ b ≤ u then (match getS x.L v n with | some _ => (x, 7) | none => (putS x v n b, 0)) else (x, 1)
def XPost (w : World) (xb : Nat) (u : Int) (x : Ix) (r : Value) (e : Ending) (w' : World) : Prop := e = .returned r ∧ IxAt w' xb u x ∧ Chx xb w w'
theorem XPost.same {w w' : World} {xb : Nat} {u : Int} {x : Ix} {r : Value} (h : IxAt w xb u x) (hx : Ext w w') : XPost w xb u x r (.returned r) w' := ⟨rfl, h.ext hx, Chx.of_ext hx⟩
/-- An index just behind a put. -/
theorem ix_put {w : World} {xb : Nat} {u : Int} {x : Ix} {kv kn : Nat} {b : Int} {p q p' : Option Addr} {lv : List (Pr Mp)} (hf : Fit u x) (hg : getS x.L kv kn = none) (hs : SlOk u ⟨kv, kn, b, x.c + 1⟩)
    (hb : w.heap[xb]? = some (.cells #[.int .i64 u, .pointer p, .pointer q, .int .i64 (x.c + 1), .int .i64 (sumS x.L + b)] 77 (0, 0)))
    (hv : Vers w lv x.L) (hu : Up lv) (hp : MpAt w p (putL kv p' lv)) (hi : ItAt w p' (putL kn ⟨b, x.c + 1⟩ (itemsOf x.L kv))) (hq : NmAt w q (putL (x.c + 1).toNat ⟨kv, kn⟩ (cntOf x.L))) : IxAt w xb u (putS x kv kn b) := by
  have hip := fun v' => items_put hf.ok hg hs v'
  have e1 : itemsOf (putS x kv kn b).L kv = putL kn ⟨b, x.c + 1⟩ (itemsOf x.L kv) := by rw [hip, if_pos rfl]; simp
  refine ⟨p, q, putL kv p' lv, ?_, hp, ?_, ?_⟩
  · rw [hb]
    have : sumS (putS x kv kn b).L = sumS x.L + b := by show sumS (x.L ++ _) = _; rw [sumS_append]; simp [sumS]
    rw [this]; rfl
  · rw [cnt_put hf.ok]; exact hq
  · refine hv.put hu (by rw [e1]; exact hi) ?_ (fun v' hne => by rw [hip, if_neg hne]) fun s hs hne => ?_
    · rw [e1]
      intro e
      have : (⟨kn, b, x.c + 1⟩ : Pr It) ∈ putL kn ⟨b, x.c + 1⟩ (itemsOf x.L kv) := (mem_putL (items_up _ _)).2 (.inl rfl)
      rw [e] at this; cases this
    · rcases List.mem_append.1 (show s ∈ x.L ++ [_] from hs) with a | a
      · exact a
      · simp at a; subst a; exact absurd rfl hne

/-- All bytes are not many. -/
theorem sum_bound {u : Int} {L : List Sl} (h : ∀ s ∈ L, 1 ≤ s.b ∧ s.b ≤ u) (hu : 0 ≤ u) : 0 ≤ sumS L ∧ sumS L ≤ L.length * u := by
  induction L with
  | nil => simp [sumS]
  | cons s L ih =>
    obtain ⟨a, b⟩ := ih fun t ht => h t (List.mem_cons_of_mem _ ht)
    obtain ⟨c, d⟩ := h s (List.mem_cons_self ..)
    have e : sumS (s :: L) = s.b + sumS L := by simp [sumS]
    have e2 : ((s :: L).length : Int) * u = L.length * u + u := by simp [Int.add_mul]
    rw [e, e2]; omega
theorem sum_le {u : Int} {x : Ix} (hf : Fit u x) : 0 ≤ sumS x.L ∧ sumS x.L ≤ 943718400 := by
  obtain ⟨a, b⟩ := sum_bound (u := u) (L := x.L) (fun s hs => (hf.ok.ok s hs).2.2.2.2) (by have := hf.u0; omega)
  refine ⟨a, Int.le_trans b ?_⟩
  have h1 : (x.L.length : Int) ≤ 900 := by have := hf.len; omega
  have h2 := hf.u1
  have h3 := hf.u0
  calc (x.L.length : Int) * u ≤ 900 * u := Int.mul_le_mul_of_nonneg_right h1 (by omega)
    _ ≤ 943718400 := by omega
theorem nodup_len {α : Type} [DecidableEq α] {l m : List α} (h : l.Nodup) (hs : ∀ z ∈ l, z ∈ m) : l.length ≤ m.length := by
  induction l generalizing m with
  | nil => simp
  | cons a l ih =>
    obtain ⟨h1, h2⟩ := List.nodup_cons.1 h
    have ha := hs a (List.mem_cons_self ..)
    have := ih (m := m.erase a) h2 fun z hz => (List.mem_erase_of_ne (fun e => h1 (by rw [← e]; exact hz))).2 (hs z (List.mem_cons_of_mem _ hz))
    have hl := List.length_erase_of_mem ha
    have hp := List.length_pos_of_mem ha
    simp; omega
/-- There are no more versions than slices. -/
theorem vers_len {w : World} {p : Option Addr} {lv : List (Pr Mp)} {u : Int} {x : Ix} (hm : MpAt w p lv) (h : Vers w lv x.L) (hf : Fit u x) : lv.length ≤ x.L.length := by
  have hnd : (lv.map fun e => (e.k : Int)).Nodup := by
    refine List.pairwise_map.2 (hm.up.imp ?_)
    intro a b hab; omega
  have hsub : ∀ z ∈ lv.map fun e => (e.k : Int), z ∈ x.L.map (·.v) := by
    intro z hz
    obtain ⟨e, he, rfl⟩ := List.mem_map.1 hz
    have := h.ne e he
    by_cases hex : ∃ s ∈ x.L, s.v = e.k
    · obtain ⟨s, hs, hv⟩ := hex
      exact List.mem_map.2 ⟨s, hs, hv⟩
    · exact absurd ((items_nil hf.ok.dis hf.ok.n0 _).2 fun s hs hv => hex ⟨s, hs, hv⟩) this
  have := (nodup_len hnd hsub)
  simpa using this
end Go.Proofs.YtgcplndmhlideaaGreat
