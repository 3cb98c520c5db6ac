/- The list in memory, with what its map says. -/
import Derived.Test.YtmcddajniiaieaaDoorCore
namespace Go.Proofs.YtmcddajniiaieaaDoor
open Go.RowKit

/-- A list's state: the map's block, the trial part and the kept one, each from its back to its front. -/
structure Ls where
  most : Int
  m : Option Nat
  T : List Nd
  K : List Nd
def Ls.all (s : Ls) : List Nd := s.T ++ s.K
def kI (k : Int) : Lit := .int .i64 k
/-- The map of a list: each thing at its key, and nothing else. -/
def LMap (w : World) (m n : Nat) (L : List Nd) : Prop := ∃ f, MapV Tryd.prog 2 w m n f ∧ (∀ x ∈ L, f (kI x.k) = some (.pointer x.ptr)) ∧ ∀ kl v, f kl = some v → ∃ x ∈ L, kl = kI x.k
structure LsAt (w : World) (B lb c : Nat) (s : Ls) : Prop where
  core : Core w lb s.most s.m s.T s.K
  lb : B ≤ lb
  own : ∀ x ∈ s.all, B ≤ x.b
  kd : (s.all.map Nd.k).Nodup
  keys : ∀ x ∈ s.all, I64 x.k
  len : s.all.length ≤ c
  most0 : 0 ≤ s.most
  map : (s.m = none ∧ s.all = []) ∨ ∃ m, s.m = some m ∧ B ≤ m ∧ LMap w m c s.all
theorem zeroT (w : World) : (zeroValue 93).run Tryd.prog w = .ok (.pointer none) w := by kernel_rfl
theorem key_mk {k : Int} (h : I64 k) : keyOf Tryd.prog 2 (.int .i64 k) = some (kI k) := by
  refine Maps.keyOf_int_mk Tryd.underlying2 ?_
  have h1 : IntKind.i64.min = -9223372036854775808 := by decide
  have h2 : IntKind.i64.max = 9223372036854775807 := by decide
  unfold I64 at h
  simp [Lit.wf, h1, h2]
  omega
section
variable {w w' : World} {B lb c : Nat} {s : Ls}
theorem LMap.keep {m n : Nat} {L : List Nd} (h : LMap w m n L) (e : ∀ es cl, w.heap[m]? = some (.map es cl) → w'.heap[m]? = some (.map es cl)) : LMap w' m n L := by
  obtain ⟨f, h1, h2⟩ := h
  exact ⟨f, h1.same e, h2⟩
theorem LMap.perm {m n : Nat} {L L' : List Nd} (h : LMap w m n L) (e : ∀ x, x ∈ L ↔ x ∈ L') : LMap w m n L' := by
  obtain ⟨f, h1, h2, h3⟩ := h
  refine ⟨f, h1, fun x hx => h2 x ((e x).2 hx), fun kl v hv => ?_⟩
  obtain ⟨x, hx, r⟩ := h3 kl v hv
  exact ⟨x, (e x).1 hx, r⟩
theorem LsAt.keep (h : LsAt w B lb c s) (e : ∀ k o, w.heap[k]? = some o → (∀ cs t fr, o = .cells cs t fr → t = 97 ∨ t = 108) → (∀ es cl, o = .map es cl → s.m = some k) → B ≤ k → w'.heap[k]? = some o) : LsAt w' B lb c s := by
  have hseg : ∀ kp bh L ah, (∀ x ∈ L, B ≤ x.b) → Seg 108 w kp bh L ah → Seg 108 w' kp bh L ah := fun kp bh L ah hB hs => hs.keep fun x hx => by
    obtain ⟨p, q, hp⟩ := hs.mem hx
    refine (e _ _ hp (fun cs t fr h => ?_) (fun _ _ h => by cases h) (hB x hx)).trans hp.symm
    cases h; exact .inr rfl
  refine ⟨⟨e _ _ h.core.blk (fun cs t fr h => by cases h; exact .inl rfl) (fun _ _ h => by cases h) h.lb, hseg _ _ _ _ (fun x hx => h.own x (List.mem_append_left _ hx)) h.core.seT, hseg _ _ _ _ (fun x hx => h.own x (List.mem_append_right _ hx)) h.core.seK, h.core.nd, h.core.small, h.core.len⟩, h.lb, h.own, h.kd, h.keys, h.len, h.most0, ?_⟩
  rcases h.map with hm | ⟨m, hm, hB, hl⟩
  · exact .inl hm
  · exact .inr ⟨m, hm, hB, hl.keep fun es cl ho => e m _ ho (fun _ _ _ h => by cases h) (fun _ _ _ => hm) hB⟩
theorem LsAt.ext (h : LsAt w B lb c s) (hx : Ext w w') : LsAt w' B lb c s := h.keep fun _ _ ho _ _ _ => hx.block ho
theorem LsAt.kp_ {B' : Nat} {T : List TypeId} {M : List Nat} (h : LsAt w B lb c s) (hk : Kp B' T M w w') (h1 : 97 ∉ T) (h2 : 108 ∉ T) (hm : ∀ m, s.m = some m → m ∉ M) : LsAt w' B lb c s :=
  h.keep fun k o ho hc hmm _ => by
    cases o with
    | cells cs t fr =>
      refine hk.cells ho fun ht => ?_
      rcases hc cs t fr rfl with rfl | rfl
      · exact h1 ht
      · exact h2 ht
    | map es cl => exact hk.maps ho (hm k (hmm es cl rfl))
    | _ => exact (hk.block k (Array.getElem?_eq_some_iff.1 ho).1 (.inr fun hm' => by rcases hm' with ⟨_, _, _, h1, _⟩ | ⟨_, _, h1, _⟩ <;> rw [ho] at h1 <;> cases h1)).trans ho
/-- What asking for a key brings forth. -/
theorem LsAt.look (h : LsAt w B lb c s) {k : Int} (hk : I64 k) :
    (∃ x ∈ s.all, x.k = k ∧ (Instr.lookup 92 (.map s.m) (.int .i64 k) true).run Tryd.prog w = .ok (.tuple #[.pointer x.ptr, .bool true]) w) ∨
    ((∀ x ∈ s.all, x.k ≠ k) ∧ (Instr.lookup 92 (.map s.m) (.int .i64 k) true).run Tryd.prog w = .ok (.tuple #[.pointer none, .bool false]) w) := by
  rcases h.map with ⟨hm, ha⟩ | ⟨m, hm, hB, f, h1, h2, h3⟩
  · refine .inr ⟨by rw [ha]; simp, ?_⟩
    rw [hm]
    exact Maps.look_nil true (Maps.int_keyed Tryd.underlying2) Tryd.underlying92 (zeroT w) (key_mk hk)
  · rw [hm, h1.look_ok (Maps.int_keyed Tryd.underlying2) Tryd.underlying92 (zeroT w) (key_mk hk)]
    cases hf : f (kI k) with
    | none =>
      refine .inr ⟨fun x hx e => ?_, rfl⟩
      have := h2 x hx
      rw [e, hf] at this
      cases this
    | some v =>
      obtain ⟨x, hx, e⟩ := h3 _ _ hf
      have e2 : x.k = k := by unfold kI at e; cases e; rfl
      have := h2 x hx
      rw [e2, hf] at this
      cases this
      exact .inl ⟨x, hx, e2, rfl⟩
/-- One of the nodes in memory. -/
theorem LsAt.node (h : LsAt w B lb c s) {x : Nd} (hx : x ∈ s.all) : ∃ kp p q, x.At 108 w kp p q ∧ (kp = false → x ∈ s.T) ∧ (kp = true → x ∈ s.K) := by
  rcases List.mem_append.1 hx with hx | hx
  · obtain ⟨p, q, hp⟩ := h.core.seT.mem hx
    exact ⟨false, p, q, hp, (fun _ => hx), (fun e => by cases e)⟩
  · obtain ⟨p, q, hp⟩ := h.core.seK.mem hx
    exact ⟨true, p, q, hp, (fun e => by cases e), fun _ => hx⟩
end
/-- What a list's functions may turn. -/
def lsTs : List TypeId := [97, 108]

set_option maxRecDepth 100000 in
theorem lsof_calls (lb : Nat) (x : Nd) (kp : Bool) (p q : Option Addr) (w : World) (hx : x.At 108 w kp p q) : Calls Tryd.prog 41 #[.pointer (some ⟨lb, 0, none⟩), .pointer x.ptr] w fun e w' => e = .returned (.pointer (some ⟨lb, if kp then 5 else 2, none⟩)) ∧ w' = w := by
  have x2 : w.cell? ⟨x.b, 2, none⟩ = some (.bool kp) := blk_cell hx 2 rfl
  clear hx
  unfold Nd.ptr
  cases kp
  · go_enter Tryd.func41, Tryd.ntmps41
    go_wp2
    go_ret
    exact ⟨rfl, rfl⟩
  · go_enter Tryd.func41, Tryd.ntmps41
    go_wp2
    go_ret
    exact ⟨rfl, rfl⟩
end Go.Proofs.YtmcddajniiaieaaDoor
