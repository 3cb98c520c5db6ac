/- The list in memory, without what its map says: what pull and push make of both rows. -/
import Derived.Test.YtmcddajniiaieaaDoorRow
namespace Go.Proofs.YtmcddajniiaieaaDoor
open Go.RowKit

def I64 (n : Int) : Prop := -9223372036854775808 ≤ n ∧ n ≤ 9223372036854775807
def lsCells (most : Int) (m : Option Nat) (T K : List Nd) : Array Value := #[.int .i64 most, .map m, .pointer (lsP T none), .pointer (hdP T none), .int .i64 (sumN T), .pointer (lsP K none), .pointer (hdP K none), .int .i64 (sumN K)]
structure Core (w : World) (lb : Nat) (most : Int) (m : Option Nat) (T K : List Nd) : Prop where
  blk : w.heap[lb]? = some (.cells (lsCells most m T K) 97 (0, 0))
  seT : Seg 108 w false none T none
  seK : Seg 108 w true none K none
  nd : ((T ++ K).map Nd.b).Nodup
  small : ∀ x ∈ T ++ K, 1 ≤ x.n ∧ x.n ≤ 1099511627776
  len : (T ++ K).length ≤ 1000
section
variable {w w' : World} {lb : Nat} {most : Int} {m : Option Nat} {T K A B : List Nd} {x : Nd}
theorem Core.ndT (h : Core w lb most m T K) : (T.map Nd.b).Nodup := by have := h.nd; rw [List.map_append, List.nodup_append] at this; exact this.1
theorem Core.ndK (h : Core w lb most m T K) : (K.map Nd.b).Nodup := by have := h.nd; rw [List.map_append, List.nodup_append] at this; exact this.2.1
theorem Core.neTK (h : Core w lb most m T K) : ∀ x ∈ T, ∀ y ∈ K, x.b ≠ y.b := fun x hx y hy => by
  have := h.nd
  rw [List.map_append, List.nodup_append] at this
  exact this.2.2 _ (List.mem_map_of_mem hx) _ (List.mem_map_of_mem hy)
theorem Core.neT (h : Core w lb most m T K) : ∀ x ∈ T, x.b ≠ lb := fun x hx e => by
  obtain ⟨p, q, hp⟩ := h.seT.mem hx
  exact ne_of_ty h.blk hp (by decide) e.symm
theorem Core.neK (h : Core w lb most m T K) : ∀ x ∈ K, x.b ≠ lb := fun x hx e => by
  obtain ⟨p, q, hp⟩ := h.seK.mem hx
  exact ne_of_ty h.blk hp (by decide) e.symm
theorem Core.bT (h : Core w lb most m T K) : 0 ≤ sumN T ∧ sumN T ≤ 1099511627776000 := by
  have h1 := sumN_bound (L := T) fun x hx => h.small x (List.mem_append_left _ hx)
  have h2 := h.len
  rw [List.length_append] at h2
  omega
theorem Core.bK (h : Core w lb most m T K) : 0 ≤ sumN K ∧ sumN K ≤ 1099511627776000 := by
  have h1 := sumN_bound (L := K) fun x hx => h.small x (List.mem_append_right _ hx)
  have h2 := h.len
  rw [List.length_append] at h2
  omega
theorem Core.ext (h : Core w lb most m T K) (hx : Ext w w') : Core w' lb most m T K := ⟨hx.block h.blk, h.seT.ext hx, h.seK.ext hx, h.nd, h.small, h.len⟩
theorem Core.far (h : Core w lb most m T K) {S : List Nat} (hc : Ch S w w') (h1 : lb ∉ S) (h2 : ∀ x ∈ T ++ K, x.b ∉ S) : Core w' lb most m T K :=
  ⟨hc.far h.blk h1, h.seT.far hc fun x hx => h2 x (List.mem_append_left _ hx), h.seK.far hc fun x hx => h2 x (List.mem_append_right _ hx), h.nd, h.small, h.len⟩

theorem pullT_core (h : Core w lb most m (A ++ x :: B) K) : Calls Tryd.prog 42 #[.pointer (some ⟨lb, 2, none⟩), .pointer x.ptr] w fun e w' =>
    e = .returned (.tuple #[]) ∧ Core w' lb most m (A ++ B) K ∧ (∃ p q, x.At 108 w' false p q) ∧ Ch (lb :: (A ++ B).map Nd.b) w w' ∧ ∀ y ∈ (A ++ B) ++ K, y.b ≠ x.b := by
  have hb := h.bT
  have hxs := (h.small x (by simp)).1
  have hsum : sumN (A ++ x :: B) = x.n + sumN (A ++ B) := by simp only [sumN_append, sumN_cons]; omega
  have hsx := h.small x (by simp)
  have hsub : ∀ z ∈ A ++ B, z ∈ A ++ x :: B := fun z hz => by simp at hz ⊢; rcases hz with h | h <;> simp [h]
  have hsub2 : ∀ z ∈ (A ++ B) ++ K, z ∈ (A ++ x :: B) ++ K := fun z hz => by
    rcases List.mem_append.1 hz with hz | hz
    · exact List.mem_append_left _ (hsub z hz)
    · exact List.mem_append_right _ hz
  obtain ⟨hAx, hBx, -, -, -⟩ := nd_split h.ndT
  have hne : ∀ y ∈ (A ++ B) ++ K, y.b ≠ x.b := fun y hy => by
    rcases List.mem_append.1 hy with hy | hy
    · exact (List.mem_append.1 hy).elim (hAx y) (hBx y)
    · exact fun e => h.neTK x (by simp) y hy e.symm
  refine (pull2_calls lb (.int .i64 most) (.map m) (.pointer (lsP K none)) (.pointer (hdP K none)) (.int .i64 (sumN K)) false A B x w h.blk h.seT h.ndT (by omega)).mono fun e w' ⟨he, h1, h2, h3⟩ => ?_
  refine ⟨he, ⟨h1, h2, ?o, ?n, fun z hz => h.small z (hsub2 z hz), ?l⟩, ?x, h3, hne⟩
  case o => exact h.seK.far h3 (fun y hy hm => by
    simp only [List.mem_cons, List.mem_map] at hm
    rcases hm with e | ⟨z, hz, e⟩
    · exact h.neK y hy e
    · exact h.neTK z (hsub z hz) y hy e)
  case n => exact h.nd.sublist (List.Sublist.map _ (List.Sublist.append_right (List.Sublist.append_left (List.sublist_cons_self _ _) _) _))
  case l => have := h.len; simp at this ⊢; omega
  case x =>
    obtain ⟨p, q, hp⟩ := h.seT.mem (x := x) (by simp)
    exact ⟨p, q, h3.far hp (fun hm => by
      simp only [List.mem_cons, List.mem_map] at hm
      rcases hm with e | ⟨z, hz, e⟩
      · exact h.neT x (by simp) e
      · exact hne z (List.mem_append_left _ hz) e)⟩
theorem pushT_core {p q : Option Addr} (h : Core w lb most m T K) (hx : x.At 108 w false p q) (hn : ∀ y ∈ T ++ K, y.b ≠ x.b) (hs : 1 ≤ x.n ∧ x.n ≤ 1099511627776) (hl : (T ++ K).length < 1000) : Calls Tryd.prog 43 #[.pointer (some ⟨lb, 2, none⟩), .pointer x.ptr] w fun e w' =>
    e = .returned (.tuple #[]) ∧ Core w' lb most m (T ++ [x]) K ∧ Ch (lb :: x.b :: T.map Nd.b) w w' := by
  have hb := h.bT
  have hnR : ∀ y ∈ T, y.b ≠ x.b := fun y hy => hn y (List.mem_append_left _ hy)
  refine (push2_calls lb (.int .i64 most) (.map m) (.pointer (lsP K none)) (.pointer (hdP K none)) (.int .i64 (sumN K)) false T x p q w h.blk h.seT hx hnR h.ndT (by omega)).mono fun e w' ⟨he, h1, h2, h3⟩ => ?_
  have hsub : ∀ z ∈ T, z ∈ T := fun z hz => hz
  refine ⟨he, ⟨by unfold lsCells; rw [lsP_snoc]; exact h1, h2, ?o, ?n, ?s, ?l⟩, h3⟩
  case o => exact h.seK.far h3 (fun y hy hm => by
    simp only [List.mem_cons, List.mem_map] at hm
    rcases hm with e | e | ⟨z, hz, e⟩
    · exact h.neK y hy e
    · exact hn y (List.mem_append_right _ hy) e
    · exact h.neTK z hz y hy e)
  case n =>
    have hp : List.Perm ((T ++ [x]) ++ K) (x :: (T ++ K)) := by rw [List.append_assoc]; exact List.perm_middle (l₁ := T) (a := x) (l₂ := K)
    rw [(hp.map Nd.b).nodup_iff, List.map_cons, List.nodup_cons]
    exact ⟨fun hm => by
      obtain ⟨y, hy, e⟩ := List.mem_map.1 hm
      exact hn y hy e, h.nd⟩
  case s =>
    intro z hz
    by_cases e : z = x
    · rw [e]; exact hs
    · refine h.small z ?_
      simp at hz ⊢
      simpa [e, or_comm, or_left_comm] using hz
  case l => simp at hl ⊢; omega

theorem pullK_core (h : Core w lb most m T (A ++ x :: B)) : Calls Tryd.prog 42 #[.pointer (some ⟨lb, 5, none⟩), .pointer x.ptr] w fun e w' =>
    e = .returned (.tuple #[]) ∧ Core w' lb most m T (A ++ B) ∧ (∃ p q, x.At 108 w' true p q) ∧ Ch (lb :: (A ++ B).map Nd.b) w w' ∧ ∀ y ∈ T ++ (A ++ B), y.b ≠ x.b := by
  have hb := h.bK
  have hxs := (h.small x (by simp)).1
  have hsum : sumN (A ++ x :: B) = x.n + sumN (A ++ B) := by simp only [sumN_append, sumN_cons]; omega
  have hsx := h.small x (by simp)
  have hsub : ∀ z ∈ A ++ B, z ∈ A ++ x :: B := fun z hz => by simp at hz ⊢; rcases hz with h | h <;> simp [h]
  have hsub2 : ∀ z ∈ T ++ (A ++ B), z ∈ T ++ (A ++ x :: B) := fun z hz => by
    rcases List.mem_append.1 hz with hz | hz
    · exact List.mem_append_left _ hz
    · exact List.mem_append_right _ (hsub z hz)
  obtain ⟨hAx, hBx, -, -, -⟩ := nd_split h.ndK
  have hne : ∀ y ∈ T ++ (A ++ B), y.b ≠ x.b := fun y hy => by
    rcases List.mem_append.1 hy with hy | hy
    · exact h.neTK y hy x (by simp)
    · exact (List.mem_append.1 hy).elim (hAx y) (hBx y)
  refine (pull5_calls lb (.int .i64 most) (.map m) (.pointer (lsP T none)) (.pointer (hdP T none)) (.int .i64 (sumN T)) true A B x w h.blk h.seK h.ndK (by omega)).mono fun e w' ⟨he, h1, h2, h3⟩ => ?_
  refine ⟨he, ⟨h1, ?o, h2, ?n, fun z hz => h.small z (hsub2 z hz), ?l⟩, ?x, h3, hne⟩
  case o => exact h.seT.far h3 (fun y hy hm => by
    simp only [List.mem_cons, List.mem_map] at hm
    rcases hm with e | ⟨z, hz, e⟩
    · exact h.neT y hy e
    · exact h.neTK y hy z (hsub z hz) e.symm)
  case n => exact h.nd.sublist (List.Sublist.map _ (List.Sublist.append_left (List.Sublist.append_left (List.sublist_cons_self _ _) _) _))
  case l => have := h.len; simp at this ⊢; omega
  case x =>
    obtain ⟨p, q, hp⟩ := h.seK.mem (x := x) (by simp)
    exact ⟨p, q, h3.far hp (fun hm => by
      simp only [List.mem_cons, List.mem_map] at hm
      rcases hm with e | ⟨z, hz, e⟩
      · exact h.neK x (by simp) e
      · exact hne z (List.mem_append_right _ hz) e)⟩
theorem pushK_core {p q : Option Addr} (h : Core w lb most m T K) (hx : x.At 108 w true p q) (hn : ∀ y ∈ T ++ K, y.b ≠ x.b) (hs : 1 ≤ x.n ∧ x.n ≤ 1099511627776) (hl : (T ++ K).length < 1000) : Calls Tryd.prog 43 #[.pointer (some ⟨lb, 5, none⟩), .pointer x.ptr] w fun e w' =>
    e = .returned (.tuple #[]) ∧ Core w' lb most m T (K ++ [x]) ∧ Ch (lb :: x.b :: K.map Nd.b) w w' := by
  have hb := h.bK
  have hnR : ∀ y ∈ K, y.b ≠ x.b := fun y hy => hn y (List.mem_append_right _ hy)
  refine (push5_calls lb (.int .i64 most) (.map m) (.pointer (lsP T none)) (.pointer (hdP T none)) (.int .i64 (sumN T)) true K x p q w h.blk h.seK hx hnR h.ndK (by omega)).mono fun e w' ⟨he, h1, h2, h3⟩ => ?_
  have hsub : ∀ z ∈ K, z ∈ K := fun z hz => hz
  refine ⟨he, ⟨by unfold lsCells; rw [lsP_snoc]; exact h1, ?o, h2, ?n, ?s, ?l⟩, h3⟩
  case o => exact h.seT.far h3 (fun y hy hm => by
    simp only [List.mem_cons, List.mem_map] at hm
    rcases hm with e | e | ⟨z, hz, e⟩
    · exact h.neT y hy e
    · exact hn y (List.mem_append_left _ hy) e
    · exact h.neTK y hy z hz e.symm)
  case n =>
    have hp : List.Perm (T ++ (K ++ [x])) (x :: (T ++ K)) := by rw [← List.append_assoc]; exact List.perm_append_singleton _ _
    rw [(hp.map Nd.b).nodup_iff, List.map_cons, List.nodup_cons]
    exact ⟨fun hm => by
      obtain ⟨y, hy, e⟩ := List.mem_map.1 hm
      exact hn y hy e, h.nd⟩
  case s =>
    intro z hz
    by_cases e : z = x
    · rw [e]; exact hs
    · refine h.small z ?_
      simp at hz ⊢
      simpa [e, or_comm, or_left_comm] using hz
  case l => simp at hl ⊢; omega
end
end Go.Proofs.YtmcddajniiaieaaDoor
