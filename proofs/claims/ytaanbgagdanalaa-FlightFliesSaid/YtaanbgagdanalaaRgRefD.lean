/- The contracts of the reference's Of, First, List. -/
import Derived.Test.YtaanbgagdanalaaRgRefC
import Derived.Test.YtaanbgagdanalaaRgFirst
import Derived.Laws.StructEq
namespace Go.Proofs.Ytaanbgagdanalaa.Rg
open Go.RowKit

theorem refOfN_calls (A : Option Addr) (c : Nat) (l : List Sp) (w : World) (h : SAt w A l) (hl : l.length ≤ 200000) :
    Calls Try.prog 59 #[.slice A l.length c] w (SPostN w (ofS l)) := by
  have hof := fun W (hx : Ext w W) => refofN_calls 1 (.inl rfl) A c l none 0 [] W (h.ext hx) (SAt.nil _ _) hl (by simp)
  rw [ofL_one, List.append_nil] at hof
  have HO := Lib.hid hof
  clear hof
  generalize ofS l = R at *
  go_enter Try.func59, Try.ntmps59
  go_wp2_with fail
  refine (HO.out _ (Ext.refl w)).mono ?_
  rintro e w1 ⟨V, cv, rfl, HS, HN, hx⟩
  go_wp2
  go_ret
  exact ⟨V, cv, rfl, HS, HN, hx⟩
theorem refOf_calls (A : Option Addr) (c : Nat) (l : List Sp) (w : World) (h : SAt w A l) (hl : l.length ≤ 200000) :
    Calls Try.prog 59 #[.slice A l.length c] w (SPost w (ofS l)) :=
  (refOfN_calls A c l w h hl).mono fun _ _ ⟨A', c', he, h1, _, h2⟩ => ⟨A', c', he, h1, h2⟩

theorem beh_ge {l : List Sp} {x : Int} {k : Nat} (hk : k ≤ l.length) (h : ∀ i (hi : i < l.length), i < k → l[i].t ≤ x) : k ≤ beh l x := by
  unfold beh
  induction l generalizing k with
  | nil => simpa using hk
  | cons s l ih =>
    rcases k with _ | k
    · exact Nat.zero_le _
    · have h0 : s.t ≤ x := h 0 (by simp) (by omega)
      rw [List.takeWhile_cons, if_pos (by simpa using h0), List.length_cons]
      exact Nat.succ_le_succ (ih (by simpa using hk) (fun i hi hik => h (i + 1) (by simp; omega) (by omega)))
theorem beh_eq {l : List Sp} {x : Int} {k : Nat} (hk : k < l.length) (h : ∀ i (hi : i < l.length), i < k → l[i].t ≤ x) (h1 : x < l[k].t) : beh l x = k := by
  have h2 := beh_ge (Nat.le_of_lt hk) h
  rcases Nat.lt_or_ge k (beh l x) with h3 | h3
  · have := beh_lo hk h3; omega
  · omega




end Go.Proofs.Ytaanbgagdanalaa.Rg
