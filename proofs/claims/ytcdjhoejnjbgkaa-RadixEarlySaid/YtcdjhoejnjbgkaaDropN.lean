/- The contract of a node's drop: at no node, at a number, and at a node of a bit that the number does not lie under. -/
import Derived.Test.YtcdjhoejnjbgkaaPutC
namespace Go.Proofs.Ytcdjhoejnjbgkaa
open Go.RowKit

def AtO (w : World) (p : Option Addr) : Option Nd → Prop
  | none => p = none
  | some t => At w p t
theorem AtO.ext {w w' : World} {p : Option Addr} {t : Option Nd} (hx : Ext w w') (h : AtO w p t) : AtO w' p t := by
  cases t with
  | none => exact h
  | some t => exact At.ext hx h
def OPost (w : World) (t : Option Nd) (e : Ending) (w' : World) : Prop := ∃ p, e = .returned (.pointer p) ∧ AtO w' p t ∧ Ext w w'

theorem drop_nil (k : Nat) (w : World) : Calls Try.prog 38 #[.pointer none, .int .u64 k] w (OPost w none) := by
  go_enter Try.func38, Try.ntmps38
  go_wp2
  go_ret
  exact ⟨none, rfl, rfl, Ext.refl w⟩
theorem drop_same (b k : Nat) (v : Int) (w : World) (h : Cells w b k v (-1) none none 1 0) : Calls Try.prog 38 #[.pointer (some ⟨b, 0, none⟩), .int .u64 k] w (OPost w none) := by
  obtain ⟨c0, c1, c2, c3, c4, c5, c6, cb⟩ := h
  clear cb
  go_enter Try.func38, Try.ntmps38
  go_wp2
  go_ret
  exact ⟨none, rfl, rfl, Ext.refl w⟩
theorem drop_other (b k' k : Nat) (v : Int) (w : World) (h : Cells w b k' v (-1) none none 1 0) (hne : k' ≠ k) : Calls Try.prog 38 #[.pointer (some ⟨b, 0, none⟩), .int .u64 k] w (OPost w (some (.leaf k' v))) := by
  have hh := Lib.hid h
  obtain ⟨c0, c1, c2, c3, c4, c5, c6, cb⟩ := h
  clear cb
  have hn : ((k' : Int) == (k : Int)) = false := by simp; omega
  go_enter Try.func38, Try.ntmps38
  go_wp2
  go_ret
  exact ⟨_, rfl, ⟨b, rfl, hh.out⟩, Ext.refl w⟩
theorem drop_far (b pr i k : Nat) (z o : Nd) (w : World) (h : At w (some ⟨b, 0, none⟩) (.br pr i z o)) (hi : i < 64) (hp : k / 2 ^ i / 2 ≠ pr) : Calls Try.prog 38 #[.pointer (some ⟨b, 0, none⟩), .int .u64 k] w (OPost w (some (.br pr i z o))) := by
  have hh := Lib.hid h
  have hq : (((k : Int) / 2 ^ i / 2) == (((pr * 2 ^ (i + 1) : Nat) : Int) / 2 ^ i / 2)) = false := by
    have e1 : ((k : Int) / 2 ^ i / 2) = ((k / 2 ^ i / 2 : Nat) : Int) := by simp
    have e2 : (((pr * 2 ^ (i + 1) : Nat) : Int) / 2 ^ i / 2) = ((pr * 2 ^ (i + 1) / 2 ^ i / 2 : Nat) : Int) := by simp
    have e3 : pr * 2 ^ (i + 1) / 2 ^ i / 2 = pr := by rw [← div_succ]; exact Nat.mul_div_cancel _ (Nat.two_pow_pos _)
    rw [e1, e2, e3]; simp; omega
  obtain ⟨b', zp, op, e, hc, hz, ho⟩ := h
  cases e
  have hkey : (Nd.br pr i z o).key = pr * 2 ^ (i + 1) := rfl
  rw [hkey] at hc
  have HC := Lib.hid hc
  have HQ := Lib.hid hq
  obtain ⟨c0, c1, c2, c3, c4, c5, c6, cb⟩ := hc
  clear cb
  have hi0 : ¬ ((i : Int) < 0) := by omega
  clear hz ho hkey hq hp
  go_enter Try.func38, Try.ntmps38
  go_wp2_with fail
  refine (above_br b _ _ i _ _ _ _ _ _ HC.out hi).mono ?_
  rw [HQ.out]
  rintro e w1 ⟨rfl, hx1⟩
  go_wp2
  go_ret
  exact ⟨_, rfl, At.ext hx1 hh.out, hx1⟩
end Go.Proofs.Ytcdjhoejnjbgkaa
