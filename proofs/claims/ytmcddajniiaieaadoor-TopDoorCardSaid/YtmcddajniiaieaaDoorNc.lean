/- The contracts of name and contains. -/
import Derived.Test.YtmcddajniiaieaaDoorOfr
namespace Go.Proofs.YtmcddajniiaieaaDoor
open Go.RowKit

set_option maxRecDepth 100000 in
theorem name_calls (t : Bool) (w : World) : Calls Tryd.prog 9 #[.bool t] w fun e w' => e = .returned (.string (nmB t)) ∧ w' = w := by
  cases t
  · go_enter Tryd.func9, Tryd.ntmps9
    go_wp2
    go_ret
    exact ⟨rfl, rfl⟩
  · go_enter Tryd.func9, Tryd.ntmps9
    go_wp2
    go_ret
    exact ⟨rfl, rfl⟩
set_option maxRecDepth 100000 in
theorem contains_calls (A : Option Addr) (cp : Nat) (l : List Int) (n : Int) (w : World) (hA : IAt w A l) (hl : l.length ≤ 1000) : Calls Tryd.prog 11 #[.slice A l.length cp, .int .i64 n] w fun e w' => e = .returned (.bool (decide (n ∈ l))) ∧ w' = w := by
  have HA := Lib.hid hA
  clear hA
  go_enter Tryd.func11, Tryd.ntmps11
  go_wp2
  go_loopw [9] (fun i wr => ∃ k : Nat, k ≤ l.length ∧ i = .int .i64 k ∧ n ∉ l.take k ∧ wr = w) (fun i _ => l.length - (intOf i).toNat)
  case atStart => exact ⟨0, Nat.zero_le _, rfl, by simp, rfl⟩
  case round =>
    obtain ⟨k, hk, rfl, hno, hw⟩ := hrel
    rw [hw]
    clear hw
    by_cases hlt : k < l.length
    · obtain ⟨b, o, rfl, p0⟩ := HA.out k hlt
      have htk := List.take_succ_eq_append_getElem hlt
      have hmem := List.getElem_mem hlt
      obtain ⟨x, hx⟩ : ∃ y, l[k] = y := ⟨_, rfl⟩
      rw [hx] at p0 htk hmem
      have HTK := Lib.hid (And.intro htk (And.intro hmem hno))
      clear htk hmem hno hx
      by_cases e : x = n
      · go_wp2
        go_ret
        exact ⟨by rw [decide_eq_true (e ▸ HTK.out.2.1)]; rfl, rfl⟩
      · go_wp2
        go_roundw
        case rel => exact ⟨k + 1, by omega, by go_num, by rw [HTK.out.1, List.mem_append]; exact fun h => h.elim HTK.out.2.2 (fun h => e (List.mem_singleton.1 h).symm), by simp⟩
        case measure => simp [intOf] <;> omega
    · obtain rfl : k = l.length := by omega
      rw [List.take_length] at hno
      have HNO := Lib.hid hno
      clear hno
      go_wp2
      go_ret
      exact ⟨by rw [decide_eq_false HNO.out]; rfl, rfl⟩
end Go.Proofs.YtmcddajniiaieaaDoor
