/- The contract of a node's put. -/
import Derived.Test.YtcdjhoejnjbgkaaNode
import Derived.Test.YtcdjhoejnjbgkaaLen
import Derived.Laws.Bits64
namespace Go.Proofs.Ytcdjhoejnjbgkaa
open Go.RowKit

def NodePost (w : World) (t : Nd) (e : Ending) (w' : World) : Prop := ∃ b, e = .returned (.pointer (some ⟨b, 0, none⟩)) ∧ At w' (some ⟨b, 0, none⟩) t ∧ Ext w w'

theorem Nd.depth_lt (t : Nd) : t.depth < t.many := by
  induction t with
  | leaf => simp [Nd.depth, Nd.many]
  | br p b z o hz ho => simp only [Nd.depth, Nd.many]; omega

theorem and1 (k m : Nat) (hk : k < 2 ^ 64) : bits .and .u64 ((k : Int) / 2 ^ m) 1 = ((k / 2 ^ m % 2 : Nat) : Int) := by
  have hlt : k / 2 ^ m < 2 ^ 64 := Nat.lt_of_le_of_lt (Nat.div_le_self _ _) hk
  have e : ((k : Int) / 2 ^ m) = ((k / 2 ^ m : Nat) : Int) := by simp
  rw [e]
  have := u64_and_nat (k / 2 ^ m) 1 hlt (by omega)
  rw [Nat.and_one_is_mod] at this
  exact this

/-- The cells of the node of a bit, as the tree has them. -/
theorem key_join (k m : Nat) : ((k : Int) / 2 ^ m / 2 * 2 ^ (m + 1)) = ((k / 2 ^ m / 2 * 2 ^ (m + 1) : Nat) : Int) := by simp

set_option maxRecDepth 100000 in
theorem put_leaf (b k' k : Nat) (v' v : Int) (w : World) (h : Cells w b k' v' (-1) none none 1 0) (hk : k < 2 ^ 64) (hk' : k' < 2 ^ 64) (hne : k' ≠ k) :
    Calls Try.prog 37 #[.pointer (some ⟨b, 0, none⟩), .int .u64 k, .int .i64 v] w (NodePost w (Nd.join k v (k ^^^ k').log2 (.leaf k' v'))) := by
  have hn : ((k' : Int) == (k : Int)) = false := by simp; omega
  have hx : Ext w (w.alloc (.cells #[.int .u64 k, .int .i64 v, .int .i64 (-1), .pointer none, .pointer none, .int .i64 1, .int .i64 0] 69)) := (Ext.refl w).alloc _
  have hc := h.ext hx
  have HC := Lib.hid hc
  obtain ⟨c0, c1, c2, c3, c4, c5, c6, cb⟩ := hc
  clear cb
  clear h
  go_enter Try.func37, Try.ntmps37
  go_wp2_with fail
  refine (above_leaf b _ _ _ _ _ _ _ _ HC.out).mono ?_
  rintro e w1 ⟨rfl, hx1⟩
  obtain ⟨d0, d1, d2, d3, d4, d5, d6, db⟩ := HC.out.ext hx1
  clear db
  clear c0 c1 c2 c3 c4 c5 c6
  have hxr : bits .xor .u64 (k : Int) (k' : Int) = ((k ^^^ k' : Nat) : Int) := bits_xor_u64_nat k k' hk hk'
  have hxp : 0 < k ^^^ k' := Nat.pos_of_ne_zero (fun e => hne (xor0 e).symm)
  have hx64 : k ^^^ k' < 2 ^ 64 := Nat.xor_lt_two_pow hk hk'
  have hm64 : (k ^^^ k').log2 < 64 := (Nat.log2_lt (by omega)).2 hx64
  generalize k ^^^ k' = x at *
  go_wp2_with fail
  refine (len64_calls x hxp hx64 _).mono ?_
  rintro e w2 ⟨rfl, hx2⟩
  generalize x.log2 = m at *
  have hw : IntKind.i64.wrap (((m + 1 : Nat) : Int) - 1) = (m : Int) := by rw [IntWalk.i64_in _ (by omega)]; omega
  clear hxr hxp hx64
  have hka := and1 k m hk
  have HX := (hx.trans hx1).trans hx2
  have l1 : w2.cell? ⟨w.heap.size, 5, none⟩ = some (.int .i64 1) := (hx1.trans hx2).cell (by simp)
  have l2 : w2.cell? ⟨w.heap.size, 6, none⟩ = some (.int .i64 0) := (hx1.trans hx2).cell (by simp)
  have hleaf : At w2 (some ⟨w.heap.size, 0, none⟩) (.leaf k v) := ⟨_, rfl, Cells.of_block ((hx1.trans hx2).block (heap_alloc_new w _))⟩
  have hold : At w2 (some ⟨b, 0, none⟩) (.leaf k' v') := ⟨b, rfl, (HC.out.ext hx1).ext hx2⟩
  have HL := Lib.hid hleaf
  have HO := Lib.hid hold
  replace d5 := hx2.cell d5
  replace d6 := hx2.cell d6
  clear hleaf hold hn hne HC d0 d1 d2 d3 d4
  have hkj := Lib.hid (key_join k m)
  by_cases hb : k / 2 ^ m % 2 = 0
  · have hj : Nd.join k v m (.leaf k' v') = .br (k / 2 ^ m / 2) m (.leaf k v) (.leaf k' v') := by unfold Nd.join; rw [if_pos hb]
    have hb0 : (bits BinOp.and IntKind.u64 ((k : Int) / 2 ^ m) 1 == 0) = true := by rw [hka, hb]; rfl
    have HJ := Lib.hid hj
    clear hka hj
    go_wp2_with fail
    refine (part_calls k m w.heap.size b 1 1 0 0 w2 (by omega) (by omega) hm64 l1 l2 d5 d6 (by omega) (by omega) (by omega) (by omega) (by omega) (by omega) (by omega) (by omega)).mono ?_
    rintro e w3 ⟨nb, rfl, hcn, hx3⟩
    rw [hkj.out] at hcn
    go_wp2
    go_ret
    refine ⟨nb, rfl, ?_, HX.trans hx3⟩
    rw [HJ.out]
    exact ⟨nb, _, _, rfl, hcn, HL.out.ext hx3, HO.out.ext hx3⟩
  · have hj : Nd.join k v m (.leaf k' v') = .br (k / 2 ^ m / 2) m (.leaf k' v') (.leaf k v) := by unfold Nd.join; rw [if_neg hb]
    have hb1 : k / 2 ^ m % 2 = 1 := by omega
    have hb0 : (bits BinOp.and IntKind.u64 ((k : Int) / 2 ^ m) 1 == 0) = false := by rw [hka, hb1]; rfl
    have HJ := Lib.hid hj
    clear hka hj hb1 hb
    go_wp2_with fail
    refine (part_calls k m b w.heap.size 1 1 0 0 w2 (by omega) (by omega) hm64 d5 d6 l1 l2 (by omega) (by omega) (by omega) (by omega) (by omega) (by omega) (by omega) (by omega)).mono ?_
    rintro e w3 ⟨nb, rfl, hcn, hx3⟩
    rw [hkj.out] at hcn
    go_wp2
    go_ret
    refine ⟨nb, rfl, ?_, HX.trans hx3⟩
    rw [HJ.out]
    exact ⟨nb, _, _, rfl, hcn, HO.out.ext hx3, HL.out.ext hx3⟩
end Go.Proofs.Ytcdjhoejnjbgkaa
