/- At string: The contract of a node's put, beside a node of a bit; and whole. -/
import Derived.Test.YtcdjhoejnjbgkaaMaps
import Derived.Test.YtcdjhoejnjbgkaaSPutB
namespace Go.Proofs.Ytcdjhoejnjbgkaa.St
open Go.RowKit

set_option maxRecDepth 100000 in
theorem put_far (b pr i k k' : Nat) (v : Int) (z o : Nd) (w : World) (hat : At w (some ⟨b, 0, none⟩) (.br pr i z o)) (hkk : k' = pr * 2 ^ (i + 1)) (hk : k < 2 ^ 64) (hk' : k' < 2 ^ 64) (hi : i < 64) (hm : z.many + o.many ≤ 1000000) (hp : k / 2 ^ i / 2 ≠ pr) :
    Calls Try.prog 39 #[.pointer (some ⟨b, 0, none⟩), .int .u64 k, .string (str v)] w (NodePost w (Nd.join k v (k ^^^ k').log2 (.br pr i z o))) := by
  have hne : k' ≠ k := by
    rintro rfl
    apply hp
    rw [hkk, ← div_succ]
    exact Nat.mul_div_cancel _ (Nat.two_pow_pos _)
  have hq : (((k : Int) / 2 ^ i / 2) == ((k' : Int) / 2 ^ i / 2)) = false := by
    have e1 : ((k : Int) / 2 ^ i / 2) = ((k / 2 ^ i / 2 : Nat) : Int) := by simp
    have e2 : ((k' : Int) / 2 ^ i / 2) = ((k' / 2 ^ i / 2 : Nat) : Int) := by simp
    have e3 : k' / 2 ^ i / 2 = pr := by rw [hkk, ← div_succ]; exact Nat.mul_div_cancel _ (Nat.two_pow_pos _)
    rw [e1, e2, e3]; simp; omega
  have HQ := Lib.hid hq
  have HAT := Lib.hid hat
  have h : ∃ zp op, Cells w b k' 0 i zp op (Nd.br pr i z o).many (Nd.br pr i z o).depth := by
    obtain ⟨b', zp, op, e, hc, _, _⟩ := hat
    cases e
    exact ⟨zp, op, by rw [hkk]; exact hc⟩
  obtain ⟨zp, op, h⟩ := h
  have hi0 : ¬ ((i : Int) < 0) := by omega
  have hdl := (Nd.br pr i z o).depth_lt
  have hmm : (Nd.br pr i z o).many ≤ 1000000 := hm
  generalize hmt : (Nd.br pr i z o).many = mt at *
  generalize hdt : (Nd.br pr i z o).depth = dt at *
  have HMT := Lib.hid hmt
  have HDT := Lib.hid hdt
  clear hmt hdt
  have HDL := Lib.hid (And.intro hdl hmm)
  clear hat hq hkk hp hdl hmm
  have hn : ((k' : Int) == (k : Int)) = false := by simp; omega
  have hx : Ext w (w.alloc (.cells #[.int .u64 k, .string (str v), .int .i64 (-1), .pointer none, .pointer none, .int .i64 1, .int .i64 0] 80)) := (Ext.refl w).alloc _
  have hc := h.ext hx
  have HC := Lib.hid hc
  obtain ⟨c0, c1, c2, c3, c4, c5, c6, cb⟩ := hc
  clear cb
  clear h
  go_enter Try.func39, Try.ntmps39
  go_wp2_with fail
  refine (above_br b _ _ i _ _ _ _ _ _ HC.out hi).mono ?_
  rw [HQ.out]
  rintro e w1 ⟨rfl, hx1⟩
  obtain ⟨d0, d1, d2, d3, d4, d5, d6, db⟩ := HC.out.ext hx1
  clear db
  clear c0 c1 c2 c3 c4 c5 c6
  have hxr : bits .xor .u64 (k : Int) (k' : Int) = ((k ^^^ k' : Nat) : Int) := bits_xor_u64_nat k k' hk hk'
  have hxp : 0 < k ^^^ k' := Nat.pos_of_ne_zero (fun e => hne (xor0 e).symm)
  have hx64 : k ^^^ k' < 2 ^ 64 := Nat.xor_lt_two_pow hk hk'
  have hm64 : (k ^^^ k').log2 < 64 := (Nat.log2_lt (by omega)).2 hx64
  generalize k ^^^ k' = x at *
  go_wp2_with fail
  refine (len64_calls x hxp hx64 _).mono ?_
  rintro e w2 ⟨rfl, hx2⟩
  generalize x.log2 = m at *
  have hw : IntKind.i64.wrap (((m + 1 : Nat) : Int) - 1) = (m : Int) := by rw [IntWalk.i64_in _ (by omega)]; omega
  clear hxr hxp hx64
  have hka := and1 k m hk
  have HX := (hx.trans hx1).trans hx2
  have l1 : w2.cell? ⟨w.heap.size, 5, none⟩ = some (.int .i64 1) := (hx1.trans hx2).cell (by simp)
  have l2 : w2.cell? ⟨w.heap.size, 6, none⟩ = some (.int .i64 0) := (hx1.trans hx2).cell (by simp)
  have hleaf : At w2 (some ⟨w.heap.size, 0, none⟩) (.leaf k v) := ⟨_, rfl, Cells.of_block ((hx1.trans hx2).block (heap_alloc_new w _))⟩
  have hold : At w2 (some ⟨b, 0, none⟩) (.br pr i z o) := ((HAT.out.ext hx).ext hx1).ext hx2
  have HL := Lib.hid hleaf
  have HO := Lib.hid hold
  replace d5 := hx2.cell d5
  replace d6 := hx2.cell d6
  clear hleaf hold hn hne HC d0 d1 d2 d3 d4
  have hkj := Lib.hid (key_join k m)
  by_cases hb : k / 2 ^ m % 2 = 0
  · have hj : Nd.join k v m (.br pr i z o) = .br (k / 2 ^ m / 2) m (.leaf k v) (.br pr i z o) := by unfold Nd.join; rw [if_pos hb]
    have hb0 : (bits BinOp.and IntKind.u64 ((k : Int) / 2 ^ m) 1 == 0) = true := by rw [hka, hb]; rfl
    have HJ := Lib.hid hj
    clear hka hj
    go_wp2_with fail
    refine (part_calls k m w.heap.size b 1 mt 0 dt w2 (by omega) (by omega) hm64 l1 l2 d5 d6 (by omega) (by have := HDL.out; omega) (by omega) (by have := HDL.out; omega) (by omega) (by have := HDL.out; omega) (by omega) (by have := HDL.out; omega)).mono ?_
    rintro e w3 ⟨nb, rfl, hcn, hx3⟩
    rw [hkj.out] at hcn
    go_wp2
    go_ret
    refine ⟨nb, rfl, ?_, HX.trans hx3⟩
    rw [HJ.out]
    refine ⟨nb, _, _, rfl, ?_, HL.out.ext hx3, HO.out.ext hx3⟩
    have e1 : ((Nd.br (k / 2 ^ m / 2) m (.leaf k v) (.br pr i z o)).many : Int) = 1 + mt := by rw [← HMT.out]; simp [Nd.many]
    have e2 : ((Nd.br (k / 2 ^ m / 2) m (.leaf k v) (.br pr i z o)).depth : Int) = 1 + max 0 (dt : Int) := by
      have : (Nd.br (k / 2 ^ m / 2) m (.leaf k v) (.br pr i z o)).depth = 1 + max 0 (Nd.br pr i z o).depth := rfl
      rw [this, HDT.out]; omega
    rw [e1, e2]; exact hcn
  · have hj : Nd.join k v m (.br pr i z o) = .br (k / 2 ^ m / 2) m (.br pr i z o) (.leaf k v) := by unfold Nd.join; rw [if_neg hb]
    have hb1 : k / 2 ^ m % 2 = 1 := by omega
    have hb0 : (bits BinOp.and IntKind.u64 ((k : Int) / 2 ^ m) 1 == 0) = false := by rw [hka, hb1]; rfl
    have HJ := Lib.hid hj
    clear hka hj hb1 hb
    go_wp2_with fail
    refine (part_calls k m b w.heap.size mt 1 dt 0 w2 (by omega) (by omega) hm64 d5 d6 l1 l2 (by omega) (by have := HDL.out; omega) (by omega) (by have := HDL.out; omega) (by omega) (by have := HDL.out; omega) (by omega) (by have := HDL.out; omega)).mono ?_
    rintro e w3 ⟨nb, rfl, hcn, hx3⟩
    rw [hkj.out] at hcn
    go_wp2
    go_ret
    refine ⟨nb, rfl, ?_, HX.trans hx3⟩
    rw [HJ.out]
    refine ⟨nb, _, _, rfl, ?_, HO.out.ext hx3, HL.out.ext hx3⟩
    have e1 : ((Nd.br (k / 2 ^ m / 2) m (.br pr i z o) (.leaf k v)).many : Int) = mt + 1 := by rw [← HMT.out]; simp [Nd.many]
    have e2 : ((Nd.br (k / 2 ^ m / 2) m (.br pr i z o) (.leaf k v)).depth : Int) = 1 + max (dt : Int) 0 := by
      have : (Nd.br (k / 2 ^ m / 2) m (.br pr i z o) (.leaf k v)).depth = 1 + max (Nd.br pr i z o).depth 0 := rfl
      rw [this, HDT.out]; omega
    rw [e1, e2]; exact hcn
/-- Put at no node, or at the very number. -/
theorem put_new (p : Option Addr) (k : Nat) (v : Int) (w : World) (h : p = none ∨ ∃ b v', p = some ⟨b, 0, none⟩ ∧ Cells w b k v' (-1) none none 1 0) :
    Calls Try.prog 39 #[.pointer p, .int .u64 k, .string (str v)] w (NodePost w (.leaf k v)) := by
  have hx : Ext w (w.alloc (.cells #[.int .u64 k, .string (str v), .int .i64 (-1), .pointer none, .pointer none, .int .i64 1, .int .i64 0] 80)) := (Ext.refl w).alloc _
  rcases h with rfl | ⟨b, v', rfl, h⟩
  · go_enter Try.func39, Try.ntmps39
    go_wp2
    go_ret
    exact ⟨_, rfl, ⟨_, rfl, Cells.of_block (heap_alloc_new w _)⟩, hx⟩
  · obtain ⟨c0, c1, c2, c3, c4, c5, c6, cb⟩ := h.ext hx
    clear cb
    go_enter Try.func39, Try.ntmps39
    go_wp2
    go_ret
    exact ⟨_, rfl, ⟨_, rfl, Cells.of_block (heap_alloc_new w _)⟩, hx⟩

theorem put_calls (k : Nat) (v : Int) (hk : k < 2 ^ 64) : ∀ (t : Nd) (p : Option Addr) (w : World), At w p t → t.WF → t.many ≤ 1000000 →
    Calls Try.prog 39 #[.pointer p, .int .u64 k, .string (str v)] w (NodePost w (t.put k v)) := by
  intro t
  induction t with
  | leaf k' v' =>
    rintro p w ⟨b, rfl, h⟩ hwf _
    by_cases he : k' = k
    · subst he
      have := put_new (some ⟨b, 0, none⟩) k' v w (.inr ⟨b, v', rfl, h⟩)
      simpa [Nd.put] using this
    · have := put_leaf b k' k v' v w h hk hwf he
      simpa [Nd.put, he] using this
  | br pr i z o hz ho =>
    rintro p w h hwf hm
    obtain ⟨b, rfl⟩ := at_some h
    have hkl := key_low hwf
    obtain ⟨h0, h1, h2, h3, h4⟩ := hwf
    have hmm : z.many + o.many ≤ 1000000 := hm
    by_cases hp : k / 2 ^ i / 2 = pr
    · by_cases hb : k / 2 ^ i % 2 = 0
      · have := put_zero b pr i k v z o w h hk h0 hmm hp hb (fun p w hat => hz p w hat h1 (by omega))
        simpa [Nd.put, hp, hb] using this
      · have := put_one b pr i k v z o w h hk h0 hmm hp (by omega) (fun p w hat => ho p w hat h2 (by omega))
        simpa [Nd.put, hp, hb] using this
    · have := put_far b pr i k _ v z o w h rfl hk hkl h0 hmm hp
      simpa [Nd.put, hp] using this
end Go.Proofs.Ytcdjhoejnjbgkaa.St
