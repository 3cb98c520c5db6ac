/- At index.item: The nodes of a radix map in memory, and the contracts of above, part and Len64. -/
import Derived.Test.YtgcplndmhlideaaGreatCom
import Derived.Test.YtgcplndmhlideaaGreatVal
import Derived.BigRegion
import Derived.Laws.Bits64
import Derived.Deep.RegionHeld3
import Derived.Deep.DeepCutAuto
import Derived.LaidEqlPtr
namespace Go.Proofs.YtgcplndmhlideaaGreat.It
open Go.RowKit

/-- The cells of a node. -/
structure Cells (w : World) (b : Nat) (key val va2 bit : Int) (z o : Option Addr) (many depth : Int) : Prop where
  c0 : w.cell? ⟨b, 0, none⟩ = some (.int .u64 key)
  c1 : w.cell? ⟨b, 1, none⟩ = some (.int .i64 val)
  c1b : w.cell? ⟨b, 2, none⟩ = some (.int .i64 va2)
  c2 : w.cell? ⟨b, 3, none⟩ = some (.int .i64 bit)
  c3 : w.cell? ⟨b, 4, none⟩ = some (.pointer z)
  c4 : w.cell? ⟨b, 5, none⟩ = some (.pointer o)
  c5 : w.cell? ⟨b, 6, none⟩ = some (.int .i64 many)
  c6 : w.cell? ⟨b, 7, none⟩ = some (.int .i64 depth)
  blk : w.heap[b]? = some (.cells #[.int .u64 key, .int .i64 val, .int .i64 va2, .int .i64 bit, .pointer z, .pointer o, .int .i64 many, .int .i64 depth] 123 (0, 0))
theorem Cells.of_block {w : World} {b : Nat} {key val va2 bit : Int} {z o : Option Addr} {many depth : Int} (h : w.heap[b]? = some (.cells #[.int .u64 key, .int .i64 val, .int .i64 va2, .int .i64 bit, .pointer z, .pointer o, .int .i64 many, .int .i64 depth] 123 (0, 0))) : Cells w b key val va2 bit z o many depth :=
  ⟨by simp [World.cell?, h], by simp [World.cell?, h], by simp [World.cell?, h], by simp [World.cell?, h], by simp [World.cell?, h], by simp [World.cell?, h], by simp [World.cell?, h], by simp [World.cell?, h], h⟩
theorem Cells.ext {w w' : World} {b : Nat} {key val va2 bit : Int} {z o : Option Addr} {many depth : Int} (h : Cells w b key val va2 bit z o many depth) (hx : Ext w w') : Cells w' b key val va2 bit z o many depth :=
  ⟨hx.cell h.c0, hx.cell h.c1, hx.cell h.c1b, hx.cell h.c2, hx.cell h.c3, hx.cell h.c4, hx.cell h.c5, hx.cell h.c6, hx.block h.blk⟩

/-- A node in memory. -/
def At (w : World) : Option Addr → (Nd It) → Prop
  | p, .leaf k v => ∃ b, p = some ⟨b, 0, none⟩ ∧ Cells w b k v.b v.c (-1) none none 1 0
  | p, .br pr i z o => ∃ b zp op, p = some ⟨b, 0, none⟩ ∧ Cells w b (Nd.br pr i z o).key 0 0 i zp op (Nd.br pr i z o).many (Nd.br pr i z o).depth ∧ At w zp z ∧ At w op o
theorem At.ext {w w' : World} (hx : Ext w w') : ∀ {t : (Nd It)} {p : Option Addr}, At w p t → At w' p t := by
  intro t
  induction t with
  | leaf k v => rintro p ⟨b, e, h⟩; exact ⟨b, e, h.ext hx⟩
  | br pr i z o hz ho => rintro p ⟨b, zp, op, e, h, h1, h2⟩; exact ⟨b, zp, op, e, h.ext hx, hz h1, ho h2⟩

set_option maxRecDepth 100000 in
theorem above_leaf (b : Nat) (key val va2 : Int) (z o : Option Addr) (many depth : Int) (k : Int) (w : World) (h : Cells w b key val va2 (-1) z o many depth) :
    Calls Tryz.prog 75 #[.pointer (some ⟨b, 0, none⟩), .int .u64 k] w fun e w' => e = .returned (.bool false) ∧ Ext w w' := by
  obtain ⟨c0, c1, c1b, c2, c3, c4, c5, c6, cb⟩ := h
  clear cb
  go_enter Tryz.func75, Tryz.ntmps75
  go_wp2_with fail
  go_quiet (fail)
  go_wp2
  go_ret
  exact ⟨rfl, (Ext.refl w).drewN _⟩

set_option maxRecDepth 100000 in
theorem above_br (b : Nat) (key val va2 : Int) (i : Nat) (z o : Option Addr) (many depth : Int) (k : Int) (w : World) (h : Cells w b key val va2 i z o many depth) (hi : i < 64) :
    Calls Tryz.prog 75 #[.pointer (some ⟨b, 0, none⟩), .int .u64 k] w fun e w' => e = .returned (.bool (k / 2 ^ i / 2 == key / 2 ^ i / 2)) ∧ Ext w w' := by
  obtain ⟨c0, c1, c1b, c2, c3, c4, c5, c6, cb⟩ := h
  clear cb
  go_enter Tryz.func75, Tryz.ntmps75
  go_wp2_with fail
  go_quiet (fail)
  go_wp2
  go_ret
  exact ⟨rfl, (Ext.refl w).drewN _⟩

def PartPost (w : World) (k : Int) (i : Nat) (zp op : Option Addr) (m d : Int) (e : Ending) (w' : World) : Prop :=
  ∃ b, e = .returned (.pointer (some ⟨b, 0, none⟩)) ∧ Cells w' b (k / 2 ^ i / 2 * 2 ^ (i + 1)) 0 0 i zp op m d ∧ Ext w w'

set_option maxRecDepth 100000 in
theorem part_calls (k : Int) (i zb ob : Nat) (mz mo dz d' : Int) (w : World) (hk0 : 0 ≤ k) (hk1 : k < 18446744073709551616) (hi : i < 64)
    (z5 : w.cell? ⟨zb, 6, none⟩ = some (.int .i64 mz)) (z6 : w.cell? ⟨zb, 7, none⟩ = some (.int .i64 dz)) (o5 : w.cell? ⟨ob, 6, none⟩ = some (.int .i64 mo)) (o6 : w.cell? ⟨ob, 7, none⟩ = some (.int .i64 d'))
    (a0 : 0 ≤ mz) (a1 : mz < 1000000000) (b0 : 0 ≤ mo) (b1 : mo < 1000000000) (e0 : 0 ≤ dz) (e1 : dz < 1000000000) (f0 : 0 ≤ d') (f1 : d' < 1000000000) :
    Calls Tryz.prog 76 #[.int .u64 k, .int .i64 i, .pointer (some ⟨zb, 0, none⟩), .pointer (some ⟨ob, 0, none⟩)] w (PartPost w k i (some ⟨zb, 0, none⟩) (some ⟨ob, 0, none⟩) (mz + mo) (1 + max dz d')) := by
  have w1 : IntKind.i64.wrap (mz + mo) = mz + mo := IntWalk.i64_in _ (by omega)
  have w2 : IntKind.i64.wrap (1 + max dz d') = 1 + max dz d' := IntWalk.i64_in _ (by omega)
  have hp : (0 : Int) < 2 ^ i := by exact_mod_cast Nat.two_pow_pos i
  have q0 : 0 ≤ k / 2 ^ i := Int.ediv_nonneg hk0 (by omega)
  have q1 : k / 2 ^ i * 2 ^ i ≤ k := Int.ediv_mul_le _ (by omega)
  have q2 : k / 2 ^ i / 2 * 2 ≤ k / 2 ^ i := Int.ediv_mul_le _ (by omega)
  have q3 : 0 ≤ k / 2 ^ i / 2 := Int.ediv_nonneg q0 (by omega)
  have q4 : k / 2 ^ i / 2 * 2 * 2 ^ i ≤ k / 2 ^ i * 2 ^ i := Int.mul_le_mul_of_nonneg_right q2 (by omega)
  have q5 : k / 2 ^ i / 2 * 2 * 2 ^ i = k / 2 ^ i / 2 * 2 ^ i * 2 := by rw [Int.mul_assoc, Int.mul_comm 2, ← Int.mul_assoc]
  have q6 : 0 ≤ k / 2 ^ i / 2 * 2 ^ i := Int.mul_nonneg q3 (by omega)
  have x1 : IntKind.u64.wrap (k / 2 ^ i / 2 * 2 ^ i) = k / 2 ^ i / 2 * 2 ^ i := IntWalk.u64_in _ (by omega)
  have x2 : IntKind.u64.wrap (k / 2 ^ i / 2 * 2 ^ i * 2) = k / 2 ^ i / 2 * 2 ^ (i + 1) := by
    rw [IntWalk.u64_in _ (by omega), Int.pow_succ, Int.mul_assoc]
  clear q0 q1 q2 q3 q4 q5 q6 hp a0 a1 b0 b1 e0 e1 f0 f1
  go_enter Tryz.func76, Tryz.ntmps76
  go_wp2_with fail
  go_region
  go_wp2
  go_ret
  have hx : Ext (w.alloc (.cells #[.int .u64 (k / 2 ^ i / 2 * 2 ^ (i + 1)), .int .i64 0, .int .i64 0, .int .i64 i, .pointer (some ⟨zb, 0, none⟩), .pointer (some ⟨ob, 0, none⟩), .int .i64 (mz + mo), .int .i64 (1 + max dz d')] 123)) _ := (Ext.refl _).drew
  exact ⟨w.heap.size, rfl, Cells.of_block (hx.block (heap_alloc_new w _)), ((Ext.refl w).alloc _).trans hx⟩
end Go.Proofs.YtgcplndmhlideaaGreat.It

namespace Go.Proofs.YtgcplndmhlideaaGreat.It
open Go.RowKit

def NodePost (w : World) (t : (Nd It)) (e : Ending) (w' : World) : Prop := ∃ b, e = .returned (.pointer (some ⟨b, 0, none⟩)) ∧ At w' (some ⟨b, 0, none⟩) t ∧ Ext w w'

set_option maxRecDepth 100000 in
theorem put_leaf (b k' k : Nat) (v' v : It) (w : World) (h : Cells w b k' v'.b v'.c (-1) none none 1 0) (hk : k < 2 ^ 64) (hk' : k' < 2 ^ 64) (hne : k' ≠ k) :
    Calls Tryz.prog 56 #[.pointer (some ⟨b, 0, none⟩), .int .u64 k, .agg #[.int .i64 v.b, .int .i64 v.c]] w (NodePost w (Nd.join k v (k ^^^ k').log2 (.leaf k' v'))) := by
  have hn : ((k' : Int) == (k : Int)) = false := by simp; omega
  have hx : Ext w ((w.alloc (.cells #[.int .i64 v.b, .int .i64 v.c] 95)).alloc (.cells #[.int .u64 k, .int .i64 v.b, .int .i64 v.c, .int .i64 (-1), .pointer none, .pointer none, .int .i64 1, .int .i64 0] 123)) := ((Ext.refl w).alloc _).alloc _
  have hc := h.ext hx
  have HC := Lib.hid hc
  obtain ⟨c0, c1, c1b, c2, c3, c4, c5, c6, cb⟩ := hc
  clear cb
  clear h
  go_enter Tryz.func56, Tryz.ntmps56
  go_wp2_with fail
  refine (above_leaf b _ _ _ _ _ _ _ _ _ HC.out).mono ?_
  rintro e w1 ⟨rfl, hx1⟩
  obtain ⟨d0, d1, d1b, d2, d3, d4, d5, d6, db⟩ := HC.out.ext hx1
  clear db
  clear c0 c1 c1b c2 c3 c4 c5 c6
  have hxr : bits .xor .u64 (k : Int) (k' : Int) = ((k ^^^ k' : Nat) : Int) := bits_xor_u64_nat k k' hk hk'
  have hxp : 0 < k ^^^ k' := Nat.pos_of_ne_zero (fun e => hne (xor0 e).symm)
  have hx64 : k ^^^ k' < 2 ^ 64 := Nat.xor_lt_two_pow hk hk'
  have hm64 : (k ^^^ k').log2 < 64 := (Nat.log2_lt (by omega)).2 hx64
  generalize k ^^^ k' = x at *
  go_wp2_with fail
  refine (len64_calls x hxp hx64 _).mono ?_
  rintro e w2 ⟨rfl, hx2⟩
  generalize x.log2 = m at *
  have hw : IntKind.i64.wrap (((m + 1 : Nat) : Int) - 1) = (m : Int) := by rw [IntWalk.i64_in _ (by omega)]; omega
  clear hxr hxp hx64
  have hka := and1 k m hk
  have HX := (hx.trans hx1).trans hx2
  have l1 : w2.cell? ⟨w.heap.size + 1, 6, none⟩ = some (.int .i64 1) := (hx1.trans hx2).cell (by simp)
  have l2 : w2.cell? ⟨w.heap.size + 1, 7, none⟩ = some (.int .i64 0) := (hx1.trans hx2).cell (by simp)
  have hleaf : At w2 (some ⟨w.heap.size + 1, 0, none⟩) (.leaf k v) := ⟨_, rfl, Cells.of_block ((hx1.trans hx2).block (heap_new1 w _ _))⟩
  have hold : At w2 (some ⟨b, 0, none⟩) (.leaf k' v') := ⟨b, rfl, (HC.out.ext hx1).ext hx2⟩
  have HL := Lib.hid hleaf
  have HO := Lib.hid hold
  replace d5 := hx2.cell d5
  replace d6 := hx2.cell d6
  clear hleaf hold hn hne HC d0 d1 d1b d2 d3 d4
  have hkj := Lib.hid (key_join k m)
  by_cases hb : k / 2 ^ m % 2 = 0
  · have hj : Nd.join k v m (.leaf k' v') = .br (k / 2 ^ m / 2) m (.leaf k v) (.leaf k' v') := by unfold Nd.join; rw [if_pos hb]
    have hb0 : (bits BinOp.and IntKind.u64 ((k : Int) / 2 ^ m) 1 == 0) = true := by rw [hka, hb]; rfl
    have HJ := Lib.hid hj
    clear hka hj
    go_wp2_with fail
    refine (part_calls k m (w.heap.size + 1) b 1 1 0 0 w2 (by omega) (by omega) hm64 l1 l2 d5 d6 (by omega) (by omega) (by omega) (by omega) (by omega) (by omega) (by omega) (by omega)).mono ?_
    rintro e w3 ⟨nb, rfl, hcn, hx3⟩
    rw [hkj.out] at hcn
    go_wp2
    go_ret
    refine ⟨nb, rfl, ?_, HX.trans hx3⟩
    rw [HJ.out]
    exact ⟨nb, _, _, rfl, hcn, HL.out.ext hx3, HO.out.ext hx3⟩
  · have hj : Nd.join k v m (.leaf k' v') = .br (k / 2 ^ m / 2) m (.leaf k' v') (.leaf k v) := by unfold Nd.join; rw [if_neg hb]
    have hb1 : k / 2 ^ m % 2 = 1 := by omega
    have hb0 : (bits BinOp.and IntKind.u64 ((k : Int) / 2 ^ m) 1 == 0) = false := by rw [hka, hb1]; rfl
    have HJ := Lib.hid hj
    clear hka hj hb1 hb
    go_wp2_with fail
    refine (part_calls k m b (w.heap.size + 1) 1 1 0 0 w2 (by omega) (by omega) hm64 d5 d6 l1 l2 (by omega) (by omega) (by omega) (by omega) (by omega) (by omega) (by omega) (by omega)).mono ?_
    rintro e w3 ⟨nb, rfl, hcn, hx3⟩
    rw [hkj.out] at hcn
    go_wp2
    go_ret
    refine ⟨nb, rfl, ?_, HX.trans hx3⟩
    rw [HJ.out]
    exact ⟨nb, _, _, rfl, hcn, HO.out.ext hx3, HL.out.ext hx3⟩
end Go.Proofs.YtgcplndmhlideaaGreat.It

namespace Go.Proofs.YtgcplndmhlideaaGreat.It
open Go.RowKit

theorem at_some {w : World} {p : Option Addr} {t : (Nd It)} (h : At w p t) : ∃ b, p = some ⟨b, 0, none⟩ := by
  cases t with
  | leaf k v => obtain ⟨b, e, _⟩ := h; exact ⟨b, e⟩
  | br pr i z o => obtain ⟨b, _, _, e, _⟩ := h; exact ⟨b, e⟩
theorem at_md {w : World} {b : Nat} {t : (Nd It)} (h : At w (some ⟨b, 0, none⟩) t) : w.cell? ⟨b, 6, none⟩ = some (.int .i64 t.many) ∧ w.cell? ⟨b, 7, none⟩ = some (.int .i64 t.depth) := by
  cases t with
  | leaf k v => obtain ⟨b', e, h⟩ := h; cases e; exact ⟨h.c5, h.c6⟩
  | br pr i z o => obtain ⟨b', _, _, e, h, _⟩ := h; cases e; exact ⟨h.c5, h.c6⟩
theorem put_many (k : Nat) (v : It) (t : (Nd It)) : (t.put k v).many ≤ t.many + 1 := by
  induction t with
  | leaf k' v' => unfold Nd.put; split <;> (try unfold Nd.join) <;> (try split) <;> simp [Nd.many]
  | br p b z o hz ho =>
    unfold Nd.put
    split
    · split <;> simp only [Nd.many] <;> omega
    · unfold Nd.join; split <;> simp [Nd.many] <;> omega

/-- Put into the side of a bit that is nought. -/
theorem put_zero (b : Nat) (pr i k : Nat) (v : It) (z o : (Nd It)) (w : World) (h : At w (some ⟨b, 0, none⟩) (.br pr i z o)) (hk : k < 2 ^ 64) (hi : i < 64) (hm : z.many + o.many ≤ 1000000)
    (hp : k / 2 ^ i / 2 = pr) (hb : k / 2 ^ i % 2 = 0)
    (ih : ∀ (p : Option Addr) (w : World), At w p z → Calls Tryz.prog 56 #[.pointer p, .int .u64 k, .agg #[.int .i64 v.b, .int .i64 v.c]] w (NodePost w (z.put k v))) :
    Calls Tryz.prog 56 #[.pointer (some ⟨b, 0, none⟩), .int .u64 k, .agg #[.int .i64 v.b, .int .i64 v.c]] w (NodePost w (.br pr i (z.put k v) o)) := by
  obtain ⟨b', zp, op, e, hc, hz, ho⟩ := h
  cases e
  have hx : Ext w ((w.alloc (.cells #[.int .i64 v.b, .int .i64 v.c] 95)).alloc (.cells #[.int .u64 k, .int .i64 v.b, .int .i64 v.c, .int .i64 (-1), .pointer none, .pointer none, .int .i64 1, .int .i64 0] 123)) := ((Ext.refl w).alloc _).alloc _
  have x0 : ((w.alloc (.cells #[.int .i64 v.b, .int .i64 v.c] 95)).alloc (.cells #[.int .u64 k, .int .i64 v.b, .int .i64 v.c, .int .i64 (-1), .pointer none, .pointer none, .int .i64 1, .int .i64 0] 123)).cell? ⟨w.heap.size, 0, none⟩ = some (.int .i64 v.b) := by simp
  have x1 : ((w.alloc (.cells #[.int .i64 v.b, .int .i64 v.c] 95)).alloc (.cells #[.int .u64 k, .int .i64 v.b, .int .i64 v.c, .int .i64 (-1), .pointer none, .pointer none, .int .i64 1, .int .i64 0] 123)).cell? ⟨w.heap.size, 1, none⟩ = some (.int .i64 v.c) := by simp
  have hc' := hc.ext hx
  have hkey : (Nd.br pr i z o).key = pr * 2 ^ (i + 1) := rfl
  rw [hkey] at hc'
  have HC := Lib.hid hc'
  have hz' := hz.ext hx
  have ho' := ho.ext hx
  have HZ := Lib.hid hz'
  have HO := Lib.hid ho'
  obtain ⟨c0, c1, c1b, c2, c3, c4, c5, c6, cb⟩ := hc'
  clear cb
  have hi0 : ¬ ((i : Int) < 0) := by omega
  clear hc hz ho hz' ho' hkey
  have hka := and1 k i hk
  have hb0 : (bits BinOp.and IntKind.u64 ((k : Int) / 2 ^ i) 1 == 0) = true := by rw [hka, hb]; rfl
  have hq : (((k : Int) / 2 ^ i / 2) == (((pr * 2 ^ (i + 1) : Nat) : Int) / 2 ^ i / 2)) = true := by
    have e1 : ((k : Int) / 2 ^ i / 2) = ((k / 2 ^ i / 2 : Nat) : Int) := by simp
    have e2 : (((pr * 2 ^ (i + 1) : Nat) : Int) / 2 ^ i / 2) = ((pr * 2 ^ (i + 1) / 2 ^ i / 2 : Nat) : Int) := by simp
    have e3 : pr * 2 ^ (i + 1) / 2 ^ i / 2 = pr := by rw [← div_succ]; exact Nat.mul_div_cancel _ (Nat.two_pow_pos _)
    rw [e1, e2, hp, e3]; simp
  have HQ := Lib.hid hq
  have HP := Lib.hid hp
  clear hka hb hq hp
  have hzm := z.depth_lt
  have hom := o.depth_lt
  have hpm := put_many k v z
  have hpd := (z.put k v).depth_lt
  have HL := Lib.hid (And.intro hzm (And.intro hom (And.intro hpm hpd)))
  clear hzm hom hpm hpd
  go_enter Tryz.func56, Tryz.ntmps56
  go_wp2_with fail
  refine (above_br b _ _ _ i _ _ _ _ _ _ HC.out hi).mono ?_
  rw [HQ.out]
  rintro e w1 ⟨rfl, hx1⟩
  obtain ⟨d0, d1, d1b, d2, d3, d4, d5, d6, db⟩ := HC.out.ext hx1
  replace x0 := hx1.cell x0
  replace x1 := hx1.cell x1
  clear db
  clear c0 c1 c1b c2 c3 c4 c5 c6
  go_upto_region 6 with (fail)
  have hdr : Ext w1 w1.drew := (Ext.refl _).drew
  replace d2 := hdr.cell d2
  replace x0 := hdr.cell x0
  replace x1 := hdr.cell x1
  replace d3 := hdr.cell d3
  replace d4 := hdr.cell d4
  have AZ := (HZ.out.ext hx1).ext hdr
  have AO := (HO.out.ext hx1).ext hdr
  have HX := (hx.trans hx1).trans hdr
  obtain ⟨ob, rfl⟩ := at_some AO
  clear d0 d1 d1b d5 d6 hx hx1 hdr
  have m1 := (at_md AO).1
  have m2 := (at_md AO).2
  have HKJ := Lib.hid (key_join k i)
  go_region_held3 (fun w' => w'.cell? ⟨w.heap.size, 0, none⟩ = some (.int .i64 v.b) ∧ w'.cell? ⟨w.heap.size, 1, none⟩ = some (.int .i64 v.c) ∧ w'.cell? ⟨b, 3, none⟩ = some (.int .i64 i) ∧ w'.cell? ⟨b, 4, none⟩ = some (.pointer zp) ∧ w'.cell? ⟨b, 5, none⟩ = some (.pointer (some ⟨ob, 0, none⟩))) (exact ⟨x0, x1, d2, d3, d4⟩)
    (first
      | (go_at_call 56
         refine (ih zp _ AZ).mono ?_
         rintro e wn ⟨nb, rfl, HN, hx⟩
         replace AO := AO.ext hx
         replace HX := HX.trans hx
         replace d2 := hx.cell d2
         replace x0 := hx.cell x0
         replace x1 := hx.cell x1
         replace d3 := hx.cell d3
         replace d4 := hx.cell d4
         replace m1 := hx.cell m1
         replace m2 := hx.cell m2
         have n1 := (at_md HN).1
         have n2 := (at_md HN).2
         clear hx AZ)
      | (go_at_call 76
         refine (part_calls k i nb ob _ _ _ _ _ (by omega) (by omega) hi n1 n2 m1 m2 (by omega) (by have := HL.out; omega) (by omega) (by have := HL.out; omega) (by omega) (by have := HL.out; omega) (by omega) (by have := HL.out; omega)).mono ?_
         rintro e wn ⟨rb, rfl, HR, hx⟩
         replace AO := AO.ext hx
         replace HN := HN.ext hx
         replace HX := HX.trans hx
         replace d2 := hx.cell d2
         replace x0 := hx.cell x0
         replace x1 := hx.cell x1
         replace d3 := hx.cell d3
         replace d4 := hx.cell d4
         clear hx))
  all_goals
    rw [HKJ.out, HP.out] at HR
    go_wp2
    go_ret
    refine ⟨rb, rfl, ⟨rb, _, _, rfl, ?_, HN, AO⟩, HX⟩
    have hmx : ((max (z.put k v).depth o.depth : Nat) : Int) = max ((z.put k v).depth : Int) o.depth := by omega
    simpa [Nd.many, Nd.depth, Nd.key, hmx] using HR
/-- Put into the side of a bit that is one. -/
theorem put_one (b : Nat) (pr i k : Nat) (v : It) (z o : (Nd It)) (w : World) (h : At w (some ⟨b, 0, none⟩) (.br pr i z o)) (hk : k < 2 ^ 64) (hi : i < 64) (hm : z.many + o.many ≤ 1000000)
    (hp : k / 2 ^ i / 2 = pr) (hb : k / 2 ^ i % 2 = 1)
    (ih : ∀ (p : Option Addr) (w : World), At w p o → Calls Tryz.prog 56 #[.pointer p, .int .u64 k, .agg #[.int .i64 v.b, .int .i64 v.c]] w (NodePost w (o.put k v))) :
    Calls Tryz.prog 56 #[.pointer (some ⟨b, 0, none⟩), .int .u64 k, .agg #[.int .i64 v.b, .int .i64 v.c]] w (NodePost w (.br pr i z (o.put k v))) := by
  obtain ⟨b', zp, op, e, hc, hz, ho⟩ := h
  cases e
  have hx : Ext w ((w.alloc (.cells #[.int .i64 v.b, .int .i64 v.c] 95)).alloc (.cells #[.int .u64 k, .int .i64 v.b, .int .i64 v.c, .int .i64 (-1), .pointer none, .pointer none, .int .i64 1, .int .i64 0] 123)) := ((Ext.refl w).alloc _).alloc _
  have x0 : ((w.alloc (.cells #[.int .i64 v.b, .int .i64 v.c] 95)).alloc (.cells #[.int .u64 k, .int .i64 v.b, .int .i64 v.c, .int .i64 (-1), .pointer none, .pointer none, .int .i64 1, .int .i64 0] 123)).cell? ⟨w.heap.size, 0, none⟩ = some (.int .i64 v.b) := by simp
  have x1 : ((w.alloc (.cells #[.int .i64 v.b, .int .i64 v.c] 95)).alloc (.cells #[.int .u64 k, .int .i64 v.b, .int .i64 v.c, .int .i64 (-1), .pointer none, .pointer none, .int .i64 1, .int .i64 0] 123)).cell? ⟨w.heap.size, 1, none⟩ = some (.int .i64 v.c) := by simp
  have hc' := hc.ext hx
  have hkey : (Nd.br pr i z o).key = pr * 2 ^ (i + 1) := rfl
  rw [hkey] at hc'
  have HC := Lib.hid hc'
  have hz' := hz.ext hx
  have ho' := ho.ext hx
  have HZ := Lib.hid hz'
  have HO := Lib.hid ho'
  obtain ⟨c0, c1, c1b, c2, c3, c4, c5, c6, cb⟩ := hc'
  clear cb
  have hi0 : ¬ ((i : Int) < 0) := by omega
  clear hc hz ho hz' ho' hkey
  have hka := and1 k i hk
  have hb0 : (bits BinOp.and IntKind.u64 ((k : Int) / 2 ^ i) 1 == 0) = false := by rw [hka, hb]; rfl
  have hq : (((k : Int) / 2 ^ i / 2) == (((pr * 2 ^ (i + 1) : Nat) : Int) / 2 ^ i / 2)) = true := by
    have e1 : ((k : Int) / 2 ^ i / 2) = ((k / 2 ^ i / 2 : Nat) : Int) := by simp
    have e2 : (((pr * 2 ^ (i + 1) : Nat) : Int) / 2 ^ i / 2) = ((pr * 2 ^ (i + 1) / 2 ^ i / 2 : Nat) : Int) := by simp
    have e3 : pr * 2 ^ (i + 1) / 2 ^ i / 2 = pr := by rw [← div_succ]; exact Nat.mul_div_cancel _ (Nat.two_pow_pos _)
    rw [e1, e2, hp, e3]; simp
  have HQ := Lib.hid hq
  have HP := Lib.hid hp
  clear hka hb hq hp
  have hzm := z.depth_lt
  have hom := o.depth_lt
  have hpm := put_many k v o
  have hpd := (o.put k v).depth_lt
  have HL := Lib.hid (And.intro hzm (And.intro hom (And.intro hpm hpd)))
  clear hzm hom hpm hpd
  go_enter Tryz.func56, Tryz.ntmps56
  go_wp2_with fail
  refine (above_br b _ _ _ i _ _ _ _ _ _ HC.out hi).mono ?_
  rw [HQ.out]
  rintro e w1 ⟨rfl, hx1⟩
  obtain ⟨d0, d1, d1b, d2, d3, d4, d5, d6, db⟩ := HC.out.ext hx1
  replace x0 := hx1.cell x0
  replace x1 := hx1.cell x1
  clear db
  clear c0 c1 c1b c2 c3 c4 c5 c6
  go_upto_region 7 with (fail)
  have hdr : Ext w1 w1.drew := (Ext.refl _).drew
  replace d2 := hdr.cell d2
  replace x0 := hdr.cell x0
  replace x1 := hdr.cell x1
  replace d3 := hdr.cell d3
  replace d4 := hdr.cell d4
  have AZ := (HZ.out.ext hx1).ext hdr
  have AO := (HO.out.ext hx1).ext hdr
  have HX := (hx.trans hx1).trans hdr
  obtain ⟨zb, rfl⟩ := at_some AZ
  clear d0 d1 d1b d5 d6 hx hx1 hdr
  have m1 := (at_md AZ).1
  have m2 := (at_md AZ).2
  have HKJ := Lib.hid (key_join k i)
  go_region_held3 (fun w' => w'.cell? ⟨w.heap.size, 0, none⟩ = some (.int .i64 v.b) ∧ w'.cell? ⟨w.heap.size, 1, none⟩ = some (.int .i64 v.c) ∧ w'.cell? ⟨b, 3, none⟩ = some (.int .i64 i) ∧ w'.cell? ⟨b, 4, none⟩ = some (.pointer (some ⟨zb, 0, none⟩)) ∧ w'.cell? ⟨b, 5, none⟩ = some (.pointer op)) (exact ⟨x0, x1, d2, d3, d4⟩)
    (first
      | (go_at_call 56
         refine (ih op _ AO).mono ?_
         rintro e wn ⟨nb, rfl, HN, hx⟩
         replace AZ := AZ.ext hx
         replace HX := HX.trans hx
         replace d2 := hx.cell d2
         replace x0 := hx.cell x0
         replace x1 := hx.cell x1
         replace d3 := hx.cell d3
         replace d4 := hx.cell d4
         replace m1 := hx.cell m1
         replace m2 := hx.cell m2
         have n1 := (at_md HN).1
         have n2 := (at_md HN).2
         clear hx AO)
      | (go_at_call 76
         refine (part_calls k i zb nb _ _ _ _ _ (by omega) (by omega) hi m1 m2 n1 n2 (by omega) (by have := HL.out; omega) (by omega) (by have := HL.out; omega) (by omega) (by have := HL.out; omega) (by omega) (by have := HL.out; omega)).mono ?_
         rintro e wn ⟨rb, rfl, HR, hx⟩
         replace AZ := AZ.ext hx
         replace HN := HN.ext hx
         replace HX := HX.trans hx
         replace d2 := hx.cell d2
         replace x0 := hx.cell x0
         replace x1 := hx.cell x1
         replace d3 := hx.cell d3
         replace d4 := hx.cell d4
         clear hx))
  all_goals
    rw [HKJ.out, HP.out] at HR
    go_wp2
    go_ret
    refine ⟨rb, rfl, ⟨rb, _, _, rfl, ?_, AZ, HN⟩, HX⟩
    have hmx : ((max z.depth (o.put k v).depth : Nat) : Int) = max (z.depth : Int) (o.put k v).depth := by omega
    simpa [Nd.many, Nd.depth, Nd.key, hmx] using HR
end Go.Proofs.YtgcplndmhlideaaGreat.It

namespace Go.Proofs.YtgcplndmhlideaaGreat.It
open Go.RowKit

set_option maxRecDepth 100000 in
theorem put_far (b pr i k k' : Nat) (v : It) (z o : (Nd It)) (w : World) (hat : At w (some ⟨b, 0, none⟩) (.br pr i z o)) (hkk : k' = pr * 2 ^ (i + 1)) (hk : k < 2 ^ 64) (hk' : k' < 2 ^ 64) (hi : i < 64) (hm : z.many + o.many ≤ 1000000) (hp : k / 2 ^ i / 2 ≠ pr) :
    Calls Tryz.prog 56 #[.pointer (some ⟨b, 0, none⟩), .int .u64 k, .agg #[.int .i64 v.b, .int .i64 v.c]] w (NodePost w (Nd.join k v (k ^^^ k').log2 (.br pr i z o))) := by
  have hne : k' ≠ k := by
    rintro rfl
    apply hp
    rw [hkk, ← div_succ]
    exact Nat.mul_div_cancel _ (Nat.two_pow_pos _)
  have hq : (((k : Int) / 2 ^ i / 2) == ((k' : Int) / 2 ^ i / 2)) = false := by
    have e1 : ((k : Int) / 2 ^ i / 2) = ((k / 2 ^ i / 2 : Nat) : Int) := by simp
    have e2 : ((k' : Int) / 2 ^ i / 2) = ((k' / 2 ^ i / 2 : Nat) : Int) := by simp
    have e3 : k' / 2 ^ i / 2 = pr := by rw [hkk, ← div_succ]; exact Nat.mul_div_cancel _ (Nat.two_pow_pos _)
    rw [e1, e2, e3]; simp; omega
  have HQ := Lib.hid hq
  have HAT := Lib.hid hat
  have h : ∃ zp op, Cells w b k' 0 0 i zp op (Nd.br pr i z o).many (Nd.br pr i z o).depth := by
    obtain ⟨b', zp, op, e, hc, _, _⟩ := hat
    cases e
    exact ⟨zp, op, by rw [hkk]; exact hc⟩
  obtain ⟨zp, op, h⟩ := h
  have hi0 : ¬ ((i : Int) < 0) := by omega
  have hdl := (Nd.br pr i z o).depth_lt
  have hmm : (Nd.br pr i z o).many ≤ 1000000 := hm
  generalize hmt : (Nd.br pr i z o).many = mt at *
  generalize hdt : (Nd.br pr i z o).depth = dt at *
  have HMT := Lib.hid hmt
  have HDT := Lib.hid hdt
  clear hmt hdt
  have HDL := Lib.hid (And.intro hdl hmm)
  clear hat hq hkk hp hdl hmm
  have hn : ((k' : Int) == (k : Int)) = false := by simp; omega
  have hx : Ext w ((w.alloc (.cells #[.int .i64 v.b, .int .i64 v.c] 95)).alloc (.cells #[.int .u64 k, .int .i64 v.b, .int .i64 v.c, .int .i64 (-1), .pointer none, .pointer none, .int .i64 1, .int .i64 0] 123)) := ((Ext.refl w).alloc _).alloc _
  have hc := h.ext hx
  have HC := Lib.hid hc
  obtain ⟨c0, c1, c1b, c2, c3, c4, c5, c6, cb⟩ := hc
  clear cb
  clear h
  go_enter Tryz.func56, Tryz.ntmps56
  go_wp2_with fail
  refine (above_br b _ _ _ i _ _ _ _ _ _ HC.out hi).mono ?_
  rw [HQ.out]
  rintro e w1 ⟨rfl, hx1⟩
  obtain ⟨d0, d1, d1b, d2, d3, d4, d5, d6, db⟩ := HC.out.ext hx1
  clear db
  clear c0 c1 c1b c2 c3 c4 c5 c6
  have hxr : bits .xor .u64 (k : Int) (k' : Int) = ((k ^^^ k' : Nat) : Int) := bits_xor_u64_nat k k' hk hk'
  have hxp : 0 < k ^^^ k' := Nat.pos_of_ne_zero (fun e => hne (xor0 e).symm)
  have hx64 : k ^^^ k' < 2 ^ 64 := Nat.xor_lt_two_pow hk hk'
  have hm64 : (k ^^^ k').log2 < 64 := (Nat.log2_lt (by omega)).2 hx64
  generalize k ^^^ k' = x at *
  go_wp2_with fail
  refine (len64_calls x hxp hx64 _).mono ?_
  rintro e w2 ⟨rfl, hx2⟩
  generalize x.log2 = m at *
  have hw : IntKind.i64.wrap (((m + 1 : Nat) : Int) - 1) = (m : Int) := by rw [IntWalk.i64_in _ (by omega)]; omega
  clear hxr hxp hx64
  have hka := and1 k m hk
  have HX := (hx.trans hx1).trans hx2
  have l1 : w2.cell? ⟨w.heap.size + 1, 6, none⟩ = some (.int .i64 1) := (hx1.trans hx2).cell (by simp)
  have l2 : w2.cell? ⟨w.heap.size + 1, 7, none⟩ = some (.int .i64 0) := (hx1.trans hx2).cell (by simp)
  have hleaf : At w2 (some ⟨w.heap.size + 1, 0, none⟩) (.leaf k v) := ⟨_, rfl, Cells.of_block ((hx1.trans hx2).block (heap_new1 w _ _))⟩
  have hold : At w2 (some ⟨b, 0, none⟩) (.br pr i z o) := ((HAT.out.ext hx).ext hx1).ext hx2
  have HL := Lib.hid hleaf
  have HO := Lib.hid hold
  replace d5 := hx2.cell d5
  replace d6 := hx2.cell d6
  clear hleaf hold hn hne HC d0 d1 d1b d2 d3 d4
  have hkj := Lib.hid (key_join k m)
  by_cases hb : k / 2 ^ m % 2 = 0
  · have hj : Nd.join k v m (.br pr i z o) = .br (k / 2 ^ m / 2) m (.leaf k v) (.br pr i z o) := by unfold Nd.join; rw [if_pos hb]
    have hb0 : (bits BinOp.and IntKind.u64 ((k : Int) / 2 ^ m) 1 == 0) = true := by rw [hka, hb]; rfl
    have HJ := Lib.hid hj
    clear hka hj
    go_wp2_with fail
    refine (part_calls k m (w.heap.size + 1) b 1 mt 0 dt w2 (by omega) (by omega) hm64 l1 l2 d5 d6 (by omega) (by have := HDL.out; omega) (by omega) (by have := HDL.out; omega) (by omega) (by have := HDL.out; omega) (by omega) (by have := HDL.out; omega)).mono ?_
    rintro e w3 ⟨nb, rfl, hcn, hx3⟩
    rw [hkj.out] at hcn
    go_wp2
    go_ret
    refine ⟨nb, rfl, ?_, HX.trans hx3⟩
    rw [HJ.out]
    refine ⟨nb, _, _, rfl, ?_, HL.out.ext hx3, HO.out.ext hx3⟩
    have e1 : ((Nd.br (k / 2 ^ m / 2) m (.leaf k v) (.br pr i z o)).many : Int) = 1 + mt := by rw [← HMT.out]; simp [Nd.many]
    have e2 : ((Nd.br (k / 2 ^ m / 2) m (.leaf k v) (.br pr i z o)).depth : Int) = 1 + max 0 (dt : Int) := by
      have : (Nd.br (k / 2 ^ m / 2) m (.leaf k v) (.br pr i z o)).depth = 1 + max 0 (Nd.br pr i z o).depth := rfl
      rw [this, HDT.out]; omega
    rw [e1, e2]; exact hcn
  · have hj : Nd.join k v m (.br pr i z o) = .br (k / 2 ^ m / 2) m (.br pr i z o) (.leaf k v) := by unfold Nd.join; rw [if_neg hb]
    have hb1 : k / 2 ^ m % 2 = 1 := by omega
    have hb0 : (bits BinOp.and IntKind.u64 ((k : Int) / 2 ^ m) 1 == 0) = false := by rw [hka, hb1]; rfl
    have HJ := Lib.hid hj
    clear hka hj hb1 hb
    go_wp2_with fail
    refine (part_calls k m b (w.heap.size + 1) mt 1 dt 0 w2 (by omega) (by omega) hm64 d5 d6 l1 l2 (by omega) (by have := HDL.out; omega) (by omega) (by have := HDL.out; omega) (by omega) (by have := HDL.out; omega) (by omega) (by have := HDL.out; omega)).mono ?_
    rintro e w3 ⟨nb, rfl, hcn, hx3⟩
    rw [hkj.out] at hcn
    go_wp2
    go_ret
    refine ⟨nb, rfl, ?_, HX.trans hx3⟩
    rw [HJ.out]
    refine ⟨nb, _, _, rfl, ?_, HO.out.ext hx3, HL.out.ext hx3⟩
    have e1 : ((Nd.br (k / 2 ^ m / 2) m (.br pr i z o) (.leaf k v)).many : Int) = mt + 1 := by rw [← HMT.out]; simp [Nd.many]
    have e2 : ((Nd.br (k / 2 ^ m / 2) m (.br pr i z o) (.leaf k v)).depth : Int) = 1 + max (dt : Int) 0 := by
      have : (Nd.br (k / 2 ^ m / 2) m (.br pr i z o) (.leaf k v)).depth = 1 + max (Nd.br pr i z o).depth 0 := rfl
      rw [this, HDT.out]; omega
    rw [e1, e2]; exact hcn
/-- Put at no node, or at the very number. -/
theorem put_new (p : Option Addr) (k : Nat) (v : It) (w : World) (h : p = none ∨ ∃ b, ∃ v' : It, p = some ⟨b, 0, none⟩ ∧ Cells w b k v'.b v'.c (-1) none none 1 0) :
    Calls Tryz.prog 56 #[.pointer p, .int .u64 k, .agg #[.int .i64 v.b, .int .i64 v.c]] w (NodePost w (.leaf k v)) := by
  have hx : Ext w ((w.alloc (.cells #[.int .i64 v.b, .int .i64 v.c] 95)).alloc (.cells #[.int .u64 k, .int .i64 v.b, .int .i64 v.c, .int .i64 (-1), .pointer none, .pointer none, .int .i64 1, .int .i64 0] 123)) := ((Ext.refl w).alloc _).alloc _
  rcases h with rfl | ⟨b, v', rfl, h⟩
  · go_enter Tryz.func56, Tryz.ntmps56
    go_wp2
    go_ret
    exact ⟨_, rfl, ⟨_, rfl, Cells.of_block (heap_new1 w _ _)⟩, hx⟩
  · obtain ⟨c0, c1, c1b, c2, c3, c4, c5, c6, cb⟩ := h.ext hx
    clear cb
    go_enter Tryz.func56, Tryz.ntmps56
    go_wp2
    go_ret
    exact ⟨_, rfl, ⟨_, rfl, Cells.of_block (heap_new1 w _ _)⟩, hx⟩

theorem put_calls (k : Nat) (v : It) (hk : k < 2 ^ 64) : ∀ (t : (Nd It)) (p : Option Addr) (w : World), At w p t → t.WF → t.many ≤ 1000000 →
    Calls Tryz.prog 56 #[.pointer p, .int .u64 k, .agg #[.int .i64 v.b, .int .i64 v.c]] w (NodePost w (t.put k v)) := by
  intro t
  induction t with
  | leaf k' v' =>
    rintro p w ⟨b, rfl, h⟩ hwf _
    by_cases he : k' = k
    · subst he
      have := put_new (some ⟨b, 0, none⟩) k' v w (.inr ⟨b, v', rfl, h⟩)
      simpa [Nd.put] using this
    · have := put_leaf b k' k v' v w h hk hwf he
      simpa [Nd.put, he] using this
  | br pr i z o hz ho =>
    rintro p w h hwf hm
    obtain ⟨b, rfl⟩ := at_some h
    have hkl := key_low hwf
    obtain ⟨h0, h1, h2, h3, h4⟩ := hwf
    have hmm : z.many + o.many ≤ 1000000 := hm
    by_cases hp : k / 2 ^ i / 2 = pr
    · by_cases hb : k / 2 ^ i % 2 = 0
      · have := put_zero b pr i k v z o w h hk h0 hmm hp hb (fun p w hat => hz p w hat h1 (by omega))
        simpa [Nd.put, hp, hb] using this
      · have := put_one b pr i k v z o w h hk h0 hmm hp (by omega) (fun p w hat => ho p w hat h2 (by omega))
        simpa [Nd.put, hp, hb] using this
    · have := put_far b pr i k _ v z o w h rfl hk hkl h0 hmm hp
      simpa [Nd.put, hp] using this
end Go.Proofs.YtgcplndmhlideaaGreat.It

namespace Go.Proofs.YtgcplndmhlideaaGreat.It
open Go.RowKit

def AtO (w : World) (p : Option Addr) : Option (Nd It) → Prop
  | none => p = none
  | some t => At w p t
theorem AtO.ext {w w' : World} {p : Option Addr} {t : Option (Nd It)} (hx : Ext w w') (h : AtO w p t) : AtO w' p t := by
  cases t with
  | none => exact h
  | some t => exact At.ext hx h
def OPost (w : World) (t : Option (Nd It)) (e : Ending) (w' : World) : Prop := ∃ p, e = .returned (.pointer p) ∧ AtO w' p t ∧ Ext w w'

theorem drop_nil (k : Nat) (w : World) : Calls Tryz.prog 62 #[.pointer none, .int .u64 k] w (OPost w none) := by
  go_enter Tryz.func62, Tryz.ntmps62
  go_wp2
  go_ret
  exact ⟨none, rfl, rfl, Ext.refl w⟩
theorem drop_same (b k : Nat) (v : It) (w : World) (h : Cells w b k v.b v.c (-1) none none 1 0) : Calls Tryz.prog 62 #[.pointer (some ⟨b, 0, none⟩), .int .u64 k] w (OPost w none) := by
  obtain ⟨c0, c1, c1b, c2, c3, c4, c5, c6, cb⟩ := h
  clear cb
  go_enter Tryz.func62, Tryz.ntmps62
  go_wp2
  go_ret
  exact ⟨none, rfl, rfl, Ext.refl w⟩
theorem drop_other (b k' k : Nat) (v : It) (w : World) (h : Cells w b k' v.b v.c (-1) none none 1 0) (hne : k' ≠ k) : Calls Tryz.prog 62 #[.pointer (some ⟨b, 0, none⟩), .int .u64 k] w (OPost w (some (.leaf k' v))) := by
  have hh := Lib.hid h
  obtain ⟨c0, c1, c1b, c2, c3, c4, c5, c6, cb⟩ := h
  clear cb
  have hn : ((k' : Int) == (k : Int)) = false := by simp; omega
  go_enter Tryz.func62, Tryz.ntmps62
  go_wp2
  go_ret
  exact ⟨_, rfl, ⟨b, rfl, hh.out⟩, Ext.refl w⟩
theorem drop_far (b pr i k : Nat) (z o : (Nd It)) (w : World) (h : At w (some ⟨b, 0, none⟩) (.br pr i z o)) (hi : i < 64) (hp : k / 2 ^ i / 2 ≠ pr) : Calls Tryz.prog 62 #[.pointer (some ⟨b, 0, none⟩), .int .u64 k] w (OPost w (some (.br pr i z o))) := by
  have hh := Lib.hid h
  have hq : (((k : Int) / 2 ^ i / 2) == (((pr * 2 ^ (i + 1) : Nat) : Int) / 2 ^ i / 2)) = false := by
    have e1 : ((k : Int) / 2 ^ i / 2) = ((k / 2 ^ i / 2 : Nat) : Int) := by simp
    have e2 : (((pr * 2 ^ (i + 1) : Nat) : Int) / 2 ^ i / 2) = ((pr * 2 ^ (i + 1) / 2 ^ i / 2 : Nat) : Int) := by simp
    have e3 : pr * 2 ^ (i + 1) / 2 ^ i / 2 = pr := by rw [← div_succ]; exact Nat.mul_div_cancel _ (Nat.two_pow_pos _)
    rw [e1, e2, e3]; simp; omega
  obtain ⟨b', zp, op, e, hc, hz, ho⟩ := h
  cases e
  have hkey : (Nd.br pr i z o).key = pr * 2 ^ (i + 1) := rfl
  rw [hkey] at hc
  have HC := Lib.hid hc
  have HQ := Lib.hid hq
  obtain ⟨c0, c1, c1b, c2, c3, c4, c5, c6, cb⟩ := hc
  clear cb
  have hi0 : ¬ ((i : Int) < 0) := by omega
  clear hz ho hkey hq hp
  go_enter Tryz.func62, Tryz.ntmps62
  go_wp2_with fail
  refine (above_br b _ _ _ i _ _ _ _ _ _ HC.out hi).mono ?_
  rw [HQ.out]
  rintro e w1 ⟨rfl, hx1⟩
  go_wp2
  go_ret
  exact ⟨_, rfl, At.ext hx1 hh.out, hx1⟩
end Go.Proofs.YtgcplndmhlideaaGreat.It

namespace Go.Proofs.YtgcplndmhlideaaGreat.It
open Go.RowKit

/-- What is at a place has one size and one depth. -/
theorem at_many {w : World} {t t' : (Nd It)} {p : Option Addr} (h : At w p t) (h' : At w p t') : t.many = t'.many ∧ t.depth = t'.depth := by
  obtain ⟨b, rfl⟩ := at_some h
  have e1 := (at_md h).1.symm.trans (at_md h').1
  have e2 := (at_md h).2.symm.trans (at_md h').2
  simp at e1 e2
  exact ⟨by omega, by omega⟩
theorem at_swap_zero {w : World} {b pr i : Nat} {zp op : Option Addr} {z z' o : (Nd It)} (h : Cells w b (((Nd.br pr i z o).key : Nat) : Int) 0 0 i zp op (Nd.br pr i z o).many (Nd.br pr i z o).depth) (hz : At w zp z) (hz' : At w zp z') (ho : At w op o) : At w (some ⟨b, 0, none⟩) (.br pr i z' o) := by
  obtain ⟨e1, e2⟩ := at_many hz hz'
  have e3 : (Nd.br pr i z o).many = (Nd.br pr i z' o).many := by simp only [Nd.many, e1]
  have e4 : (Nd.br pr i z o).depth = (Nd.br pr i z' o).depth := by simp only [Nd.depth, e2]
  rw [e3, e4] at h
  exact ⟨b, zp, op, rfl, h, hz', ho⟩
theorem at_swap_one {w : World} {b pr i : Nat} {zp op : Option Addr} {z o o' : (Nd It)} (h : Cells w b (((Nd.br pr i z o).key : Nat) : Int) 0 0 i zp op (Nd.br pr i z o).many (Nd.br pr i z o).depth) (hz : At w zp z) (ho : At w op o) (ho' : At w op o') : At w (some ⟨b, 0, none⟩) (.br pr i z o') := by
  obtain ⟨e1, e2⟩ := at_many ho ho'
  have e3 : (Nd.br pr i z o).many = (Nd.br pr i z o').many := by simp only [Nd.many, e1]
  have e4 : (Nd.br pr i z o).depth = (Nd.br pr i z o').depth := by simp only [Nd.depth, e2]
  rw [e3, e4] at h
  exact ⟨b, zp, op, rfl, h, hz, ho'⟩

theorem infoN : (Tryz.prog.info? 123).map (fun i => i.size) = some 8 := by kernel_rfl
theorem blk_of_at {w : World} {b : Nat} {t : (Nd It)} (h : At w (some ⟨b, 0, none⟩) t) : ∃ c, w.heap[b]? = some (.cells c 123 (0, 0)) := by
  cases t with
  | leaf k v => obtain ⟨b', e, h⟩ := h; cases e; exact ⟨_, h.blk⟩
  | br pr i z o => obtain ⟨b', _, _, e, h, _⟩ := h; cases e; exact ⟨_, h.blk⟩
theorem ptr_same (a : Addr) (w : World) : (binOp .eql 79 (.pointer (some a)) (.pointer (some a))).run Tryz.prog w = .ok (.bool true) w := by
  obtain ⟨j, hj, _⟩ := Option.map_eq_some_iff.1 infoN
  exact run_eql_ptr_same w a Tryz.underlying79 hj
theorem ptr_other {a b : Nat} {w : World} {t t' : (Nd It)} (ha : At w (some ⟨a, 0, none⟩) t) (hb : At w (some ⟨b, 0, none⟩) t') (hne : a ≠ b) :
    (binOp .eql 79 (.pointer (some ⟨a, 0, none⟩)) (.pointer (some ⟨b, 0, none⟩))).run Tryz.prog w = .ok (.bool false) w := by
  obtain ⟨j, hj, hs⟩ := Option.map_eq_some_iff.1 infoN
  obtain ⟨ca, h1⟩ := blk_of_at ha
  obtain ⟨cb, h2⟩ := blk_of_at hb
  exact run_eql_ptr_other w Tryz.underlying79 hj (by omega) (fun e => hne (by cases e; rfl)) h1 h2

def zeroO (pr i : Nat) (o : (Nd It)) : Option (Nd It) → Option (Nd It)
  | none => some o
  | some z' => some (.br pr i z' o)

set_option maxRecDepth 100000 in
/-- The side of a bit that is nought. -/
theorem drop_zero (b pr i k : Nat) (z o : (Nd It)) (w : World) (h : At w (some ⟨b, 0, none⟩) (.br pr i z o)) (hk : k < 2 ^ 64) (hi : i < 64) (hm : z.many + o.many ≤ 1000000)
    (hp : k / 2 ^ i / 2 = pr) (hb : k / 2 ^ i % 2 = 0) (hdm : ∀ z', z.drop k = some z' → z'.many ≤ z.many)
    (ih : ∀ (p : Option Addr) (w : World), At w p z → Calls Tryz.prog 62 #[.pointer p, .int .u64 k] w (OPost w (z.drop k))) :
    Calls Tryz.prog 62 #[.pointer (some ⟨b, 0, none⟩), .int .u64 k] w (OPost w (zeroO pr i o (z.drop k))) := by
  have hh := Lib.hid h
  obtain ⟨b', zp, op, e, hc, hz, ho⟩ := h
  cases e
  have hkey : (Nd.br pr i z o).key = pr * 2 ^ (i + 1) := rfl
  rw [hkey] at hc
  have HC := Lib.hid hc
  have HZ := Lib.hid hz
  obtain ⟨zb, rfl⟩ := at_some hz
  obtain ⟨ob, rfl⟩ := at_some ho
  have HO := Lib.hid ho
  obtain ⟨c0, c1, c1b, c2, c3, c4, c5, c6, cb⟩ := hc
  clear cb
  have hi0 : ¬ ((i : Int) < 0) := by omega
  have hka := and1 k i hk
  have hb0 : (bits BinOp.and IntKind.u64 ((k : Int) / 2 ^ i) 1 == 0) = true := by rw [hka, hb]; rfl
  have hq : (((k : Int) / 2 ^ i / 2) == (((pr * 2 ^ (i + 1) : Nat) : Int) / 2 ^ i / 2)) = true := by
    have e1 : ((k : Int) / 2 ^ i / 2) = ((k / 2 ^ i / 2 : Nat) : Int) := by simp
    have e2 : (((pr * 2 ^ (i + 1) : Nat) : Int) / 2 ^ i / 2) = ((pr * 2 ^ (i + 1) / 2 ^ i / 2 : Nat) : Int) := by simp
    have e3 : pr * 2 ^ (i + 1) / 2 ^ i / 2 = pr := by rw [← div_succ]; exact Nat.mul_div_cancel _ (Nat.two_pow_pos _)
    rw [e1, e2, hp, e3]; simp
  have HQ := Lib.hid hq
  have HP := Lib.hid hp
  clear hz ho hkey hka hb hq hp
  go_enter Tryz.func62, Tryz.ntmps62
  go_wp2_with fail
  refine (above_br b _ _ _ i _ _ _ _ _ _ HC.out hi).mono ?_
  rw [HQ.out]
  rintro e w1 ⟨rfl, hx1⟩
  obtain ⟨d0, d1, d1b, d2, d3, d4, d5, d6, db⟩ := HC.out.ext hx1
  clear db
  clear c0 c1 c1b c2 c3 c4 c5 c6
  go_wp2_with fail
  go_region
  have hdr : Ext w1 w1.drew := (Ext.refl _).drew
  have AZ := (HZ.out.ext hx1).ext hdr
  have HX := hx1.trans hdr
  go_wp2_with fail
  refine (ih _ _ AZ).mono ?_
  rintro e w2 ⟨np, rfl, HN, hx2⟩
  have AZ2 := AZ.ext hx2
  have AO2 := (HO.out.ext HX).ext hx2
  have HX2 := HX.trans hx2
  replace d2 := hx2.cell (hdr.cell d2)
  replace d3 := hx2.cell (hdr.cell d3)
  replace d4 := hx2.cell (hdr.cell d4)
  have m1 := (at_md AO2).1
  have m2 := (at_md AO2).2
  have hom := o.depth_lt
  clear AZ HX hx1 hx2 hdr d0 d1 d1b d5 d6
  cases hd : z.drop k with
  | none =>
    rw [hd] at HN
    obtain rfl : np = none := HN
    go_wp2
    go_ret
    exact ⟨_, rfl, by rw [hd]; exact AO2, HX2⟩
  | some z' =>
    rw [hd] at HN
    have HN2 : At w2 np z' := HN
    obtain ⟨nb, rfl⟩ := at_some HN2
    by_cases e : nb = zb
    · subst e
      have HH := Lib.hid (at_swap_zero (HC.out.ext HX2) AZ2 HN2 AO2)
      clear HN m1 m2
      have s1 := ptr_same ⟨nb, 0, none⟩ w2
      have s2 := ptr_same ⟨ob, 0, none⟩ w2
      go_wp2
      go_ret
      exact ⟨_, rfl, by rw [hd]; exact HH.out, HX2⟩
    · have hzm := hdm z' hd
      have hzd := z'.depth_lt
      have n1 := (at_md HN2).1
      have n2 := (at_md HN2).2
      have HKJ := Lib.hid (key_join k i)
      have s1 := ptr_other HN2 AZ2 e
      clear HN
      go_wp2_with fail
      refine (part_calls k i nb ob _ _ _ _ _ (by omega) (by omega) hi n1 n2 m1 m2 (by omega) (by omega) (by omega) (by omega) (by omega) (by omega) (by omega) (by omega)).mono ?_
      rintro e w3 ⟨rb, rfl, HR, hx3⟩
      rw [HKJ.out, HP.out] at HR
      go_wp2
      go_ret
      refine ⟨_, rfl, ?_, HX2.trans hx3⟩
      rw [hd]
      refine ⟨rb, _, _, rfl, ?_, At.ext hx3 HN2, At.ext hx3 AO2⟩
      have hmx : ((max z'.depth o.depth : Nat) : Int) = max (z'.depth : Int) o.depth := by omega
      simpa [Nd.many, Nd.depth, Nd.key, hmx] using HR
end Go.Proofs.YtgcplndmhlideaaGreat.It

namespace Go.Proofs.YtgcplndmhlideaaGreat.It
open Go.RowKit

def oneO (pr i : Nat) (z : (Nd It)) : Option (Nd It) → Option (Nd It)
  | none => some z
  | some o' => some (.br pr i z o')

set_option maxRecDepth 100000 in
/-- The side of a bit that is one. -/
theorem drop_one (b pr i k : Nat) (z o : (Nd It)) (w : World) (h : At w (some ⟨b, 0, none⟩) (.br pr i z o)) (hk : k < 2 ^ 64) (hi : i < 64) (hm : z.many + o.many ≤ 1000000)
    (hp : k / 2 ^ i / 2 = pr) (hb : k / 2 ^ i % 2 = 1) (hdm : ∀ z', o.drop k = some z' → z'.many ≤ o.many)
    (ih : ∀ (p : Option Addr) (w : World), At w p o → Calls Tryz.prog 62 #[.pointer p, .int .u64 k] w (OPost w (o.drop k))) :
    Calls Tryz.prog 62 #[.pointer (some ⟨b, 0, none⟩), .int .u64 k] w (OPost w (oneO pr i z (o.drop k))) := by
  have hh := Lib.hid h
  obtain ⟨b', zp, op, e, hc, hz, ho⟩ := h
  cases e
  have hkey : (Nd.br pr i z o).key = pr * 2 ^ (i + 1) := rfl
  rw [hkey] at hc
  have HC := Lib.hid hc
  have HZ := Lib.hid hz
  obtain ⟨zb, rfl⟩ := at_some hz
  obtain ⟨ob, rfl⟩ := at_some ho
  have HO := Lib.hid ho
  obtain ⟨c0, c1, c1b, c2, c3, c4, c5, c6, cb⟩ := hc
  clear cb
  have hi0 : ¬ ((i : Int) < 0) := by omega
  have hka := and1 k i hk
  have hb0 : (bits BinOp.and IntKind.u64 ((k : Int) / 2 ^ i) 1 == 0) = false := by rw [hka, hb]; rfl
  have hq : (((k : Int) / 2 ^ i / 2) == (((pr * 2 ^ (i + 1) : Nat) : Int) / 2 ^ i / 2)) = true := by
    have e1 : ((k : Int) / 2 ^ i / 2) = ((k / 2 ^ i / 2 : Nat) : Int) := by simp
    have e2 : (((pr * 2 ^ (i + 1) : Nat) : Int) / 2 ^ i / 2) = ((pr * 2 ^ (i + 1) / 2 ^ i / 2 : Nat) : Int) := by simp
    have e3 : pr * 2 ^ (i + 1) / 2 ^ i / 2 = pr := by rw [← div_succ]; exact Nat.mul_div_cancel _ (Nat.two_pow_pos _)
    rw [e1, e2, hp, e3]; simp
  have HQ := Lib.hid hq
  have HP := Lib.hid hp
  clear hz ho hkey hka hb hq hp
  go_enter Tryz.func62, Tryz.ntmps62
  go_wp2_with fail
  refine (above_br b _ _ _ i _ _ _ _ _ _ HC.out hi).mono ?_
  rw [HQ.out]
  rintro e w1 ⟨rfl, hx1⟩
  obtain ⟨d0, d1, d1b, d2, d3, d4, d5, d6, db⟩ := HC.out.ext hx1
  clear db
  clear c0 c1 c1b c2 c3 c4 c5 c6
  go_wp2_with fail
  go_region
  have hdr : Ext w1 w1.drew := (Ext.refl _).drew
  have AO := (HO.out.ext hx1).ext hdr
  have HX := hx1.trans hdr
  go_wp2_with fail
  refine (ih _ _ AO).mono ?_
  rintro e w2 ⟨np, rfl, HN, hx2⟩
  have AO2 := AO.ext hx2
  have AZ2 := (HZ.out.ext HX).ext hx2
  have HX2 := HX.trans hx2
  replace d2 := hx2.cell (hdr.cell d2)
  replace d3 := hx2.cell (hdr.cell d3)
  replace d4 := hx2.cell (hdr.cell d4)
  have m1 := (at_md AZ2).1
  have m2 := (at_md AZ2).2
  have hom := z.depth_lt
  clear AO HX hx1 hx2 hdr d0 d1 d1b d5 d6
  cases hd : o.drop k with
  | none =>
    rw [hd] at HN
    obtain rfl : np = none := HN
    go_wp2
    go_ret
    exact ⟨_, rfl, by rw [hd]; exact AZ2, HX2⟩
  | some z' =>
    rw [hd] at HN
    have HN2 : At w2 np z' := HN
    obtain ⟨nb, rfl⟩ := at_some HN2
    by_cases e : nb = ob
    · subst e
      have HH := Lib.hid (at_swap_one (HC.out.ext HX2) AZ2 AO2 HN2)
      clear HN m1 m2
      have s1 := ptr_same ⟨nb, 0, none⟩ w2
      have s2 := ptr_same ⟨zb, 0, none⟩ w2
      go_wp2
      go_ret
      exact ⟨_, rfl, by rw [hd]; exact HH.out, HX2⟩
    · have hzm := hdm z' hd
      have hzd := z'.depth_lt
      have n1 := (at_md HN2).1
      have n2 := (at_md HN2).2
      have HKJ := Lib.hid (key_join k i)
      have s1 := ptr_other HN2 AO2 e
      have s2 := ptr_same ⟨zb, 0, none⟩ w2
      clear HN
      go_wp2_with fail
      refine (part_calls k i zb nb _ _ _ _ _ (by omega) (by omega) hi m1 m2 n1 n2 (by omega) (by omega) (by omega) (by omega) (by omega) (by omega) (by omega) (by omega)).mono ?_
      rintro e w3 ⟨rb, rfl, HR, hx3⟩
      rw [HKJ.out, HP.out] at HR
      go_wp2
      go_ret
      refine ⟨_, rfl, ?_, HX2.trans hx3⟩
      rw [hd]
      refine ⟨rb, _, _, rfl, ?_, At.ext hx3 AZ2, At.ext hx3 HN2⟩
      have hmx : ((max z.depth z'.depth : Nat) : Int) = max (z.depth : Int) z'.depth := by omega
      simpa [Nd.many, Nd.depth, Nd.key, hmx] using HR

theorem drop_many (k : Nat) (t : (Nd It)) : ∀ t', t.drop k = some t' → t'.many ≤ t.many := by
  induction t with
  | leaf k' v' => intro t' h; unfold Nd.drop at h; split at h <;> simp at h; subst h; exact Nat.le_refl _
  | br p b z o hz ho =>
    intro t' h
    unfold Nd.drop at h
    split at h
    · split at h
      · cases hd : z.drop k with
        | none => rw [hd] at h; simp at h; subst h; simp [Nd.many]
        | some z' => rw [hd] at h; simp at h; subst h; have := hz z' hd; simp only [Nd.many]; omega
      · cases hd : o.drop k with
        | none => rw [hd] at h; simp at h; subst h; simp [Nd.many]
        | some z' => rw [hd] at h; simp at h; subst h; have := ho z' hd; simp only [Nd.many]; omega
    · simp at h; subst h; exact Nat.le_refl _

theorem drop_calls (k : Nat) (hk : k < 2 ^ 64) : ∀ (t : (Nd It)) (p : Option Addr) (w : World), At w p t → t.WF → t.many ≤ 1000000 →
    Calls Tryz.prog 62 #[.pointer p, .int .u64 k] w (OPost w (t.drop k)) := by
  intro t
  induction t with
  | leaf k' v' =>
    rintro p w ⟨b, rfl, h⟩ hwf _
    by_cases he : k' = k
    · subst he
      have := drop_same b k' v' w h
      simpa [Nd.drop] using this
    · have := drop_other b k' k v' w h he
      simpa [Nd.drop, he] using this
  | br pr i z o hz ho =>
    rintro p w h hwf hm
    obtain ⟨b, rfl⟩ := at_some h
    obtain ⟨h0, h1, h2, h3, h4⟩ := hwf
    have hmm : z.many + o.many ≤ 1000000 := hm
    by_cases hp : k / 2 ^ i / 2 = pr
    · by_cases hb : k / 2 ^ i % 2 = 0
      · have := drop_zero b pr i k z o w h hk h0 hmm hp hb (drop_many k z) (fun p w hat => hz p w hat h1 (by omega))
        have e : (Nd.br pr i z o).drop k = zeroO pr i o (z.drop k) := by
          conv => lhs; unfold Nd.drop
          rw [if_pos hp, if_pos hb]; cases z.drop k <;> rfl
        rw [e]; exact this
      · have := drop_one b pr i k z o w h hk h0 hmm hp (by omega) (drop_many k o) (fun p w hat => ho p w hat h2 (by omega))
        have e : (Nd.br pr i z o).drop k = oneO pr i z (o.drop k) := by
          conv => lhs; unfold Nd.drop
          rw [if_pos hp, if_neg hb]; cases o.drop k <;> rfl
        rw [e]; exact this
    · have := drop_far b pr i k z o w h h0 hp
      simpa [Nd.drop, hp] using this
end Go.Proofs.YtgcplndmhlideaaGreat.It
