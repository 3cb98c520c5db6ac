/- The nodes of a radix map in memory, and the contracts of above, part and Len64. -/
import Derived.Test.YtcdjhoejnjbgkaaBase
import Derived.Test.YtcdjhoejnjbgkaaPlain
import Derived.Test.YtcdjhoejnjbgkaaProg
import Derived.BigRegion
namespace Go.Proofs.Ytcdjhoejnjbgkaa
open Go.RowKit

/-- The cells of a node. -/
structure Cells (w : World) (b : Nat) (key val bit : Int) (z o : Option Addr) (many depth : Int) : Prop where
  c0 : w.cell? ⟨b, 0, none⟩ = some (.int .u64 key)
  c1 : w.cell? ⟨b, 1, none⟩ = some (.int .i64 val)
  c2 : w.cell? ⟨b, 2, none⟩ = some (.int .i64 bit)
  c3 : w.cell? ⟨b, 3, none⟩ = some (.pointer z)
  c4 : w.cell? ⟨b, 4, none⟩ = some (.pointer o)
  c5 : w.cell? ⟨b, 5, none⟩ = some (.int .i64 many)
  c6 : w.cell? ⟨b, 6, none⟩ = some (.int .i64 depth)
  blk : w.heap[b]? = some (.cells #[.int .u64 key, .int .i64 val, .int .i64 bit, .pointer z, .pointer o, .int .i64 many, .int .i64 depth] 69 (0, 0))
theorem Cells.of_block {w : World} {b : Nat} {key val bit : Int} {z o : Option Addr} {many depth : Int} (h : w.heap[b]? = some (.cells #[.int .u64 key, .int .i64 val, .int .i64 bit, .pointer z, .pointer o, .int .i64 many, .int .i64 depth] 69 (0, 0))) : Cells w b key val bit z o many depth :=
  ⟨by simp [World.cell?, h], by simp [World.cell?, h], by simp [World.cell?, h], by simp [World.cell?, h], by simp [World.cell?, h], by simp [World.cell?, h], by simp [World.cell?, h], h⟩
theorem Cells.ext {w w' : World} {b : Nat} {key val bit : Int} {z o : Option Addr} {many depth : Int} (h : Cells w b key val bit z o many depth) (hx : Ext w w') : Cells w' b key val bit z o many depth :=
  ⟨hx.cell h.c0, hx.cell h.c1, hx.cell h.c2, hx.cell h.c3, hx.cell h.c4, hx.cell h.c5, hx.cell h.c6, hx.block h.blk⟩

/-- A node in memory. -/
def At (w : World) : Option Addr → Nd → Prop
  | p, .leaf k v => ∃ b, p = some ⟨b, 0, none⟩ ∧ Cells w b k v (-1) none none 1 0
  | p, .br pr i z o => ∃ b zp op, p = some ⟨b, 0, none⟩ ∧ Cells w b (Nd.br pr i z o).key 0 i zp op (Nd.br pr i z o).many (Nd.br pr i z o).depth ∧ At w zp z ∧ At w op o
theorem At.ext {w w' : World} (hx : Ext w w') : ∀ {t : Nd} {p : Option Addr}, At w p t → At w' p t := by
  intro t
  induction t with
  | leaf k v => rintro p ⟨b, e, h⟩; exact ⟨b, e, h.ext hx⟩
  | br pr i z o hz ho => rintro p ⟨b, zp, op, e, h, h1, h2⟩; exact ⟨b, zp, op, e, h.ext hx, hz h1, ho h2⟩

set_option maxRecDepth 100000 in
theorem above_leaf (b : Nat) (key val : Int) (z o : Option Addr) (many depth : Int) (k : Int) (w : World) (h : Cells w b key val (-1) z o many depth) :
    Calls Try.prog 42 #[.pointer (some ⟨b, 0, none⟩), .int .u64 k] w fun e w' => e = .returned (.bool false) ∧ Ext w w' := by
  obtain ⟨c0, c1, c2, c3, c4, c5, c6, cb⟩ := h
  clear cb
  go_enter Try.func42, Try.ntmps42
  go_wp2_with fail
  go_quiet (fail)
  go_wp2
  go_ret
  exact ⟨rfl, (Ext.refl w).drewN _⟩

set_option maxRecDepth 100000 in
theorem above_br (b : Nat) (key val : Int) (i : Nat) (z o : Option Addr) (many depth : Int) (k : Int) (w : World) (h : Cells w b key val i z o many depth) (hi : i < 64) :
    Calls Try.prog 42 #[.pointer (some ⟨b, 0, none⟩), .int .u64 k] w fun e w' => e = .returned (.bool (k / 2 ^ i / 2 == key / 2 ^ i / 2)) ∧ Ext w w' := by
  obtain ⟨c0, c1, c2, c3, c4, c5, c6, cb⟩ := h
  clear cb
  go_enter Try.func42, Try.ntmps42
  go_wp2_with fail
  go_quiet (fail)
  go_wp2
  go_ret
  exact ⟨rfl, (Ext.refl w).drewN _⟩

def PartPost (w : World) (k : Int) (i : Nat) (zp op : Option Addr) (m d : Int) (e : Ending) (w' : World) : Prop :=
  ∃ b, e = .returned (.pointer (some ⟨b, 0, none⟩)) ∧ Cells w' b (k / 2 ^ i / 2 * 2 ^ (i + 1)) 0 i zp op m d ∧ Ext w w'

set_option maxRecDepth 100000 in
theorem part_calls (k : Int) (i zb ob : Nat) (mz mo dz d' : Int) (w : World) (hk0 : 0 ≤ k) (hk1 : k < 18446744073709551616) (hi : i < 64)
    (z5 : w.cell? ⟨zb, 5, none⟩ = some (.int .i64 mz)) (z6 : w.cell? ⟨zb, 6, none⟩ = some (.int .i64 dz)) (o5 : w.cell? ⟨ob, 5, none⟩ = some (.int .i64 mo)) (o6 : w.cell? ⟨ob, 6, none⟩ = some (.int .i64 d'))
    (a0 : 0 ≤ mz) (a1 : mz < 1000000000) (b0 : 0 ≤ mo) (b1 : mo < 1000000000) (e0 : 0 ≤ dz) (e1 : dz < 1000000000) (f0 : 0 ≤ d') (f1 : d' < 1000000000) :
    Calls Try.prog 43 #[.int .u64 k, .int .i64 i, .pointer (some ⟨zb, 0, none⟩), .pointer (some ⟨ob, 0, none⟩)] w (PartPost w k i (some ⟨zb, 0, none⟩) (some ⟨ob, 0, none⟩) (mz + mo) (1 + max dz d')) := by
  have w1 : IntKind.i64.wrap (mz + mo) = mz + mo := IntWalk.i64_in _ (by omega)
  have w2 : IntKind.i64.wrap (1 + max dz d') = 1 + max dz d' := IntWalk.i64_in _ (by omega)
  have hp : (0 : Int) < 2 ^ i := by exact_mod_cast Nat.two_pow_pos i
  have q0 : 0 ≤ k / 2 ^ i := Int.ediv_nonneg hk0 (by omega)
  have q1 : k / 2 ^ i * 2 ^ i ≤ k := Int.ediv_mul_le _ (by omega)
  have q2 : k / 2 ^ i / 2 * 2 ≤ k / 2 ^ i := Int.ediv_mul_le _ (by omega)
  have q3 : 0 ≤ k / 2 ^ i / 2 := Int.ediv_nonneg q0 (by omega)
  have q4 : k / 2 ^ i / 2 * 2 * 2 ^ i ≤ k / 2 ^ i * 2 ^ i := Int.mul_le_mul_of_nonneg_right q2 (by omega)
  have q5 : k / 2 ^ i / 2 * 2 * 2 ^ i = k / 2 ^ i / 2 * 2 ^ i * 2 := by rw [Int.mul_assoc, Int.mul_comm 2, ← Int.mul_assoc]
  have q6 : 0 ≤ k / 2 ^ i / 2 * 2 ^ i := Int.mul_nonneg q3 (by omega)
  have x1 : IntKind.u64.wrap (k / 2 ^ i / 2 * 2 ^ i) = k / 2 ^ i / 2 * 2 ^ i := IntWalk.u64_in _ (by omega)
  have x2 : IntKind.u64.wrap (k / 2 ^ i / 2 * 2 ^ i * 2) = k / 2 ^ i / 2 * 2 ^ (i + 1) := by
    rw [IntWalk.u64_in _ (by omega), Int.pow_succ, Int.mul_assoc]
  clear q0 q1 q2 q3 q4 q5 q6 hp a0 a1 b0 b1 e0 e1 f0 f1
  go_enter Try.func43, Try.ntmps43
  go_wp2_with fail
  go_region
  go_wp2
  go_ret
  have hx : Ext (w.alloc (.cells #[.int .u64 (k / 2 ^ i / 2 * 2 ^ (i + 1)), .int .i64 0, .int .i64 i, .pointer (some ⟨zb, 0, none⟩), .pointer (some ⟨ob, 0, none⟩), .int .i64 (mz + mo), .int .i64 (1 + max dz d')] 69)) _ := (Ext.refl _).drew
  exact ⟨w.heap.size, rfl, Cells.of_block (hx.block (heap_alloc_new w _)), ((Ext.refl w).alloc _).trans hx⟩
end Go.Proofs.Ytcdjhoejnjbgkaa
