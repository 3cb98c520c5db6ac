/- The contracts of the index's Get, Bytes and New. -/
import Derived.Test.YtgcplndmhlideaaGreatIxa
import Derived.Deep.RegionHeld3
namespace Go.Proofs.YtgcplndmhlideaaGreat
open Go.RowKit

theorem cell_blk {w : World} {b : Nat} {cs : Array Value} {t : TypeId} (h : w.heap[b]? = some (.cells cs t (0, 0))) (i : Nat) {u : Value} (hi : cs[i]? = some u) : w.cell? ⟨b, i, none⟩ = some u := by
  rw [cell_of_row _ _ i _ _ _ h]; exact hi
def I64 (n : Int) : Prop := -9223372036854775808 ≤ n ∧ n ≤ 9223372036854775807
/-- A number as an index's maps are asked for it. -/
theorem get_key {u : Int} {x : Ix} (hf : Fit u x) (v n : Int) (hn : I64 n) :
    ∃ k : Nat, IntKind.u64.wrap n = (k : Int) ∧ k < 2 ^ 64 ∧ (0 ≤ n → (k : Int) = n) ∧ getL k (itemsOf x.L v) = (getS x.L v n).map fun s => ⟨s.b, s.c⟩ := by
  obtain ⟨h1, h2⟩ := hn
  by_cases h0 : 0 ≤ n
  · refine ⟨n.toNat, by rw [IntWalk.u64_in _ (by omega)]; omega, by omega, fun _ => by omega, get_items hf.ok v n h0⟩
  · have hw : IntKind.u64.wrap n = n + 18446744073709551616 := by rw [IntKind.wrap_u64]; omega
    refine ⟨(n + 18446744073709551616).toNat, by rw [hw]; omega, by omega, fun h => absurd h h0, ?_⟩
    have e1 : getS x.L v n = none := getS_none.2 fun s hs ⟨_, h⟩ => by have := (hf.ok.ok s hs).2.2.1; omega
    rw [e1, Option.map_none, getL_none']
    intro e he hk
    obtain ⟨s, hs, _, a, _⟩ := (mem_items hf.ok.dis hf.ok.n0 v e).1 he
    have := (hf.ok.ok s hs).2.2.2.1
    omega
theorem itget_calls (p : Mp) (l : List (Pr It)) (k : Nat) (w : World) (h : ItAt w p l) (hk : k < 2 ^ 64) :
    Calls Tryz.prog 35 #[.agg #[.pointer p], .int .u64 k] w fun e w' => e = .returned (It.getV (getL k l)) ∧ Ext w w' := by
  obtain ⟨t, a, b, rfl⟩ := h
  have := It.mget_calls p t k w a b hk
  have e : It.getO k t = getL k (Nd.oL t) := by rw [← getO_getL t b k]; cases t <;> rfl
  rw [e] at this
  exact this
/-- What Get tells. -/
def gotV (o : Option Sl) : Value := match o with
  | some s => .tuple #[.int .i64 s.b, .int .i64 s.c, .bool true]
  | none => .tuple #[.int .i64 0, .int .i64 0, .bool false]


set_option maxRecDepth 100000 in
theorem xbytes_calls (xb : Nat) (u : Int) (x : Ix) (w : World) (h : IxAt w xb u x) : Calls Tryz.prog 19 #[.pointer (some ⟨xb, 0, none⟩)] w fun e w' => e = .returned (.int .i64 (sumS x.L)) ∧ Ext w w' := by
  obtain ⟨p, q, lv, hb, _⟩ := h
  have c4 : w.cell? ⟨xb, 4, none⟩ = some (.int .i64 (sumS x.L)) := cell_blk hb 4 rfl
  generalize sumS x.L = t at *
  clear hb
  go_enter Tryz.func19, Tryz.ntmps19
  go_wp2
  go_ret
  exact ⟨rfl, Ext.refl w⟩
end Go.Proofs.YtgcplndmhlideaaGreat
