/- The door in memory; the contracts of shut, Has, Ask, Bytes. -/
import Derived.Test.YtmcddajniiaieaaDoorLadd
import Derived.Test.YtmcddajniiaieaaDoorBook
import Derived.Test.YtmcddajniiaieaaDoorSkn
namespace Go.Proofs.YtmcddajniiaieaaDoor
open Go.RowKit

/-- A thing: its key, its bytes, its tenant, the name by which it is counted. -/
structure Th where
  k : Int
  n : Int
  t : Bool
  u : Int
def Th.cells (x : Th) : List Value := [.int .i64 x.k, .int .i64 x.n, .string (nmB x.t), .int .u64 x.u]
def Th.val (x : Th) : Value := .agg #[.int .i64 x.k, .int .i64 x.n, .string (nmB x.t), .int .u64 x.u]
structure Dr where
  lb : Nat
  bb : Nat
  sb : Nat
  tm : Nat
  ls : Ls
  bk : Bk
  m : Int
  D : List Th
structure DrAt (w : World) (B db c : Nat) (S : Int) (d : Dr) : Prop where
  blk : w.heap[db]? = some (.cells #[.int .i64 (2 * S), .int .i64 S, .pointer (some ⟨d.bb, 0, none⟩), .pointer (some ⟨d.lb, 0, none⟩), .pointer (some ⟨d.sb, 0, none⟩), .map (some d.tm)] 63 (0, 0))
  db : B ≤ db
  bk : BkAt w B d.bb c S d.bk
  ls : LsAt w B d.lb c d.ls
  sk : SkAt w B d.sb d.m
  tm : B ≤ d.tm
  map : ∃ f, MapV Tryd.prog 2 w d.tm c f ∧ (∀ x ∈ d.D, f (kI x.k) = some x.val) ∧ ∀ kl v, f kl = some v → ∃ x ∈ d.D, kl = kI x.k
  kd : (d.D.map Th.k).Nodup
  same : ∀ k, (∃ x ∈ d.D, x.k = k) ↔ ∃ y ∈ d.ls.all, y.k = k
  small : ∀ x ∈ d.D, I64 x.k ∧ (1 ≤ x.n ∧ x.n ≤ 1099511627776) ∧ 0 ≤ x.u ∧ x.u < 18446744073709551616
  ap1 : d.ls.m ≠ some d.tm
  ap2 : d.bk.m ≠ some d.tm
  ap3 : ∀ a, d.ls.m = some a → d.bk.m ≠ some a
  S1 : 1 ≤ S ∧ S ≤ 1000
  cc : c ≤ 800
def drTs : List TypeId := [97, 108, 91]
def Dr.maps (d : Dr) : List Nat := d.tm :: d.ls.m.toList ++ d.bk.m.toList
section
variable {w w' : World} {B db c : Nat} {S : Int} {d : Dr}
theorem LsAt.mono {lb : Nat} {s : Ls} (h : LsAt w B lb c s) {e : Nat} (he : c ≤ e) : LsAt w B lb e s := ⟨h.core, h.lb, h.own, h.kd, h.keys, Nat.le_trans h.len he, h.most0, by
  rcases h.map with hm | ⟨m, hm, hB, f, h1, h2⟩
  · exact .inl hm
  · exact .inr ⟨m, hm, hB, f, h1.mono he, h2⟩⟩
theorem DrAt.ext (h : DrAt w B db c S d) (hx : Ext w w') : DrAt w' B db c S d := ⟨hx.block h.blk, h.db, h.bk.ext hx, h.ls.ext hx, h.sk.ext hx, h.tm, by
  obtain ⟨f, h1, h2⟩ := h.map
  exact ⟨f, h1.ext hx, h2⟩, h.kd, h.same, h.small, h.ap1, h.ap2, h.ap3, h.S1, h.cc⟩
theorem DrAt.mono (h : DrAt w B db c S d) {e : Nat} (he : c ≤ e) (h8 : e ≤ 800) : DrAt w B db e S d := ⟨h.blk, h.db, h.bk.mono he, h.ls.mono he, h.sk, h.tm, by
  obtain ⟨f, h1, h2⟩ := h.map
  exact ⟨f, h1.mono he, h2⟩, h.kd, h.same, h.small, h.ap1, h.ap2, h.ap3, h.S1, h8⟩
/-- Is a key in? -/
def Dr.has (d : Dr) (k : Int) : Bool := d.D.any fun x => x.k == k
theorem Dr.has_iff (d : Dr) (k : Int) : d.has k = true ↔ ∃ x ∈ d.D, x.k = k := by simp [Dr.has]
theorem zeroTh (w : World) : (zeroValue 39).run Tryd.prog w = .ok (.agg #[.int .i64 0, .int .i64 0, .string ⟨#[]⟩, .int .u64 0]) w := by kernel_rfl
/-- What asking for a key brings forth. -/
theorem DrAt.look (h : DrAt w B db c S d) {k : Int} (hk : I64 k) :
    (∃ x ∈ d.D, x.k = k ∧ d.has k = true ∧ (Instr.lookup 61 (.map (some d.tm)) (.int .i64 k) true).run Tryd.prog w = .ok (.tuple #[x.val, .bool true]) w ∧ (Instr.lookup 61 (.map (some d.tm)) (.int .i64 k) false).run Tryd.prog w = .ok x.val w) ∨
    (d.has k = false ∧ (Instr.lookup 61 (.map (some d.tm)) (.int .i64 k) true).run Tryd.prog w = .ok (.tuple #[.agg #[.int .i64 0, .int .i64 0, .string ⟨#[]⟩, .int .u64 0], .bool false]) w) := by
  obtain ⟨f, h1, h2, h3⟩ := h.map
  rw [h1.look_ok (Maps.int_keyed Tryd.underlying2) Tryd.underlying61 (zeroTh w) (key_mk hk), h1.look (Maps.int_keyed Tryd.underlying2) Tryd.underlying61 (zeroTh w) (key_mk hk)]
  cases hf : f (kI k) with
  | none =>
    refine .inr ⟨?_, rfl⟩
    cases hh : d.has k
    · rfl
    · obtain ⟨x, hx, e⟩ := (d.has_iff k).1 hh
      have := h2 x hx
      rw [e, hf] at this
      cases this
  | some v =>
    obtain ⟨x, hx, e⟩ := h3 _ _ hf
    have e2 : x.k = k := by unfold kI at e; cases e; rfl
    have := h2 x hx
    rw [e2, hf] at this
    cases this
    exact .inl ⟨x, hx, e2, (d.has_iff k).2 ⟨x, hx, e2⟩, rfl, rfl⟩
end
theorem dmapSome (m : Nat) (w : World) : (binOp .eql 61 (.map (some m)) (.map none)).run Tryd.prog w = .ok (.bool false) w := by kernel_rfl

set_option maxRecDepth 100000 in
theorem shut_calls (B db c : Nat) (S : Int) (d : Dr) (w : World) (h : DrAt w B db c S d) : Calls Tryd.prog 18 #[.pointer (some ⟨db, 0, none⟩)] w fun e w' => e = .returned (.bool false) ∧ w' = w := by
  have l5 : w.cell? ⟨db, 5, none⟩ = some (.map (some d.tm)) := blk_cell h.blk 5 rfl
  have hm := dmapSome
  obtain ⟨m, hm'⟩ : ∃ m, d.tm = m := ⟨_, rfl⟩
  rw [hm'] at l5
  clear h hm'
  go_enter Tryd.func18, Tryd.ntmps18
  go_wp2
  go_ret
  exact ⟨rfl, rfl⟩
set_option maxRecDepth 100000 in
theorem has_calls (B db c : Nat) (S : Int) (d : Dr) (k : Int) (w : World) (h : DrAt w B db c S d) (hk : I64 k) : Calls Tryd.prog 10 #[.pointer (some ⟨db, 0, none⟩), .int .i64 k] w fun e w' => e = .returned (.bool (d.has k)) ∧ Ext w w' := by
  have l5 : w.cell? ⟨db, 5, none⟩ = some (.map (some d.tm)) := blk_cell h.blk 5 rfl
  have HS := Lib.hid (shut_calls B db c S d w h)
  rcases h.look hk with ⟨x, hx, e, hh, h1, -⟩ | ⟨hh, h1⟩
  · rw [hh]
    obtain ⟨m, hm'⟩ : ∃ m, d.tm = m := ⟨_, rfl⟩
    rw [hm'] at l5 h1
    unfold Th.val at h1
    clear h hm' hk
    go_enter Tryd.func10, Tryd.ntmps10
    go_wp2_with fail
    refine HS.out.mono ?_
    rintro e w1 ⟨rfl, rfl⟩
    go_wp2
    go_ret
    exact ⟨rfl, (Ext.refl _).alloc _⟩
  · rw [hh]
    obtain ⟨m, hm'⟩ : ∃ m, d.tm = m := ⟨_, rfl⟩
    rw [hm'] at l5 h1
    clear h hm' hk
    go_enter Tryd.func10, Tryd.ntmps10
    go_wp2_with fail
    refine HS.out.mono ?_
    rintro e w1 ⟨rfl, rfl⟩
    go_wp2
    go_ret
    exact ⟨rfl, (Ext.refl _).alloc _⟩
end Go.Proofs.YtmcddajniiaieaaDoor
