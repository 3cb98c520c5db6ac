/- Both tables side by side; the contract of do: a flight that begins, those that join. -/
import Derived.Test.YtaanbgagdanalaaSmall
import Derived.Test.YtaanbgagdanalaaStarY
import Derived.Test.YtaanbgagdanalaaRStart
import Derived.Deep.RegionHeld3
namespace Go.Proofs.Ytaanbgagdanalaa
open Go.RowKit

/-- Both tables stand, apart from each other; nothing that lay in w0 has turned; and the blocks of B are as they are told. -/
structure Stage (w0 w : World) (tb : Nat) (O : List Nat) (s : Tab) (xb : Nat) (C : List Nat) (x : Tab) (B : List (Nat × List Value)) : Prop where
  t : TabR w0.heap.size w tb O s
  r : RTabR w0.heap.size w xb C x
  ap : Apart O C
  ext : Ext w0 w
  at_ : ∀ p ∈ B, p.1 < w.heap.size ∧ p.1 ∉ O ∧ p.1 ∉ C ∧ w.rangeAt p.1 0 p.2
section
variable {w0 w w' : World} {tb xb : Nat} {O C O' C' : List Nat} {s x s' x' : Tab} {B : List (Nat × List Value)} {v : Value} {e : Ending}
theorem Stage.turn1 (h : Stage w0 w tb O s xb C x B) (k : TabR w0.heap.size w' tb O' s') (ht : Turn O w w') (ho : Of O O' w) : Stage w0 w' tb O' s' xb C x B :=
  ⟨k, h.r.keep ht h.ap.symm, h.ap.of ho h.r.lies, Below.trans h.ext (ht.below (fun x hx => (h.t.lies x hx).1) h.ext.size), fun p hp => by
    obtain ⟨a1, a2, a3, a4⟩ := h.at_ p hp
    exact ⟨Nat.lt_of_lt_of_le a1 ht.size, fun e => (ho _ e).elim a2 fun e => by omega, a3, fun j u hu => ht.cell (a4 j u hu) a2⟩⟩
theorem Stage.turn2 (h : Stage w0 w tb O s xb C x B) (k : RTabR w0.heap.size w' xb C' x') (ht : Turn C w w') (ho : Of C C' w) : Stage w0 w' tb O s xb C' x' B :=
  ⟨h.t.keep ht h.ap, k, (h.ap.symm.of ho h.t.lies).symm, Below.trans h.ext (ht.below (fun x hx => (h.r.lies x hx).1) h.ext.size), fun p hp => by
    obtain ⟨a1, a2, a3, a4⟩ := h.at_ p hp
    exact ⟨Nat.lt_of_lt_of_le a1 ht.size, a2, fun e => (ho _ e).elim a3 fun e => by omega, fun j u hu => ht.cell (a4 j u hu) a3⟩⟩
theorem Stage.act (h : Stage w0 w tb O s xb C x B) (k : Act w0.heap.size w tb O s' v e w') : e = .returned v ∧ ∃ O', Hid (Stage w0 w' tb O' s' xb C x B) := by
  obtain ⟨h1, O', h2, h3, h4⟩ := k
  exact ⟨h1, O', Lib.hid (h.turn1 h2 h3 h4)⟩
theorem Stage.ract (h : Stage w0 w tb O s xb C x B) (k : RAct w0.heap.size w xb C x' v e w') : e = .returned v ∧ ∃ C', Hid (Stage w0 w' tb O s xb C' x' B) := by
  obtain ⟨h1, O', h2, h3, h4⟩ := k
  exact ⟨h1, O', Lib.hid (h.turn2 h2 h3 h4)⟩
theorem Stage.step (h : Stage w0 w tb O s xb C x B) (hx : Ext w w') : Stage w0 w' tb O s xb C x B :=
  ⟨h.t.ext hx, h.r.ext hx, h.ap, h.ext.trans hx, fun p hp => by
    obtain ⟨a1, a2, a3, a4⟩ := h.at_ p hp
    exact ⟨Nat.lt_of_lt_of_le a1 hx.size, a2, a3, fun j u hu => hx.cell (a4 j u hu)⟩⟩
theorem Stage.more (h : Stage w0 w tb O s xb C x B) {b : Nat} {cs : List Value} (hb : w.heap.size ≤ b) (hx : Ext w w') (hl : b < w'.heap.size) (hc : w'.rangeAt b 0 cs) : Stage w0 w' tb O s xb C x ((b, cs) :: B) := by
  have h2 := h.step hx
  refine ⟨h2.t, h2.r, h2.ap, h2.ext, fun p hp => ?_⟩
  rcases List.mem_cons.1 hp with rfl | hp
  · exact ⟨hl, fun e => by have := (h.t.lies _ e).2; simp at this; omega, fun e => by have := (h.r.lies _ e).2; simp at this; omega, hc⟩
  · exact h2.at_ p hp
theorem Stage.box (h : Stage w0 w tb O s xb C x B) (cs : Array Value) (ty : TypeId) : Stage w0 (w.alloc (.cells cs ty)) tb O s xb C x ((w.heap.size, cs.toList) :: B) := by
  refine h.more (Nat.le_refl _) ((Ext.refl w).alloc _) (by simp) fun j u hu => ?_
  rw [cell_of_row _ _ _ _ _ _ (heap_alloc_new w _)]
  simpa using hu
theorem Stage.less {b : Nat} {cs : List Value} (h : Stage w0 w tb O s xb C x ((b, cs) :: B)) : Stage w0 w tb O s xb C x B := ⟨h.t, h.r, h.ap, h.ext, fun p hp => h.at_ p (List.mem_cons_of_mem _ hp)⟩
theorem Stage.cell {b : Nat} {cs : List Value} (h : Stage w0 w tb O s xb C x ((b, cs) :: B)) (j : Nat) {u : Value} (hu : cs[j]? = some u) : w.cell? ⟨b, j, none⟩ = some u := by
  have := (h.at_ _ (List.mem_cons_self ..)).2.2.2 j u hu
  rwa [Nat.zero_add] at this
end

def agOp (a : Op) : Value := .agg #[.int .u8 a.kind, .int .i64 a.f.id, .string a.f.obj, .int .i64 a.f.fr, .int .i64 a.f.to, .string a.f.mt, .bool a.f.mw, .string a.f.nt, .bool a.f.nw, .int .i64 a.f.en, .int .i64 a.f.sa, .int .i64 a.f.mo, .int .i64 a.f.ge, .int .i64 a.f.pl, .bool a.f.he, .int .i64 a.id, .int .i64 a.who, .int .i64 a.en, .int .i64 a.n, .int .i64 a.to, .string a.obj]
/-- What a call makes of a table. -/
def Tab.step (t : Tab) (a : Op) : Tab :=
  if a.kind % 7 = 0 then (t.start a.f).1 else if a.kind % 7 = 1 then (t.join a.id a.who).1 else if a.kind % 7 = 2 then (t.leave a.who).1 else if a.kind % 7 = 3 then (t.quit a.id a.who).1
  else if a.kind % 7 = 4 then (t.hear a.id a.en a.n a.to).1 else if a.kind % 7 = 5 then (t.move a.id a.n).1 else (t.end_ a.id).1
def DoPost (w0 : World) (tb xb : Nat) (t' : Tab) (B : List (Nat × List Value)) (e : Ending) (w' : World) : Prop := e = .returned (.bool true) ∧ ∃ O' C', Stage w0 w' tb O' t' xb C' t' B

set_option maxHeartbeats 4000000 in
set_option maxRecDepth 100000 in
theorem do_start (w0 : World) (tb xb : Nat) (O C : List Nat) (t : Tab) (B : List (Nat × List Value)) (a : Op) (w : World) (h : Stage w0 w tb O t xb C t B) (hs : Small t) (hk : 0 ≤ a.kind ∧ a.kind < 256) (hr : a.kind % 7 = 0) :
    Calls Try.prog 18 #[.pointer (some ⟨tb, 0, none⟩), .pointer (some ⟨xb, 0, none⟩), agOp a] w (DoPost w0 tb xb (t.start a.f).1 B) := by
  unfold agOp
  have h1 := Lib.hid (h.box #[.int .u8 a.kind, .int .i64 a.f.id, .string a.f.obj, .int .i64 a.f.fr, .int .i64 a.f.to, .string a.f.mt, .bool a.f.mw, .string a.f.nt, .bool a.f.nw, .int .i64 a.f.en, .int .i64 a.f.sa, .int .i64 a.f.mo, .int .i64 a.f.ge, .int .i64 a.f.pl, .bool a.f.he, .int .i64 a.id, .int .i64 a.who, .int .i64 a.en, .int .i64 a.n, .int .i64 a.to, .string a.obj] 53)
  clear h
  go_enter Try.func18, Try.ntmps18
  go_wp2_with fail
  generalize w.alloc (.cells #[.int .u8 a.kind, .int .i64 a.f.id, .string a.f.obj, .int .i64 a.f.fr, .int .i64 a.f.to, .string a.f.mt, .bool a.f.mw, .string a.f.nt, .bool a.f.nw, .int .i64 a.f.en, .int .i64 a.f.sa, .int .i64 a.f.mo, .int .i64 a.f.ge, .int .i64 a.f.pl, .bool a.f.he, .int .i64 a.id, .int .i64 a.who, .int .i64 a.en, .int .i64 a.n, .int .i64 a.to, .string a.obj] 53) = wa at *
  refine (start_calls w0.heap.size tb O t a.f wa h1.out.t h1.out.ext.size hs).mono ?_
  intro e w1 k1
  obtain ⟨rfl, O1, h2⟩ := h1.out.act k1
  clear h1 k1
  have c1 : w1.cell? ⟨w.heap.size, 1, none⟩ = some (.int .i64 a.f.id) := h2.out.cell 1 rfl
  have c2 : w1.cell? ⟨w.heap.size, 2, none⟩ = some (.string a.f.obj) := h2.out.cell 2 rfl
  have c3 : w1.cell? ⟨w.heap.size, 3, none⟩ = some (.int .i64 a.f.fr) := h2.out.cell 3 rfl
  have c4 : w1.cell? ⟨w.heap.size, 4, none⟩ = some (.int .i64 a.f.to) := h2.out.cell 4 rfl
  have c5 : w1.cell? ⟨w.heap.size, 5, none⟩ = some (.string a.f.mt) := h2.out.cell 5 rfl
  have c6 : w1.cell? ⟨w.heap.size, 6, none⟩ = some (.bool a.f.mw) := h2.out.cell 6 rfl
  have c7 : w1.cell? ⟨w.heap.size, 7, none⟩ = some (.string a.f.nt) := h2.out.cell 7 rfl
  have c8 : w1.cell? ⟨w.heap.size, 8, none⟩ = some (.bool a.f.nw) := h2.out.cell 8 rfl
  have c9 : w1.cell? ⟨w.heap.size, 9, none⟩ = some (.int .i64 a.f.en) := h2.out.cell 9 rfl
  have c10 : w1.cell? ⟨w.heap.size, 10, none⟩ = some (.int .i64 a.f.sa) := h2.out.cell 10 rfl
  have c11 : w1.cell? ⟨w.heap.size, 11, none⟩ = some (.int .i64 a.f.mo) := h2.out.cell 11 rfl
  have c12 : w1.cell? ⟨w.heap.size, 12, none⟩ = some (.int .i64 a.f.ge) := h2.out.cell 12 rfl
  have c13 : w1.cell? ⟨w.heap.size, 13, none⟩ = some (.int .i64 a.f.pl) := h2.out.cell 13 rfl
  have c14 : w1.cell? ⟨w.heap.size, 14, none⟩ = some (.bool a.f.he) := h2.out.cell 14 rfl
  go_wp2_with fail
  refine (ref_calls a.f w1).mono ?_
  rintro e w2 ⟨rfl, hx⟩
  replace h2 := Lib.hid (h2.out.step hx)
  clear hx
  go_wp2_with fail
  refine (startR_calls w0.heap.size xb C t a.f w2 h2.out.r h2.out.ext.size hs).mono ?_
  intro e w3 k3
  obtain ⟨rfl, C3, h3⟩ := h2.out.ract k3
  clear k3 h2 c1 c2 c3 c4 c5 c6 c7 c8 c9 c10 c11 c12 c13 c14
  generalize (t.start a.f).2.1 = r1
  generalize (t.start a.f).2.2 = r2
  go_wp2
  go_ret
  exact ⟨by simp, _, _, h3.out.less⟩

set_option maxHeartbeats 4000000 in
set_option maxRecDepth 100000 in
theorem do_join (w0 : World) (tb xb : Nat) (O C : List Nat) (t : Tab) (B : List (Nat × List Value)) (a : Op) (w : World) (h : Stage w0 w tb O t xb C t B) (hs : Small t) (hk : 0 ≤ a.kind ∧ a.kind < 256) (hr : a.kind % 7 = 1) :
    Calls Try.prog 18 #[.pointer (some ⟨tb, 0, none⟩), .pointer (some ⟨xb, 0, none⟩), agOp a] w (DoPost w0 tb xb (t.join a.id a.who).1 B) := by
  unfold agOp
  have HS := Lib.hid (h.box #[.int .u8 a.kind, .int .i64 a.f.id, .string a.f.obj, .int .i64 a.f.fr, .int .i64 a.f.to, .string a.f.mt, .bool a.f.mw, .string a.f.nt, .bool a.f.nw, .int .i64 a.f.en, .int .i64 a.f.sa, .int .i64 a.f.mo, .int .i64 a.f.ge, .int .i64 a.f.pl, .bool a.f.he, .int .i64 a.id, .int .i64 a.who, .int .i64 a.en, .int .i64 a.n, .int .i64 a.to, .string a.obj] 53)
  have fA : ∀ W O C x, Hid (Stage w0 W tb O t xb C x ((w.heap.size, (#[.int .u8 a.kind, .int .i64 a.f.id, .string a.f.obj, .int .i64 a.f.fr, .int .i64 a.f.to, .string a.f.mt, .bool a.f.mw, .string a.f.nt, .bool a.f.nw, .int .i64 a.f.en, .int .i64 a.f.sa, .int .i64 a.f.mo, .int .i64 a.f.ge, .int .i64 a.f.pl, .bool a.f.he, .int .i64 a.id, .int .i64 a.who, .int .i64 a.en, .int .i64 a.n, .int .i64 a.to, .string a.obj] : Array Value).toList) :: B)) → Calls Try.prog 12 #[.pointer (some ⟨tb, 0, none⟩), .int .i64 a.id, .int .i64 a.who] W fun e w' => e = .returned (.int .i64 (t.join a.id a.who).2) ∧ ∃ O', Hid (Stage w0 w' tb O' (t.join a.id a.who).1 xb C x ((w.heap.size, (#[.int .u8 a.kind, .int .i64 a.f.id, .string a.f.obj, .int .i64 a.f.fr, .int .i64 a.f.to, .string a.f.mt, .bool a.f.mw, .string a.f.nt, .bool a.f.nw, .int .i64 a.f.en, .int .i64 a.f.sa, .int .i64 a.f.mo, .int .i64 a.f.ge, .int .i64 a.f.pl, .bool a.f.he, .int .i64 a.id, .int .i64 a.who, .int .i64 a.en, .int .i64 a.n, .int .i64 a.to, .string a.obj] : Array Value).toList) :: B)) := fun W O C x hh =>
    (join_calls w0.heap.size tb O t a.id a.who W hh.out.t hh.out.ext.size hs).mono fun e w' k => hh.out.act k
  have fB : ∀ W O C s, Hid (Stage w0 W tb O s xb C t ((w.heap.size, (#[.int .u8 a.kind, .int .i64 a.f.id, .string a.f.obj, .int .i64 a.f.fr, .int .i64 a.f.to, .string a.f.mt, .bool a.f.mw, .string a.f.nt, .bool a.f.nw, .int .i64 a.f.en, .int .i64 a.f.sa, .int .i64 a.f.mo, .int .i64 a.f.ge, .int .i64 a.f.pl, .bool a.f.he, .int .i64 a.id, .int .i64 a.who, .int .i64 a.en, .int .i64 a.n, .int .i64 a.to, .string a.obj] : Array Value).toList) :: B)) → Calls Try.prog 45 #[.pointer (some ⟨xb, 0, none⟩), .int .i64 a.id, .int .i64 a.who] W fun e w' => e = .returned (.int .i64 (t.join a.id a.who).2) ∧ ∃ C', Hid (Stage w0 w' tb O s xb C' (t.join a.id a.who).1 ((w.heap.size, (#[.int .u8 a.kind, .int .i64 a.f.id, .string a.f.obj, .int .i64 a.f.fr, .int .i64 a.f.to, .string a.f.mt, .bool a.f.mw, .string a.f.nt, .bool a.f.nw, .int .i64 a.f.en, .int .i64 a.f.sa, .int .i64 a.f.mo, .int .i64 a.f.ge, .int .i64 a.f.pl, .bool a.f.he, .int .i64 a.id, .int .i64 a.who, .int .i64 a.en, .int .i64 a.n, .int .i64 a.to, .string a.obj] : Array Value).toList) :: B)) := fun W O C s hh =>
    (joinR_calls w0.heap.size xb C t a.id a.who W hh.out.r hh.out.ext.size hs).mono fun e w' k => hh.out.ract k
  clear h hs
  generalize (t.join a.id a.who).1 = t' at *
  generalize (t.join a.id a.who).2 = r at *
  go_enter Try.func18, Try.ntmps18
  go_upto_region 7 with (fail)
  generalize w.alloc (.cells #[.int .u8 a.kind, .int .i64 a.f.id, .string a.f.obj, .int .i64 a.f.fr, .int .i64 a.f.to, .string a.f.mt, .bool a.f.mw, .string a.f.nt, .bool a.f.nw, .int .i64 a.f.en, .int .i64 a.f.sa, .int .i64 a.f.mo, .int .i64 a.f.ge, .int .i64 a.f.pl, .bool a.f.he, .int .i64 a.id, .int .i64 a.who, .int .i64 a.en, .int .i64 a.n, .int .i64 a.to, .string a.obj] 53) = wn at *
  have c15 : wn.cell? ⟨w.heap.size, 15, none⟩ = some (.int .i64 a.id) := HS.out.cell 15 rfl; have c16 : wn.cell? ⟨w.heap.size, 16, none⟩ = some (.int .i64 a.who) := HS.out.cell 16 rfl
  replace HS := Lib.hid (HS.out.step ((Ext.refl _).drew))
  go_region_held3 (fun w' => w'.cell? ⟨w.heap.size, 15, none⟩ = some (.int .i64 a.id) ∧ w'.cell? ⟨w.heap.size, 16, none⟩ = some (.int .i64 a.who)) (exact ⟨c15, c16⟩)
    (first
      | (go_at_call 12
         (with_reducible refine (fA _ _ _ _ HS).mono ?_)
         clear HS c15 c16
         rintro e wn ⟨rfl, O2, HS⟩
         have c15 : wn.cell? ⟨w.heap.size, 15, none⟩ = some (.int .i64 a.id) := HS.out.cell 15 rfl; have c16 : wn.cell? ⟨w.heap.size, 16, none⟩ = some (.int .i64 a.who) := HS.out.cell 16 rfl)
      | (go_at_call 45
         (with_reducible refine (fB _ _ _ _ HS).mono ?_)
         clear HS c15 c16
         rintro e wn ⟨rfl, O2, HS⟩
         have c15 : wn.cell? ⟨w.heap.size, 15, none⟩ = some (.int .i64 a.id) := HS.out.cell 15 rfl; have c16 : wn.cell? ⟨w.heap.size, 16, none⟩ = some (.int .i64 a.who) := HS.out.cell 16 rfl))
  all_goals
    go_wp2
    go_ret
    exact ⟨by simp, _, _, HS.out.less⟩

end Go.Proofs.Ytaanbgagdanalaa
