/- The contract of do: the other calls. -/
import Derived.Test.YtaanbgagdanalaaDo
import Derived.Test.YtaanbgagdanalaaRLeave
import Derived.Test.YtaanbgagdanalaaRHear
import Derived.Test.YtaanbgagdanalaaRMove
import Derived.Test.YtaanbgagdanalaaHear
namespace Go.Proofs.Ytaanbgagdanalaa
open Go.RowKit

theorem quitRR_calls (N tb : Nat) (O : List Nat) (t : Tab) (id q : Int) (w : World) (h : RTabR N w tb O t) (hN : N ≤ w.heap.size) (hs : Small t) :
    Calls Try.prog 48 #[.pointer (some ⟨tb, 0, none⟩), .int .i64 id, .int .i64 q] w (RAct N w tb O (t.quit id q).1 (.int .i64 (bI (t.quit id q).2))) := by
  obtain ⟨lv, h⟩ := h
  exact (quitR_calls N tb lv O t id q w h hN hs).mono fun _ _ k => k.act
theorem bI_one (r : Bool) : decide (bI r = 1) = r := by cases r <;> rfl

set_option maxHeartbeats 4000000 in
set_option maxRecDepth 100000 in
theorem do_quit (w0 : World) (tb xb : Nat) (O C : List Nat) (t : Tab) (B : List (Nat × List Value)) (a : Op) (w : World) (h : Stage w0 w tb O t xb C t B) (hs : Small t) (hk : 0 ≤ a.kind ∧ a.kind < 256) (hr : a.kind % 7 = 3) :
    Calls Try.prog 18 #[.pointer (some ⟨tb, 0, none⟩), .pointer (some ⟨xb, 0, none⟩), agOp a] w (DoPost w0 tb xb (t.quit a.id a.who).1 B) := by
  unfold agOp
  have HS := Lib.hid (h.box #[.int .u8 a.kind, .int .i64 a.f.id, .string a.f.obj, .int .i64 a.f.fr, .int .i64 a.f.to, .string a.f.mt, .bool a.f.mw, .string a.f.nt, .bool a.f.nw, .int .i64 a.f.en, .int .i64 a.f.sa, .int .i64 a.f.mo, .int .i64 a.f.ge, .int .i64 a.f.pl, .bool a.f.he, .int .i64 a.id, .int .i64 a.who, .int .i64 a.en, .int .i64 a.n, .int .i64 a.to, .string a.obj] 53)
  have fA : ∀ W O C x, Hid (Stage w0 W tb O t xb C x ((w.heap.size, (#[.int .u8 a.kind, .int .i64 a.f.id, .string a.f.obj, .int .i64 a.f.fr, .int .i64 a.f.to, .string a.f.mt, .bool a.f.mw, .string a.f.nt, .bool a.f.nw, .int .i64 a.f.en, .int .i64 a.f.sa, .int .i64 a.f.mo, .int .i64 a.f.ge, .int .i64 a.f.pl, .bool a.f.he, .int .i64 a.id, .int .i64 a.who, .int .i64 a.en, .int .i64 a.n, .int .i64 a.to, .string a.obj] : Array Value).toList) :: B)) → Calls Try.prog 47 #[.pointer (some ⟨tb, 0, none⟩), .int .i64 a.id, .int .i64 a.who] W fun e w' => e = .returned (.bool (t.quit a.id a.who).2) ∧ ∃ O', Hid (Stage w0 w' tb O' (t.quit a.id a.who).1 xb C x ((w.heap.size, (#[.int .u8 a.kind, .int .i64 a.f.id, .string a.f.obj, .int .i64 a.f.fr, .int .i64 a.f.to, .string a.f.mt, .bool a.f.mw, .string a.f.nt, .bool a.f.nw, .int .i64 a.f.en, .int .i64 a.f.sa, .int .i64 a.f.mo, .int .i64 a.f.ge, .int .i64 a.f.pl, .bool a.f.he, .int .i64 a.id, .int .i64 a.who, .int .i64 a.en, .int .i64 a.n, .int .i64 a.to, .string a.obj] : Array Value).toList) :: B)) := fun W O C x hh =>
    (quitT_calls w0.heap.size tb O t a.id a.who W hh.out.t hs).mono fun e w' k => hh.out.act k
  have fB : ∀ W O C s, Hid (Stage w0 W tb O s xb C t ((w.heap.size, (#[.int .u8 a.kind, .int .i64 a.f.id, .string a.f.obj, .int .i64 a.f.fr, .int .i64 a.f.to, .string a.f.mt, .bool a.f.mw, .string a.f.nt, .bool a.f.nw, .int .i64 a.f.en, .int .i64 a.f.sa, .int .i64 a.f.mo, .int .i64 a.f.ge, .int .i64 a.f.pl, .bool a.f.he, .int .i64 a.id, .int .i64 a.who, .int .i64 a.en, .int .i64 a.n, .int .i64 a.to, .string a.obj] : Array Value).toList) :: B)) → Calls Try.prog 48 #[.pointer (some ⟨xb, 0, none⟩), .int .i64 a.id, .int .i64 a.who] W fun e w' => e = .returned (.int .i64 (bI (t.quit a.id a.who).2)) ∧ ∃ C', Hid (Stage w0 w' tb O s xb C' (t.quit a.id a.who).1 ((w.heap.size, (#[.int .u8 a.kind, .int .i64 a.f.id, .string a.f.obj, .int .i64 a.f.fr, .int .i64 a.f.to, .string a.f.mt, .bool a.f.mw, .string a.f.nt, .bool a.f.nw, .int .i64 a.f.en, .int .i64 a.f.sa, .int .i64 a.f.mo, .int .i64 a.f.ge, .int .i64 a.f.pl, .bool a.f.he, .int .i64 a.id, .int .i64 a.who, .int .i64 a.en, .int .i64 a.n, .int .i64 a.to, .string a.obj] : Array Value).toList) :: B)) := fun W O C s hh =>
    (quitRR_calls w0.heap.size xb C t a.id a.who W hh.out.r hh.out.ext.size hs).mono fun e w' k => hh.out.ract k
  clear h hs
  generalize (t.quit a.id a.who).1 = t' at *
  generalize (t.quit a.id a.who).2 = r at *
  go_enter Try.func18, Try.ntmps18
  go_upto_region 11 with (fail)
  generalize w.alloc (.cells #[.int .u8 a.kind, .int .i64 a.f.id, .string a.f.obj, .int .i64 a.f.fr, .int .i64 a.f.to, .string a.f.mt, .bool a.f.mw, .string a.f.nt, .bool a.f.nw, .int .i64 a.f.en, .int .i64 a.f.sa, .int .i64 a.f.mo, .int .i64 a.f.ge, .int .i64 a.f.pl, .bool a.f.he, .int .i64 a.id, .int .i64 a.who, .int .i64 a.en, .int .i64 a.n, .int .i64 a.to, .string a.obj] 53) = wn at *
  have c15 : wn.cell? ⟨w.heap.size, 15, none⟩ = some (.int .i64 a.id) := HS.out.cell 15 rfl; have c16 : wn.cell? ⟨w.heap.size, 16, none⟩ = some (.int .i64 a.who) := HS.out.cell 16 rfl
  replace HS := Lib.hid (HS.out.step ((Ext.refl _).drew))
  go_region_held3 (fun w' => w'.cell? ⟨w.heap.size, 15, none⟩ = some (.int .i64 a.id) ∧ w'.cell? ⟨w.heap.size, 16, none⟩ = some (.int .i64 a.who)) (exact ⟨c15, c16⟩)
    (first
      | (go_at_call 47
         (with_reducible refine (fA _ _ _ _ HS).mono ?_)
         clear HS c15 c16
         rintro e wn ⟨rfl, O2, HS⟩
         have c15 : wn.cell? ⟨w.heap.size, 15, none⟩ = some (.int .i64 a.id) := HS.out.cell 15 rfl; have c16 : wn.cell? ⟨w.heap.size, 16, none⟩ = some (.int .i64 a.who) := HS.out.cell 16 rfl)
      | (go_at_call 48
         (with_reducible refine (fB _ _ _ _ HS).mono ?_)
         clear HS c15 c16
         rintro e wn ⟨rfl, O2, HS⟩
         have c15 : wn.cell? ⟨w.heap.size, 15, none⟩ = some (.int .i64 a.id) := HS.out.cell 15 rfl; have c16 : wn.cell? ⟨w.heap.size, 16, none⟩ = some (.int .i64 a.who) := HS.out.cell 16 rfl))
  all_goals
    go_wp2
    go_ret
    exact ⟨by cases r <;> simp [bI], _, _, HS.out.less⟩

set_option maxHeartbeats 4000000 in
set_option maxRecDepth 100000 in
theorem do_hear (w0 : World) (tb xb : Nat) (O C : List Nat) (t : Tab) (B : List (Nat × List Value)) (a : Op) (w : World) (h : Stage w0 w tb O t xb C t B) (hs : Small t) (hk : 0 ≤ a.kind ∧ a.kind < 256) (hr : a.kind % 7 = 4) :
    Calls Try.prog 18 #[.pointer (some ⟨tb, 0, none⟩), .pointer (some ⟨xb, 0, none⟩), agOp a] w (DoPost w0 tb xb (t.hear a.id a.en a.n a.to).1 B) := by
  unfold agOp
  have HS := Lib.hid (h.box #[.int .u8 a.kind, .int .i64 a.f.id, .string a.f.obj, .int .i64 a.f.fr, .int .i64 a.f.to, .string a.f.mt, .bool a.f.mw, .string a.f.nt, .bool a.f.nw, .int .i64 a.f.en, .int .i64 a.f.sa, .int .i64 a.f.mo, .int .i64 a.f.ge, .int .i64 a.f.pl, .bool a.f.he, .int .i64 a.id, .int .i64 a.who, .int .i64 a.en, .int .i64 a.n, .int .i64 a.to, .string a.obj] 53)
  have fA : ∀ W O C x, Hid (Stage w0 W tb O t xb C x ((w.heap.size, (#[.int .u8 a.kind, .int .i64 a.f.id, .string a.f.obj, .int .i64 a.f.fr, .int .i64 a.f.to, .string a.f.mt, .bool a.f.mw, .string a.f.nt, .bool a.f.nw, .int .i64 a.f.en, .int .i64 a.f.sa, .int .i64 a.f.mo, .int .i64 a.f.ge, .int .i64 a.f.pl, .bool a.f.he, .int .i64 a.id, .int .i64 a.who, .int .i64 a.en, .int .i64 a.n, .int .i64 a.to, .string a.obj] : Array Value).toList) :: B)) → Calls Try.prog 31 #[.pointer (some ⟨tb, 0, none⟩), .int .i64 a.id, .int .i64 a.en, .int .i64 a.n, .int .i64 a.to] W fun e w' => e = .returned (.int .i64 (t.hear a.id a.en a.n a.to).2) ∧ ∃ O', Hid (Stage w0 w' tb O' (t.hear a.id a.en a.n a.to).1 xb C x ((w.heap.size, (#[.int .u8 a.kind, .int .i64 a.f.id, .string a.f.obj, .int .i64 a.f.fr, .int .i64 a.f.to, .string a.f.mt, .bool a.f.mw, .string a.f.nt, .bool a.f.nw, .int .i64 a.f.en, .int .i64 a.f.sa, .int .i64 a.f.mo, .int .i64 a.f.ge, .int .i64 a.f.pl, .bool a.f.he, .int .i64 a.id, .int .i64 a.who, .int .i64 a.en, .int .i64 a.n, .int .i64 a.to, .string a.obj] : Array Value).toList) :: B)) := fun W O C x hh =>
    (hear_calls w0.heap.size tb O t a.id a.en a.n a.to W hh.out.t hs).mono fun e w' k => hh.out.act k
  have fB : ∀ W O C s, Hid (Stage w0 W tb O s xb C t ((w.heap.size, (#[.int .u8 a.kind, .int .i64 a.f.id, .string a.f.obj, .int .i64 a.f.fr, .int .i64 a.f.to, .string a.f.mt, .bool a.f.mw, .string a.f.nt, .bool a.f.nw, .int .i64 a.f.en, .int .i64 a.f.sa, .int .i64 a.f.mo, .int .i64 a.f.ge, .int .i64 a.f.pl, .bool a.f.he, .int .i64 a.id, .int .i64 a.who, .int .i64 a.en, .int .i64 a.n, .int .i64 a.to, .string a.obj] : Array Value).toList) :: B)) → Calls Try.prog 49 #[.pointer (some ⟨xb, 0, none⟩), .int .i64 a.id, .int .i64 a.en, .int .i64 a.n, .int .i64 a.to] W fun e w' => e = .returned (.int .i64 (t.hear a.id a.en a.n a.to).2) ∧ ∃ C', Hid (Stage w0 w' tb O s xb C' (t.hear a.id a.en a.n a.to).1 ((w.heap.size, (#[.int .u8 a.kind, .int .i64 a.f.id, .string a.f.obj, .int .i64 a.f.fr, .int .i64 a.f.to, .string a.f.mt, .bool a.f.mw, .string a.f.nt, .bool a.f.nw, .int .i64 a.f.en, .int .i64 a.f.sa, .int .i64 a.f.mo, .int .i64 a.f.ge, .int .i64 a.f.pl, .bool a.f.he, .int .i64 a.id, .int .i64 a.who, .int .i64 a.en, .int .i64 a.n, .int .i64 a.to, .string a.obj] : Array Value).toList) :: B)) := fun W O C s hh =>
    (hearR_calls w0.heap.size xb C t a.id a.en a.n a.to W hh.out.r hs).mono fun e w' k => hh.out.ract k
  clear h hs
  generalize (t.hear a.id a.en a.n a.to).1 = t' at *
  generalize (t.hear a.id a.en a.n a.to).2 = r at *
  go_enter Try.func18, Try.ntmps18
  go_upto_region 13 with (fail)
  generalize w.alloc (.cells #[.int .u8 a.kind, .int .i64 a.f.id, .string a.f.obj, .int .i64 a.f.fr, .int .i64 a.f.to, .string a.f.mt, .bool a.f.mw, .string a.f.nt, .bool a.f.nw, .int .i64 a.f.en, .int .i64 a.f.sa, .int .i64 a.f.mo, .int .i64 a.f.ge, .int .i64 a.f.pl, .bool a.f.he, .int .i64 a.id, .int .i64 a.who, .int .i64 a.en, .int .i64 a.n, .int .i64 a.to, .string a.obj] 53) = wn at *
  have c15 : wn.cell? ⟨w.heap.size, 15, none⟩ = some (.int .i64 a.id) := HS.out.cell 15 rfl; have c17 : wn.cell? ⟨w.heap.size, 17, none⟩ = some (.int .i64 a.en) := HS.out.cell 17 rfl; have c18 : wn.cell? ⟨w.heap.size, 18, none⟩ = some (.int .i64 a.n) := HS.out.cell 18 rfl; have c19 : wn.cell? ⟨w.heap.size, 19, none⟩ = some (.int .i64 a.to) := HS.out.cell 19 rfl
  replace HS := Lib.hid (HS.out.step ((Ext.refl _).drew))
  go_region_held3 (fun w' => w'.cell? ⟨w.heap.size, 15, none⟩ = some (.int .i64 a.id) ∧ w'.cell? ⟨w.heap.size, 17, none⟩ = some (.int .i64 a.en) ∧ w'.cell? ⟨w.heap.size, 18, none⟩ = some (.int .i64 a.n) ∧ w'.cell? ⟨w.heap.size, 19, none⟩ = some (.int .i64 a.to)) (exact ⟨c15, c17, c18, c19⟩)
    (first
      | (go_at_call 31
         (with_reducible refine (fA _ _ _ _ HS).mono ?_)
         clear HS c15 c17 c18 c19
         rintro e wn ⟨rfl, O2, HS⟩
         have c15 : wn.cell? ⟨w.heap.size, 15, none⟩ = some (.int .i64 a.id) := HS.out.cell 15 rfl; have c17 : wn.cell? ⟨w.heap.size, 17, none⟩ = some (.int .i64 a.en) := HS.out.cell 17 rfl; have c18 : wn.cell? ⟨w.heap.size, 18, none⟩ = some (.int .i64 a.n) := HS.out.cell 18 rfl; have c19 : wn.cell? ⟨w.heap.size, 19, none⟩ = some (.int .i64 a.to) := HS.out.cell 19 rfl)
      | (go_at_call 49
         (with_reducible refine (fB _ _ _ _ HS).mono ?_)
         clear HS c15 c17 c18 c19
         rintro e wn ⟨rfl, O2, HS⟩
         have c15 : wn.cell? ⟨w.heap.size, 15, none⟩ = some (.int .i64 a.id) := HS.out.cell 15 rfl; have c17 : wn.cell? ⟨w.heap.size, 17, none⟩ = some (.int .i64 a.en) := HS.out.cell 17 rfl; have c18 : wn.cell? ⟨w.heap.size, 18, none⟩ = some (.int .i64 a.n) := HS.out.cell 18 rfl; have c19 : wn.cell? ⟨w.heap.size, 19, none⟩ = some (.int .i64 a.to) := HS.out.cell 19 rfl))
  all_goals
    go_wp2
    go_ret
    exact ⟨by simp, _, _, HS.out.less⟩

set_option maxHeartbeats 4000000 in
set_option maxRecDepth 100000 in
theorem do_move (w0 : World) (tb xb : Nat) (O C : List Nat) (t : Tab) (B : List (Nat × List Value)) (a : Op) (w : World) (h : Stage w0 w tb O t xb C t B) (hs : Small t) (hk : 0 ≤ a.kind ∧ a.kind < 256) (hr : a.kind % 7 = 5) :
    Calls Try.prog 18 #[.pointer (some ⟨tb, 0, none⟩), .pointer (some ⟨xb, 0, none⟩), agOp a] w (DoPost w0 tb xb (t.move a.id a.n).1 B) := by
  unfold agOp
  have HS := Lib.hid (h.box #[.int .u8 a.kind, .int .i64 a.f.id, .string a.f.obj, .int .i64 a.f.fr, .int .i64 a.f.to, .string a.f.mt, .bool a.f.mw, .string a.f.nt, .bool a.f.nw, .int .i64 a.f.en, .int .i64 a.f.sa, .int .i64 a.f.mo, .int .i64 a.f.ge, .int .i64 a.f.pl, .bool a.f.he, .int .i64 a.id, .int .i64 a.who, .int .i64 a.en, .int .i64 a.n, .int .i64 a.to, .string a.obj] 53)
  have fA : ∀ W O C x, Hid (Stage w0 W tb O t xb C x ((w.heap.size, (#[.int .u8 a.kind, .int .i64 a.f.id, .string a.f.obj, .int .i64 a.f.fr, .int .i64 a.f.to, .string a.f.mt, .bool a.f.mw, .string a.f.nt, .bool a.f.nw, .int .i64 a.f.en, .int .i64 a.f.sa, .int .i64 a.f.mo, .int .i64 a.f.ge, .int .i64 a.f.pl, .bool a.f.he, .int .i64 a.id, .int .i64 a.who, .int .i64 a.en, .int .i64 a.n, .int .i64 a.to, .string a.obj] : Array Value).toList) :: B)) → Calls Try.prog 32 #[.pointer (some ⟨tb, 0, none⟩), .int .i64 a.id, .int .i64 a.n] W fun e w' => e = .returned (.int .i64 (t.move a.id a.n).2) ∧ ∃ O', Hid (Stage w0 w' tb O' (t.move a.id a.n).1 xb C x ((w.heap.size, (#[.int .u8 a.kind, .int .i64 a.f.id, .string a.f.obj, .int .i64 a.f.fr, .int .i64 a.f.to, .string a.f.mt, .bool a.f.mw, .string a.f.nt, .bool a.f.nw, .int .i64 a.f.en, .int .i64 a.f.sa, .int .i64 a.f.mo, .int .i64 a.f.ge, .int .i64 a.f.pl, .bool a.f.he, .int .i64 a.id, .int .i64 a.who, .int .i64 a.en, .int .i64 a.n, .int .i64 a.to, .string a.obj] : Array Value).toList) :: B)) := fun W O C x hh =>
    (move_calls w0.heap.size tb O t a.id a.n W hh.out.t hs).mono fun e w' k => hh.out.act k
  have fB : ∀ W O C s, Hid (Stage w0 W tb O s xb C t ((w.heap.size, (#[.int .u8 a.kind, .int .i64 a.f.id, .string a.f.obj, .int .i64 a.f.fr, .int .i64 a.f.to, .string a.f.mt, .bool a.f.mw, .string a.f.nt, .bool a.f.nw, .int .i64 a.f.en, .int .i64 a.f.sa, .int .i64 a.f.mo, .int .i64 a.f.ge, .int .i64 a.f.pl, .bool a.f.he, .int .i64 a.id, .int .i64 a.who, .int .i64 a.en, .int .i64 a.n, .int .i64 a.to, .string a.obj] : Array Value).toList) :: B)) → Calls Try.prog 50 #[.pointer (some ⟨xb, 0, none⟩), .int .i64 a.id, .int .i64 a.n] W fun e w' => e = .returned (.int .i64 (t.move a.id a.n).2) ∧ ∃ C', Hid (Stage w0 w' tb O s xb C' (t.move a.id a.n).1 ((w.heap.size, (#[.int .u8 a.kind, .int .i64 a.f.id, .string a.f.obj, .int .i64 a.f.fr, .int .i64 a.f.to, .string a.f.mt, .bool a.f.mw, .string a.f.nt, .bool a.f.nw, .int .i64 a.f.en, .int .i64 a.f.sa, .int .i64 a.f.mo, .int .i64 a.f.ge, .int .i64 a.f.pl, .bool a.f.he, .int .i64 a.id, .int .i64 a.who, .int .i64 a.en, .int .i64 a.n, .int .i64 a.to, .string a.obj] : Array Value).toList) :: B)) := fun W O C s hh =>
    (moveR_calls w0.heap.size xb C t a.id a.n W hh.out.r hs).mono fun e w' k => hh.out.ract k
  clear h hs
  generalize (t.move a.id a.n).1 = t' at *
  generalize (t.move a.id a.n).2 = r at *
  go_enter Try.func18, Try.ntmps18
  go_upto_region 15 with (fail)
  generalize w.alloc (.cells #[.int .u8 a.kind, .int .i64 a.f.id, .string a.f.obj, .int .i64 a.f.fr, .int .i64 a.f.to, .string a.f.mt, .bool a.f.mw, .string a.f.nt, .bool a.f.nw, .int .i64 a.f.en, .int .i64 a.f.sa, .int .i64 a.f.mo, .int .i64 a.f.ge, .int .i64 a.f.pl, .bool a.f.he, .int .i64 a.id, .int .i64 a.who, .int .i64 a.en, .int .i64 a.n, .int .i64 a.to, .string a.obj] 53) = wn at *
  have c15 : wn.cell? ⟨w.heap.size, 15, none⟩ = some (.int .i64 a.id) := HS.out.cell 15 rfl; have c18 : wn.cell? ⟨w.heap.size, 18, none⟩ = some (.int .i64 a.n) := HS.out.cell 18 rfl
  replace HS := Lib.hid (HS.out.step ((Ext.refl _).drew))
  go_region_held3 (fun w' => w'.cell? ⟨w.heap.size, 15, none⟩ = some (.int .i64 a.id) ∧ w'.cell? ⟨w.heap.size, 18, none⟩ = some (.int .i64 a.n)) (exact ⟨c15, c18⟩)
    (first
      | (go_at_call 32
         (with_reducible refine (fA _ _ _ _ HS).mono ?_)
         clear HS c15 c18
         rintro e wn ⟨rfl, O2, HS⟩
         have c15 : wn.cell? ⟨w.heap.size, 15, none⟩ = some (.int .i64 a.id) := HS.out.cell 15 rfl; have c18 : wn.cell? ⟨w.heap.size, 18, none⟩ = some (.int .i64 a.n) := HS.out.cell 18 rfl)
      | (go_at_call 50
         (with_reducible refine (fB _ _ _ _ HS).mono ?_)
         clear HS c15 c18
         rintro e wn ⟨rfl, O2, HS⟩
         have c15 : wn.cell? ⟨w.heap.size, 15, none⟩ = some (.int .i64 a.id) := HS.out.cell 15 rfl; have c18 : wn.cell? ⟨w.heap.size, 18, none⟩ = some (.int .i64 a.n) := HS.out.cell 18 rfl))
  all_goals
    go_wp2
    go_ret
    exact ⟨by simp, _, _, HS.out.less⟩
end Go.Proofs.Ytaanbgagdanalaa
