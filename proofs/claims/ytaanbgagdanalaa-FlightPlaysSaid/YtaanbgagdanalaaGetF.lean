/- The contract of Get. -/
import Derived.Test.YtaanbgagdanalaaLawLeaves
import Derived.Laws.ResultCell
namespace Go.Proofs.Ytaanbgagdanalaa
open Go.RowKit

theorem results_cell_tmp_mid {P : Program} {fn : Func} {p u : Tmp} {ty : TypeId} (h : fn.results = #[.cell p ty, .tmp u]) (tmps : Array Value) (w : World) (g o : Nat) (cs : List Value) (d : TypeDesc)
    (hp : tmps.getD p undef = .pointer (some ⟨g, o, none⟩)) (hg : w.rangeAt g o cs) (hu : P.underlying ty = some d) (hd : d.isRow = true) (hi : (P.info? ty).map (·.size) = some cs.length) :
    (results fn tmps).run P w = .ok (.tuple #[.agg cs.toArray, tmps.getD u undef]) w := by
  rw [results_cell_tmp h, hp]
  simp only [asAddr, Sem.run_pure, Result.andThen_ok, run_loadVar_mid w g o ty cs d hg hu hd hi]

def FZ : Fl := ⟨0, ⟨#[]⟩, 0, 0, ⟨#[]⟩, false, ⟨#[]⟩, false, 0, 0, 0, 0, 0, false, 0, []⟩
def Tab.get (t : Tab) (id : Int) : Fl × Bool := match place t.l id with | none => (FZ, false) | some i => (t.l[i]!, true)

set_option maxHeartbeats 2000000 in
set_option maxRecDepth 100000 in
theorem get_calls (N tb : Nat) (O : List Nat) (t : Tab) (id : Int) (w : World) (h : TabR N w tb O t) (hs : Small t) :
    Calls Try.prog 29 #[.pointer (some ⟨tb, 0, none⟩), .int .i64 id] w fun e w' => e = .returned (.tuple #[agF (t.get id).1, .bool (t.get id).2]) ∧ Ext w w' := by
  unfold Tab.get
  have hx0 : Ext w (w.alloc (.cells #[.int .i64 0, .string ⟨#[]⟩, .int .i64 0, .int .i64 0, .string ⟨#[]⟩, .bool false, .string ⟨#[]⟩, .bool false, .int .i64 0, .int .i64 0, .int .i64 0, .int .i64 0, .int .i64 0, .bool false] 30)) := (Ext.refl w).alloc _
  have ht : (w.alloc (.cells #[.int .i64 0, .string ⟨#[]⟩, .int .i64 0, .int .i64 0, .string ⟨#[]⟩, .bool false, .string ⟨#[]⟩, .bool false, .int .i64 0, .int .i64 0, .int .i64 0, .int .i64 0, .int .i64 0, .bool false] 30)).there w.heap.size 0 14 := there_of_block (heap_alloc_new w _) rfl
  have h' := h.ext hx0
  cases hp : place t.l id with
  | none =>
    have hf := find_none N tb O t id _ h' hs hp
    have hr := World.rangeAt_setCells_same _ w.heap.size 0 (#[.int .i64 0, .string ⟨#[]⟩, .int .i64 0, .int .i64 0, .string ⟨#[]⟩, .bool false, .string ⟨#[]⟩, .bool false, .int .i64 0, .int .i64 0, .int .i64 0, .int .i64 0, .int .i64 0, .bool false] : Array Value).toList ht
    have hx : Ext w ((w.alloc (.cells #[.int .i64 0, .string ⟨#[]⟩, .int .i64 0, .int .i64 0, .string ⟨#[]⟩, .bool false, .string ⟨#[]⟩, .bool false, .int .i64 0, .int .i64 0, .int .i64 0, .int .i64 0, .int .i64 0, .bool false] 30)).setCells w.heap.size 0 (#[.int .i64 0, .string ⟨#[]⟩, .int .i64 0, .int .i64 0, .string ⟨#[]⟩, .bool false, .string ⟨#[]⟩, .bool false, .int .i64 0, .int .i64 0, .int .i64 0, .int .i64 0, .int .i64 0, .bool false] : Array Value).toList) := ext_setCells hx0 (Nat.le_refl _)
    dsimp only
    clear h hs hp h' hx0
    go_enter Try.func29, Try.ntmps29
    go_wp2_with fail
    refine hf.mono ?_
    rintro e w1 ⟨rfl, rfl⟩
    have HR := Lib.hid hr
    have HX := Lib.hid hx
    clear hr hx hf
    go_wp2_with (refine wpList_store_mid rfl 30 _ _ rfl w.heap.size 0 #[.int .i64 0, .string ⟨#[]⟩, .int .i64 0, .int .i64 0, .string ⟨#[]⟩, .bool false, .string ⟨#[]⟩, .bool false, .int .i64 0, .int .i64 0, .int .i64 0, .int .i64 0, .int .i64 0, .bool false] rfl rfl ht size30 (by simp [Value.oneCell']) ?_)
    exact bodyPost_ret (results_cell_tmp_mid rfl _ _ w.heap.size 0 _ _ rfl HR.out Try.underlying30 rfl size30) rfl ⟨rfl, HX.out⟩
  | some i =>
    obtain ⟨y, ey, hy, hfi, hf, hu⟩ := find_some N tb O t id _ h' hs hp
    have hra : (w.alloc (.cells #[.int .i64 0, .string ⟨#[]⟩, .int .i64 0, .int .i64 0, .string ⟨#[]⟩, .bool false, .string ⟨#[]⟩, .bool false, .int .i64 0, .int .i64 0, .int .i64 0, .int .i64 0, .int .i64 0, .bool false] 30)).rangeAt y.b 0 [.int .i64 y.f.id, .string y.f.obj, .int .i64 y.f.fr, .int .i64 y.f.to, .string y.f.mt, .bool y.f.mw, .string y.f.nt, .bool y.f.nw, .int .i64 y.f.en, .int .i64 y.f.sa, .int .i64 y.f.mo, .int .i64 y.f.ge, .int .i64 y.f.pl, .bool y.f.he] := fun j u hju => by
      rw [Nat.zero_add, cell_of_row _ _ _ _ _ _ hy.blk]
      have hj : j < 14 := (List.getElem?_eq_some_iff.1 hju).1
      rw [← hju]
      match j, hj with
      | 0, _ | 1, _ | 2, _ | 3, _ | 4, _ | 5, _ | 6, _ | 7, _ | 8, _ | 9, _ | 10, _ | 11, _ | 12, _ | 13, _ => rfl
    have hr := World.rangeAt_setCells_same _ w.heap.size 0 (#[.int .i64 y.f.id, .string y.f.obj, .int .i64 y.f.fr, .int .i64 y.f.to, .string y.f.mt, .bool y.f.mw, .string y.f.nt, .bool y.f.nw, .int .i64 y.f.en, .int .i64 y.f.sa, .int .i64 y.f.mo, .int .i64 y.f.ge, .int .i64 y.f.pl, .bool y.f.he] : Array Value).toList ht
    have hx : Ext w ((w.alloc (.cells #[.int .i64 0, .string ⟨#[]⟩, .int .i64 0, .int .i64 0, .string ⟨#[]⟩, .bool false, .string ⟨#[]⟩, .bool false, .int .i64 0, .int .i64 0, .int .i64 0, .int .i64 0, .int .i64 0, .bool false] 30)).setCells w.heap.size 0 (#[.int .i64 y.f.id, .string y.f.obj, .int .i64 y.f.fr, .int .i64 y.f.to, .string y.f.mt, .bool y.f.mw, .string y.f.nt, .bool y.f.nw, .int .i64 y.f.en, .int .i64 y.f.sa, .int .i64 y.f.mo, .int .i64 y.f.ge, .int .i64 y.f.pl, .bool y.f.he] : Array Value).toList) := ext_setCells hx0 (Nat.le_refl _)
    dsimp only
    rw [ey]
    clear h hs hp h' hx0 ey hy hfi hu
    generalize y.b = b at *
    go_enter Try.func29, Try.ntmps29
    go_wp2_with fail
    refine hf.mono ?_
    rintro e w1 ⟨rfl, rfl⟩
    have HR := Lib.hid hr
    have HX := Lib.hid hx
    clear hr hx hf
    go_wp2_with (first | (refine wpList_load_mid rfl 30 _ rfl b 0 (by rfl) _ _ hra Try.underlying30 rfl size30 ?_) | (refine wpList_store_mid rfl 30 _ _ rfl w.heap.size 0 #[.int .i64 y.f.id, .string y.f.obj, .int .i64 y.f.fr, .int .i64 y.f.to, .string y.f.mt, .bool y.f.mw, .string y.f.nt, .bool y.f.nw, .int .i64 y.f.en, .int .i64 y.f.sa, .int .i64 y.f.mo, .int .i64 y.f.ge, .int .i64 y.f.pl, .bool y.f.he] rfl rfl ht size30 (by simp [Value.oneCell']) ?_))
    exact bodyPost_ret (results_cell_tmp_mid rfl _ _ w.heap.size 0 _ _ rfl HR.out Try.underlying30 rfl size30) rfl ⟨rfl, HX.out⟩
end Go.Proofs.Ytaanbgagdanalaa
