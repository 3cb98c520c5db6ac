/- The contracts of same and of Who. -/
import Derived.Test.YtaanbgagdanalaaRuns
import Derived.Laws.StructEq
namespace Go.Proofs.Ytaanbgagdanalaa
open Go.RowKit

theorem eql28 (o : ByteArray) (f t : Int) (m : ByteArray) (mw : Bool) (n : ByteArray) (nw : Bool) (w : World) :
    (binOp .eql 28 (.agg #[.string o, .int .i64 f, .int .i64 t, .string m, .bool mw, .string n, .bool nw]) (.agg #[.string o, .int .i64 f, .int .i64 t, .string m, .bool mw, .string n, .bool nw])).run Try.prog w = .ok (.bool true) w := by
  have h1 : Try.prog.underlying 28 = some (.struct (Try.prog.fieldsOf 28)) := by kernel_rfl
  have h2 : Try.prog.stoodInHeld 28 = false := by kernel_rfl
  rw [run_eql_struct, run_equalIn_agg _ _ _ _ _ h1 h2]
  simp [go_sem]
theorem guard28 : Try.prog.eqGuardType Try.prog.depth 28 = false := by kernel_rfl

set_option maxHeartbeats 2000000 in
set_option maxRecDepth 100000 in
theorem same_calls (f : Fl) (A : Option Addr) (n c : Nat) (w : World) : Calls Try.prog 22 #[agF f, agR f (.slice A n c)] w fun e w' => e = .returned (.bool true) ∧ Ext w w' := by
  unfold agF agR
  have hb := fun w => eql28 f.obj f.fr f.to f.mt f.mw f.nt f.nw w
  have hg := guard28
  cases e1 : f.he
  · rw [show heI f = 0 from by simp [heI, e1]]
    go_enter Try.func22, Try.ntmps22
    go_wp2
    go_ret
    exact ⟨rfl, ((Ext.refl w).alloc _).alloc _⟩
  · rw [show heI f = 1 from by simp [heI, e1]]
    go_enter Try.func22, Try.ntmps22
    go_wp2
    go_ret
    exact ⟨rfl, ((Ext.refl w).alloc _).alloc _⟩

def WhoPost (w : World) (l : List Int) (e : Ending) (w' : World) : Prop := ∃ v, e = .returned v ∧ w'.ownsRow w.heap.size 3 1 v l.length (l.map (Value.int .i64)) ∧ Ext w w'
def Tab.who (t : Tab) (id : Int) : List Int := match place t.l id with | none => [] | some i => t.l[i]!.who
theorem rowI_reads {w : World} {A : Option Addr} {l : List Int} (h : RowI w A l) : Reads w w.heap.size 1 A l.length (l.map (Value.int .i64)) := by
  refine ⟨by simp, fun hn => ?_⟩
  obtain ⟨g, hA, h0⟩ := h 0 hn
  refine ⟨⟨g, 0, none⟩, hA, ?_, fun j u hu => ?_⟩
  · have := block_of_cell h0; exact this
  · have hj : j < l.length := by have := (List.getElem?_eq_some_iff.1 hu).1; simpa using this
    obtain ⟨g2, hA2, h2⟩ := h j hj
    rw [hA] at hA2
    injection hA2 with e1
    injection e1 with e1
    subst e1
    rw [show (⟨g, 0, none⟩ : Addr).add j = ⟨g, j, none⟩ from by unfold Addr.add; split <;> simp_all, h2, ← hu]
    simp [hj]
theorem ints_one (l : List Int) : ∀ u ∈ l.map (Value.int .i64), u.oneCell' = true := fun u hu => by
  obtain ⟨x, _, rfl⟩ := List.mem_map.1 hu
  rfl

set_option maxHeartbeats 2000000 in
set_option maxRecDepth 100000 in
theorem who_calls (N tb : Nat) (O : List Nat) (t : Tab) (id : Int) (w : World) (h : TabR N w tb O t) (hs : Small t) :
    Calls Try.prog 23 #[.pointer (some ⟨tb, 0, none⟩), .int .i64 id] w (WhoPost w (t.who id)) := by
  unfold Tab.who
  cases hp : place t.l id with
  | none =>
    have hf := find_none N tb O t id w h hs hp
    clear h hs hp
    dsimp only
    go_enter Try.func23, Try.ntmps23
    go_wp2_with fail
    refine hf.mono ?_
    rintro e w1 ⟨rfl, rfl⟩
    go_wp2
    go_ret
    exact ⟨_, rfl, World.ownsRow_nil _ _ _ _, Ext.refl _⟩
  | some i =>
    obtain ⟨y, ey, hy, hfi, hf, hu⟩ := find_some N tb O t id w h hs hp
    have c15 := hy.cell 15 (u := y.v) rfl
    obtain ⟨_, A, c, hv, hc, hri⟩ := row_ints hy.row
    have hR := rowI_reads hri
    have hwl := hfi.1
    rw [hv] at c15
    dsimp only
    rw [ey]
    clear h hs hp ey hy hfi hu hri hv hc
    generalize y.b = b at *
    generalize y.f.who = l at *
    have hown0 : w.ownsRow w.heap.size 3 1 (.slice none 0 0) 0 [] := World.ownsRow_nil _ _ _ _
    have hone := ints_one l
    go_enter Try.func23, Try.ntmps23
    go_wp2_with fail
    refine hf.mono ?_
    rintro e w1 ⟨rfl, rfl⟩
    go_wp2_with (at_builtin; refine wpList_append_src _ rfl _ _ 22 rfl w1.heap.size 3 _ 1 8 Try.underlying22 info3 rfl (by omega) (.slice none 0 0) 0 [] rfl hown0 _ _ _ _ _ rfl hR hone (by simp [maxLen]; omega) (by omega) (Nat.le_refl _) ?_; intro v1 w2 hown2 hm1; have HX2 := Lib.hid (ext_moved (Ext.refl _) hown0 hm1); rw [Nat.zero_add, List.nil_append] at hown2; have HO := Lib.hid hown2; obtain ⟨A1, k1, rfl, _⟩ := own_shape hown2; clear hown2 hm1)
    go_ret
    exact ⟨_, rfl, HO.out, HX2.out⟩
end Go.Proofs.Ytaanbgagdanalaa
