/- The index's Of, and the law's of. -/
import Derived.Test.YtgcplndmhlideaaGreatOfc
namespace Go.Proofs.YtgcplndmhlideaaGreat
open Go.RowKit

def XofPost (w : World) (l : List (Pr It)) (e : Ending) (w' : World) : Prop := ∃ mb pm, e = .returned (.func (.func 46) #[] #[.pointer (some ⟨mb, 0, none⟩)]) ∧ w'.heap[mb]? = some (.cells #[.pointer pm] 81 (0, 0)) ∧ ItAt w pm l ∧ Ext w w'
set_option maxRecDepth 100000 in
theorem xof_calls (r : Option Addr) (v : Int) (l : List (Pr It)) (w0 w : World) (hO : OfAt w0 r v l) (h0 : Ext w0 w) : Calls Tryz.prog 28 #[.pointer r, .int .i64 v] w (fun e w' => ∃ mb pm, e = .returned (.func (.func 46) #[] #[.pointer (some ⟨mb, 0, none⟩)]) ∧ w'.heap[mb]? = some (.cells #[.pointer pm] 81 (0, 0)) ∧ ItAt w0 pm l ∧ Ext w w') := by
  have hmf : ∀ (fn : Fn) (first cap : Array Value) (w : World), (Instr.makeFunc fn first cap).run Tryz.prog w = .ok (.func fn first cap) w := fun _ _ _ _ => rfl
  have HO := Lib.hid hO
  clear hO
  go_enter Tryz.func28, Tryz.ntmps28
  go_wp2_with fail
  refine (HO.out w h0).mono ?_
  rintro e w1 ⟨pm, rfl, hit, hx1⟩
  go_wp2
  go_ret
  exact ⟨w1.heap.size, pm, rfl, heap_alloc_new w1 _, hit, hx1.alloc _⟩
def NosPost (w : World) (l : List (Pr It)) (e : Ending) (w' : World) : Prop := ∃ v, e = .returned v ∧ w'.ownsRow w.heap.size 2 1 v l.length (l.map noV) ∧ Ext w w'
set_option maxRecDepth 100000 in
theorem lawof_calls (r : Option Addr) (v : Int) (l : List (Pr It)) (w : World) (hO : OfAt w r v l) (hl : l.length ≤ 1000) : Calls Tryz.prog 9 #[.pointer r, .int .i64 v] w (NosPost w l) := by
  have hmf : ∀ (fn : Fn) (first cap : Array Value) (w : World), (Instr.makeFunc fn first cap).run Tryz.prog w = .ok (.func fn first cap) w := fun _ _ _ _ => rfl
  have hx0 : Ext w (w.alloc (.cells #[.slice none 0 0] 31)) := (Ext.refl w).alloc _
  have bO := Boxed.new w 31 (.slice none 0 0)
  have HX := Lib.hid (xof_calls r v l w _ hO hx0)
  have HL := Lib.hid hl
  have HX0 := Lib.hid hx0
  have HBO := Lib.hid bO
  clear hO hl hx0 bO
  go_enter Tryz.func9, Tryz.ntmps9
  go_wp2_with fail
  refine HX.out.mono ?_
  rintro e w1 ⟨mb, pm, rfl, hmb, hit, hx1⟩
  have hsz := hx1.size
  simp only [World.size_alloc] at hsz
  have HOF := Lib.hid (ofc_calls 29 10000 (by omega) of1_calls (enters_of Tryz.func29 (by kernel_rfl) rfl) w w1 w.heap.size w.heap.size mb pm l (HX0.out.trans hx1) (Nat.le_refl _) (Nat.le_refl _) (by omega) hit HL.out hmb ⟨_, hx1.block HBO.out, World.ownsRow_nil _ _ _ _⟩)
  have ht : l.take 10000 = l := List.take_of_length_le (by have := HL.out; omega)
  have HT := Lib.hid ht
  have HX1 := Lib.hid (HX0.out.trans hx1)
  clear ht hmb hit hx1
  go_wp2_with fail
  refine HOF.out.mono ?_
  rintro e w2 ⟨rfl, ⟨v', h1, h2⟩, h3⟩
  have hc := h1.cell
  rw [HT.out] at h2
  have HX2 := Lib.hid (Below.trans HX1.out h3)
  clear h1 h3 hsz
  go_wp2
  go_ret
  exact ⟨v', rfl, by simpa using h2, HX2.out⟩
end Go.Proofs.YtgcplndmhlideaaGreat
