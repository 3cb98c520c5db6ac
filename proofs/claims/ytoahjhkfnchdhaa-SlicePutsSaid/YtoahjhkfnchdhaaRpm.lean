/- The reference's buffer in memory; the contract of its New. -/
import Derived.Test.YtoahjhkfnchdhaaRpl
import Derived.Test.YtoahjhkfnchdhaaRefq
import Derived.Test.YtoahjhkfnchdhaaBufb
namespace Go.Proofs.Ytoahjhkfnchdhaa
open Go.RowKit

def intsL (l : List Int) : List Value := l.map fun n => .int .i64 n
theorem intsL_length (l : List Int) : (intsL l).length = l.length := by simp [intsL]
theorem ints_plain (l : List Int) : ∀ u ∈ intsL l, u.oneCell' = true := by
  intro u hu
  simp only [intsL, List.mem_map] at hu
  obtain ⟨b, _, rfl⟩ := hu
  rfl
def IntsAt (w : World) (A : Option Addr) (l : List Int) : Prop := ∀ k (hk : k < l.length), ∃ b o, A = some ⟨b, o, none⟩ ∧ w.cell? ⟨b, o + k, none⟩ = some (.int .i64 l[k])
theorem IntsAt.ext {w w' : World} {A : Option Addr} {l : List Int} (h : IntsAt w A l) (hx : Ext w w') : IntsAt w' A l := fun k hk => by
  obtain ⟨b, o, e, p⟩ := h k hk
  exact ⟨b, o, e, hx.cell p⟩
theorem IntsAt.at_ {w : World} {A : Option Addr} {l : List Int} (h : IntsAt w A l) (h0 : 0 < l.length) : ∃ b o, A = some ⟨b, o, none⟩ ∧ ∀ k (hk : k < l.length), w.cell? ⟨b, o + k, none⟩ = some (.int .i64 l[k]) := by
  obtain ⟨b, o, e, _⟩ := h 0 h0
  refine ⟨b, o, e, fun k hk => ?_⟩
  obtain ⟨b', o', e', p⟩ := h k hk
  rw [e] at e'
  cases e'
  exact p
theorem ints_of_own {w : World} {base : Nat} {e : TypeId} {A : Option Addr} {n c : Nat} {l : List Int} (h : w.ownsRow base e 1 (.slice A n c) n (intsL l)) : IntsAt w A l := fun k hk => by
  have hn : n = l.length := by have := h.1; rw [intsL_length] at this; omega
  subst hn
  obtain ⟨g, cap, hv, _, _⟩ := h.form (by omega)
  cases hv
  refine ⟨g, 0, rfl, ?_⟩
  rw [Nat.zero_add, h.cellAt _ (by omega)]
  simp [intsL, hk]
theorem ints_reads {w : World} {A : Option Addr} {l : List Int} (h : IntsAt w A l) : Reads w w.heap.size 1 A l.length (intsL l) := by
  refine ⟨by rw [intsL_length, Nat.mul_one], fun h0 => ?_⟩
  obtain ⟨b, o, rfl, hp⟩ := h.at_ h0
  refine ⟨_, rfl, block_of_cell (hp 0 h0), fun j u hu => ?_⟩
  have hj : j < l.length := by rw [← intsL_length]; exact (List.getElem?_eq_some_iff.1 hu).1
  rw [add_plain]
  simp only [intsL, List.getElem?_map, List.getElem?_eq_getElem hj, Option.map_some, Option.some.injEq] at hu
  rw [← hu]
  exact hp j hj
theorem infoInt : (Try.prog.info? 3).map (fun i => (i.zero, i.size, i.bytes)) = some (some (.int .i64 0), 1, 8) := by kernel_rfl
/-- The reference's buffer: its struct and its list from lo on, the list in another block than the struct. -/
def RbAt (lo : Nat) (w : World) (rb : Nat) (R : Rb) : Prop :=
  ∃ A c, w.heap[rb]? = some (.cells #[.int .i64 R.no, .int .i64 R.u, .int .i64 R.n, .slice A R.bs.length c] 75 (0, 0)) ∧ lo ≤ rb ∧ IntsAt w A R.bs ∧ (∀ b o, A = some ⟨b, o, none⟩ → 0 < R.bs.length → lo ≤ b ∧ b ≠ rb)
theorem RbAt.ext {lo : Nat} {w w' : World} {rb : Nat} {R : Rb} (h : RbAt lo w rb R) (hx : Ext w w') : RbAt lo w' rb R := by
  obtain ⟨A, c, h1, h2, h3, h4⟩ := h
  exact ⟨A, c, hx.block h1, h2, h3.ext hx, h4⟩
theorem RbAt.chg {lo l h' : Nat} {w w' : World} {rb : Nat} {R : Rb} (h : RbAt lo w rb R) (hx : Chg l h' w w') (hl : h' ≤ lo) : RbAt lo w' rb R := by
  obtain ⟨A, c, h1, h2, h3, h4⟩ := h
  refine ⟨A, c, (hx.block rb (Array.getElem?_eq_some_iff.1 h1).1 (.inr (by omega))).trans h1, h2, fun k hk => ?_, h4⟩
  obtain ⟨b, o, e, p⟩ := h3 k hk
  have := (h4 b o e (by omega)).1
  exact ⟨b, o, e, hx.cell p (.inr (by show h' ≤ b; omega))⟩
def RbPost (lo : Nat) (w : World) (rb : Nat) (v : Value) (R' : Rb) (e : Ending) (w' : World) : Prop := e = .returned v ∧ Hid (RbAt lo w' rb R') ∧ Chg rb (rb + 1) w w'

theorem own_keep_set {w : World} {base : Nat} {e t : TypeId} {size n b i : Nat} {v : Value} {xs : List Value} {cs : Array Value} {fr : Nat × Nat} (h : w.ownsRow base e size v n xs) (hb : w.heap[b]? = some (.cells cs t fr)) (hte : t ≠ e) (u : Value) : (w.setCell ⟨b, i, none⟩ u).ownsRow base e size v n xs :=
  h.kept (grownBy_setCell'' w b i u) (.inr fun e1 => by
    rcases h.2 with ⟨rfl, _⟩ | ⟨g, cap, cur, rfl, _, hgb, _⟩
    · simp [Value.ownBlock] at e1
    · obtain rfl : g = b := by simpa [Value.ownBlock] using e1
      rw [hb] at hgb
      cases hgb
      exact hte rfl)
theorem intsL_snoc (k : Nat) (x : Int) : intsL (List.replicate (k + 1) x) = intsL (List.replicate k x) ++ [.int .i64 x] := by
  unfold intsL
  rw [List.replicate_succ', List.map_append]
  rfl
def RefNewPost (w : World) (no u n : Int) (e : Ending) (w' : World) : Prop :=
  Ext w w' ∧ if spanOk no u n = true then ∃ rb, e = .returned (.tuple #[.pointer (some ⟨rb, 0, none⟩), .bool true]) ∧ Hid (RbAt w.heap.size w' rb ⟨no, u, n, List.replicate u.toNat (-1)⟩) ∧ rb < w'.heap.size
    else e = .returned (.tuple #[.pointer none, .bool false])

set_option maxHeartbeats 4000000 in
set_option maxRecDepth 100000 in
theorem refnew_calls (no u n : Int) (hu : u ≤ 64) (w : World) :
    Calls Try.prog 22 #[.int .i64 no, .int .i64 u, .int .i64 n] w (RefNewPost w no u n) := by
  have hs := refspan_calls no u n w
  cases eO : spanOk no u n
  · have h0 : spanS no u n = ⟨0, 0⟩ := by unfold spanS; rw [eO]; rfl
    rw [h0] at hs
    have HS := Lib.hid hs
    have HO := Lib.hid eO
    clear hs h0 eO
    go_enter Try.func22, Try.ntmps22
    go_wp2_with fail
    refine HS.out.mono ?_
    rintro e w1 ⟨rfl, hx⟩
    go_wp2
    go_ret2
    exact ⟨hx.alloc _, by rw [HO.out]; rfl⟩
  · have h0 : spanS no u n = ⟨no * u, cutE no u n⟩ := by unfold spanS; rw [eO]; rfl
    obtain ⟨c0, c1, c2, c3, _, c5, _⟩ := cut_bounds eO
    rw [h0] at hs
    have hP : ∀ e w', Ext w w' → (∃ rb, e = .returned (.tuple #[.pointer (some ⟨rb, 0, none⟩), .bool true]) ∧ Hid (RbAt w.heap.size w' rb ⟨no, u, n, List.replicate u.toNat (-1)⟩) ∧ rb < w'.heap.size) → RefNewPost w no u n e w' := fun e w' hx h => ⟨hx, by rw [if_pos eO]; exact h⟩
    obtain ⟨F, hF⟩ : ∃ F, no * u = F := ⟨_, rfl⟩
    obtain ⟨T, hT⟩ : ∃ T, cutE no u n = T := ⟨_, rfl⟩
    rw [hF, hT] at hs
    rw [hF, hT] at c1
    have hne : (F == T) = false := beq_eq_false_iff_ne.2 (by omega)
    have HS := Lib.hid hs
    have HP := Lib.hid hP
    clear hs hP h0 eO c0 c2 c3 hF hT
    go_enter Try.func22, Try.ntmps22
    go_wp2_with fail
    refine HS.out.mono ?_
    rintro e w1 ⟨rfl, hx⟩
    clear HS
    go_wp2
    have hxa : Ext w ((w1.alloc (.cells #[.int .i64 F, .int .i64 T] 24)).alloc (.cells #[.int .i64 no, .int .i64 u, .int .i64 n, .slice none 0 0] 75)) := (hx.alloc _).alloc _
    have hb := heap_alloc_new (w1.alloc (.cells #[.int .i64 F, .int .i64 T] 24)) (.cells #[.int .i64 no, .int .i64 u, .int .i64 n, .slice none 0 0] 75)
    have hsz := hx.size
    rw [World.size_alloc] at hb
    generalize ((w1.alloc (.cells #[.int .i64 F, .int .i64 T] 24)).alloc (.cells #[.int .i64 no, .int .i64 u, .int .i64 n, .slice none 0 0] 75)) = w2 at *
    generalize hrb : w1.heap.size + 1 = rb at *
    have hrw : w.heap.size ≤ rb := by omega
    clear hsz hrb hx
    go_loopw [10] (fun i wr => ∃ (k : Nat) (A : Option Addr) (c : Nat), (k : Int) ≤ u ∧ i = .int .i64 k ∧ wr.heap[rb]? = some (.cells #[.int .i64 no, .int .i64 u, .int .i64 n, .slice A k c] 75 (0, 0)) ∧ wr.ownsRow w.heap.size 3 1 (.slice A k c) k (intsL (List.replicate k (-1))) ∧ Ext w wr) (fun i _ => (u - intOf i).toNat)
    case atStart => exact ⟨0, none, 0, by omega, rfl, hb, World.ownsRow_nil _ _ _ _, hxa⟩
    case round =>
      clear hb hxa
      obtain ⟨k, A, c, hk, rfl, hb, hown, hxw⟩ := hrel
      have r3 : wr.cell? ⟨rb, 3, none⟩ = some (.slice A k c) := by rw [cell_of_block hb]; rfl
      have hsz := hxw.size
      by_cases hlt : (k : Int) < u
      · have HBR := Lib.hid hb
        clear hb
        go_wp2_with (at_builtin; refine wpList_append_new _ rfl _ _ 73 rfl w.heap.size 3 _ 1 8 Try.underlying73 infoInt rfl (by omega) (.slice A k c) _ _ rfl hown 1 1 _ rfl _ rfl rfl (by simp [Value.oneCell']) (by simp [maxLen]; omega) (by omega) hsz ?_; intro v1 w4 hown4 hm4; obtain ⟨A4, c4, rfl, _⟩ := own_shape hown4; have hb4 := far_block hown HBR.out (by decide) hm4; have q3 : w4.cell? ⟨rb, 3, none⟩ = some (.slice A k c) := (by rw [cell_of_block hb4]; rfl); have f3 : w4.frozen? ⟨rb, 3, none⟩ = false := frozen_of_block hb4 3; have HB4 := Lib.hid hb4; have hx4 := ext_moved hxw hown hm4; clear hb4 HBR)
        go_roundw
        case rel =>
          refine ⟨k + 1, A4, c4, by omega, by go_num, ?_, ?_, hx4.setCell (by show w.heap.size ≤ rb; omega) _⟩
          · rw [heap_setCell_same _ _ _ _ _ _ HB4.out]; rfl
          · rw [intsL_snoc]
            exact own_keep_set hown4 HB4.out (by decide) _
        case measure => simp [intOf]; omega
      · have hku : u.toNat = k := by omega
        clear hlt
        have hlt2 : ¬ (k : Int) < u := by omega
        go_wp2
        go_ret2
        refine HP.out _ _ hxw ⟨rb, rfl, Lib.hid ⟨A, c, ?_, hrw, ?_, fun b o e h0 => ?_⟩, (Array.getElem?_eq_some_iff.1 hb).1⟩
        · rw [hku]; simpa using hb
        · rw [hku]; exact ints_of_own hown
        · subst e
          refine ⟨(hown.lt b rfl).1, fun e2 => ?_⟩
          subst e2
          rcases hown.2 with ⟨h, _⟩ | ⟨g, cap, cur, h, _, hgb, _⟩
          · cases h
          · cases h
            rw [hb] at hgb
            cases hgb
end Go.Proofs.Ytoahjhkfnchdhaa
