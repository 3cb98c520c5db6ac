/- The document's index: its slices in memory; the contracts of its Get and Bytes. -/
import Derived.Test.YtgcplndmhlideaaGreatIforg
import Derived.Test.YtgcplndmhlideaaGreatWords
import Derived.Laws.StructEq
namespace Go.Proofs.YtgcplndmhlideaaGreat
open Go.RowKit

def Sl.cells (s : Sl) : List Value := [.int .i64 s.v, .int .i64 s.n, .int .i64 s.b, .int .i64 s.c]
def slsV (L : List Sl) : List Value := L.flatMap Sl.cells
theorem slsV_cons (s : Sl) (L : List Sl) : slsV (s :: L) = s.cells ++ slsV L := by simp [slsV]
theorem slsV_append (L M : List Sl) : slsV (L ++ M) = slsV L ++ slsV M := by simp [slsV]
theorem slsV_one (s : Sl) : slsV [s] = s.cells := by simp [slsV]
theorem slsV_length (L : List Sl) : (slsV L).length = L.length * 4 := by
  induction L with
  | nil => rfl
  | cons s L ih => rw [slsV_cons, List.length_append, ih, List.length_cons]; show 4 + _ = _; omega
theorem slsV_get (L : List Sl) (k j : Nat) (h : k < L.length) (hj : j < 4) : (slsV L)[k * 4 + j]? = (L[k].cells)[j]? := by
  induction L generalizing k with
  | nil => simp at h
  | cons r L ih =>
    have h4 : r.cells.length = 4 := rfl
    rw [slsV_cons]
    rcases k with _ | k
    · rw [List.getElem?_append_left (by rw [h4]; omega)]
      simp
    · rw [List.getElem?_append_right (by rw [h4]; omega), h4, show (k + 1) * 4 + j - 4 = k * 4 + j from by omega, ih k (by simpa using h)]
      simp
theorem slsV_plain (L : List Sl) : ∀ u ∈ slsV L, u.oneCell' = true := by
  intro u hu
  simp only [slsV, List.mem_flatMap] at hu
  obtain ⟨r, _, hr⟩ := hu
  simp only [Sl.cells, List.mem_cons, List.not_mem_nil, or_false] at hr
  rcases hr with rfl | rfl | rfl | rfl <;> rfl
theorem infoSl : (Tryz.prog.info? 84).map (fun i => (i.zero, i.size, i.bytes)) = some (some (.agg #[.int .i64 0, .int .i64 0, .int .i64 0, .int .i64 0]), 4, 32) := by kernel_rfl
/-- The document's list, in a row that nobody turns. -/
def RowS (w : World) (N : Nat) (v : Value) (L : List Sl) : Prop := w.ownsRow N 84 4 v L.length (slsV L)
section
variable {w w' : World} {N N' : Nat} {v : Value} {L : List Sl}
theorem RowS.ext (h : RowS w N v L) (hx : Ext w w') : RowS w' N v L := ownsRow_ext h hx
theorem RowS.less (h : RowS w N v L) (hn : N' ≤ N) : RowS w N' v L := by
  refine ⟨h.1, ?_⟩
  rcases h.2 with h2 | ⟨g, cap, cur, hv, hg, r⟩
  · exact .inl h2
  · exact .inr ⟨g, cap, cur, hv, by omega, r⟩
theorem RowS.chx {xb : Nat} (h : RowS w N v L) (hx : Chx xb w w') (hn : xb < N) : RowS w' N v L := by
  refine ⟨h.1, ?_⟩
  rcases h.2 with h2 | ⟨g, cap, cur, hv, hg, hh, r⟩
  · exact .inl h2
  · exact .inr ⟨g, cap, cur, hv, hg, (hx.block g (Array.getElem?_eq_some_iff.1 hh).1 (by simp; omega)).trans hh, r⟩
theorem RowS.at_ {A : Option Addr} {n c : Nat} (h : RowS w N (.slice A n c) L) : n = L.length ∧ ∀ k (hk : k < L.length), ∃ b, A = some ⟨b, 0, none⟩ ∧ w.cell? ⟨b, k * 4, none⟩ = some (.int .i64 L[k].v) ∧ w.cell? ⟨b, k * 4 + 1, none⟩ = some (.int .i64 L[k].n) ∧ w.cell? ⟨b, k * 4 + 2, none⟩ = some (.int .i64 L[k].b) ∧ w.cell? ⟨b, k * 4 + 3, none⟩ = some (.int .i64 L[k].c) := by
  have hn : n = L.length := by
    rcases h.2 with ⟨h1, h2⟩ | ⟨g, cap, cur, h1, _⟩
    · injection h1 with _ h1 _; omega
    · injection h1 with _ h1 _
  refine ⟨hn, fun k hk => ?_⟩
  have h' : w.ownsRow N 84 4 (.slice A n c) L.length (slsV L) := h
  obtain ⟨g, cap, hv, _, _⟩ := h'.form (by omega)
  cases hv
  have hg := fun j (hj : j < 4) => slsV_get L k j hk hj
  refine ⟨g, rfl, ?_, ?_, ?_, ?_⟩
  · have := h'.cellAt (k * 4) (by omega); rw [this]; exact (hg 0 (by omega)).trans rfl
  · have := h'.cellAt (k * 4 + 1) (by omega); rw [this]; exact (hg 1 (by omega)).trans rfl
  · have := h'.cellAt (k * 4 + 2) (by omega); rw [this]; exact (hg 2 (by omega)).trans rfl
  · have := h'.cellAt (k * 4 + 3) (by omega); rw [this]; exact (hg 3 (by omega)).trans rfl
theorem RowS.nil (w : World) (N : Nat) : RowS w N (.slice none 0 0) [] := World.ownsRow_nil _ _ _ _
end
theorem neqName (a b a' b' : Int) (w : World) : (binOp .neq 58 (.agg #[.int .i64 a, .int .i64 b]) (.agg #[.int .i64 a', .int .i64 b'])).run Tryz.prog w = .ok (.bool (!(a == a' && b == b'))) w := by
  have h1 : Tryz.prog.underlying 58 = some (.struct (Tryz.prog.fieldsOf 58)) := by kernel_rfl
  have h2 : Tryz.prog.stoodInHeld 58 = false := by kernel_rfl
  rw [run_neq_struct, run_equalIn_agg _ _ _ _ _ h1 h2]
  simp [go_sem]
  by_cases x1 : a = a' <;> by_cases x2 : b = b' <;> simp [x1, x2]
theorem eqlName (a b a' b' : Int) (w : World) : (binOp .eql 58 (.agg #[.int .i64 a, .int .i64 b]) (.agg #[.int .i64 a', .int .i64 b'])).run Tryz.prog w = .ok (.bool (a == a' && b == b')) w := by
  have h1 : Tryz.prog.underlying 58 = some (.struct (Tryz.prog.fieldsOf 58)) := by kernel_rfl
  have h2 : Tryz.prog.stoodInHeld 58 = false := by kernel_rfl
  rw [run_eql_struct, run_equalIn_agg _ _ _ _ _ h1 h2]
  simp [go_sem]
  by_cases x1 : a = a' <;> by_cases x2 : b = b' <;> simp [x1, x2]
theorem guardName : Tryz.prog.eqGuardType Tryz.prog.depth 58 = false := by kernel_rfl


/-- What the document's Get tells. -/
def gotS (o : Option Sl) : Value := match o with
  | some s => .tuple #[.agg #[.int .i64 s.v, .int .i64 s.n, .int .i64 s.b, .int .i64 s.c], .bool true]
  | none => .tuple #[.agg #[.int .i64 0, .int .i64 0, .int .i64 0, .int .i64 0], .bool false]
theorem set4_cells {w : World} {b : Nat} {x y z t : Value} {ty : TypeId} (h : w.heap[b]? = some (.cells #[x, y, z, t] ty (0, 0))) (p q r s : Value) :
    ((((w.setCell ⟨b, 0, none⟩ p).setCell ⟨b, 1, none⟩ q).setCell ⟨b, 2, none⟩ r).setCell ⟨b, 3, none⟩ s).heap[b]? = some (.cells #[p, q, r, s] ty (0, 0)) :=
  heap_setCell_same _ b 3 _ ty s (heap_setCell_same _ b 2 _ ty r (heap_setCell_same _ b 1 _ ty q (heap_setCell_same _ b 0 _ ty p h)))

set_option maxHeartbeats 2000000 in
set_option maxRecDepth 100000 in
theorem refget_calls (u c : Int) (A : Option Addr) (cp N : Nat) (L : List Sl) (v n : Int) (w : World) (h : RowS w N (.slice A L.length cp) L) (hl : L.length ≤ 1000) :
    Calls Tryz.prog 43 #[.agg #[.int .i64 u, .int .i64 c, .slice A L.length cp], .agg #[.int .i64 v, .int .i64 n]] w fun e w' => e = .returned (gotS (getS L v n)) ∧ Ext w w' := by
  have hx0 : Ext w (((w.alloc (.cells #[.int .i64 u, .int .i64 c, .slice A L.length cp] 27)).alloc (.cells #[.int .i64 v, .int .i64 n] 58)).alloc (.cells #[.int .i64 0, .int .i64 0, .int .i64 0, .int .i64 0] 84)) := (((Ext.refl w).alloc _).alloc _).alloc _
  have n0 : (((w.alloc (.cells #[.int .i64 u, .int .i64 c, .slice A L.length cp] 27)).alloc (.cells #[.int .i64 v, .int .i64 n] 58)).alloc (.cells #[.int .i64 0, .int .i64 0, .int .i64 0, .int .i64 0] 84)).heap[w.heap.size + 1]? = some (.cells #[.int .i64 v, .int .i64 n] 58 (0, 0)) := ((Ext.refl _).alloc _).block (heap_new1 w _ _)
  have r0 : (((w.alloc (.cells #[.int .i64 u, .int .i64 c, .slice A L.length cp] 27)).alloc (.cells #[.int .i64 v, .int .i64 n] 58)).alloc (.cells #[.int .i64 0, .int .i64 0, .int .i64 0, .int .i64 0] 84)).heap[w.heap.size + 2]? = some (.cells #[.int .i64 0, .int .i64 0, .int .i64 0, .int .i64 0] 84 (0, 0)) := by
    have := heap_new1 (w.alloc (.cells #[.int .i64 u, .int .i64 c, .slice A L.length cp] 27)) (.cells #[.int .i64 v, .int .i64 n] 58) (.cells #[.int .i64 0, .int .i64 0, .int .i64 0, .int .i64 0] 84)
    simpa using this
  obtain ⟨_, hrow⟩ := h.at_
  obtain ⟨R, hR⟩ : ∃ R, getS L v n = R := ⟨_, rfl⟩
  rw [hR]
  have HR0 := Lib.hid hR
  have HN0 := Lib.hid n0
  have HRB := Lib.hid r0
  clear hR n0 r0 h
  go_enter Tryz.func43, Tryz.ntmps43
  go_wp2
  generalize (((w.alloc (.cells #[.int .i64 u, .int .i64 c, .slice A L.length cp] 27)).alloc (.cells #[.int .i64 v, .int .i64 n] 58)).alloc (.cells #[.int .i64 0, .int .i64 0, .int .i64 0, .int .i64 0] 84)) = W at *
  go_loopw [11] (fun i wr => ∃ k : Nat, k ≤ L.length ∧ i = .int .i64 k ∧ Hid (R = (L.drop k).find? (isN v n)) ∧ Ext W wr) (fun i _ => L.length - (intOf i).toNat)
  case atStart => exact ⟨0, Nat.zero_le _, rfl, Lib.hid (by rw [← HR0.out]; rfl), Ext.refl _⟩
  case round =>
    obtain ⟨k, hk, rfl, HQ, hx⟩ := hrel
    have hxw := hx0.trans hx
    have rb := hx.block HRB.out
    have hnb := hx.block HN0.out
    by_cases hlt : k < L.length
    · obtain ⟨b, rfl, p0, p1, p2, p3⟩ := hrow k hlt
      replace p0 := hxw.cell p0
      replace p1 := hxw.cell p1
      replace p2 := hxw.cell p2
      replace p3 := hxw.cell p3
      have hstep : R = if isN v n L[k] then some L[k] else (L.drop (k + 1)).find? (isN v n) := by
        rw [HQ.out, List.drop_eq_getElem_cons hlt, List.find?_cons]
        split <;> simp_all
      obtain ⟨s, hs⟩ : ∃ s, L[k] = s := ⟨_, rfl⟩
      rw [hs] at p0 p1 p2 p3 hstep
      obtain ⟨sv, sn, sb, sc⟩ := s
      dsimp only at p0 p1 p2 p3
      have HS := Lib.hid hstep
      have hq := fun w => eqlName sv sn v n w
      have hg := guardName
      have his : isN v n ⟨sv, sn, sb, sc⟩ = (sv == v && sn == n) := by
        rw [Bool.eq_iff_iff, isN_iff]; simp
      rw [his] at HS
      have hxa : Ext wr (wr.alloc (.cells #[.int .i64 sv, .int .i64 sn, .int .i64 sb, .int .i64 sc] 84)) := (Ext.refl wr).alloc _
      have rb1 := hxa.block rb
      have nb1 := hxa.block hnb
      have r0 := cell_blk rb1 0 rfl
      have r1 := cell_blk rb1 1 rfl
      have r2 := cell_blk rb1 2 rfl
      have r3 := cell_blk rb1 3 rfl
      have f0 := frozen_blk rb1 0
      have f1 := frozen_blk rb1 1
      have f2 := frozen_blk rb1 2
      have f3 := frozen_blk rb1 3
      have m0 := cell_blk nb1 0 rfl
      have m1 := cell_blk nb1 1 rfl
      have HRB1 := Lib.hid rb1
      clear hs hstep hrow HQ rb hnb rb1 nb1 his
      cases hb : (sv == v && sn == n)
      · rw [hb] at hq
        have HM : Hid (R = (L.drop (k + 1)).find? (isN v n)) := Lib.hid (by rw [HS.out, hb]; rfl)
        clear HS hb
        go_wp2
        go_roundw
        case rel => exact ⟨k + 1, by omega, by go_num, HM, hx.trans hxa⟩
        case measure => simp [intOf] <;> omega
      · rw [hb] at hq
        have HM : Hid (R = some ⟨sv, sn, sb, sc⟩) := Lib.hid (by rw [HS.out, hb]; rfl)
        clear HS hb
        go_wp2
        have hf4 := set4_cells HRB1.out (.int .i64 sv) (.int .i64 sn) (.int .i64 sb) (.int .i64 sc)
        have k0 := cell_blk hf4 0 rfl
        have k1 := cell_blk hf4 1 rfl
        have k2 := cell_blk hf4 2 rfl
        have k3 := cell_blk hf4 3 rfl
        refine bodyPost_ret (v := gotS (some ⟨sv, sn, sb, sc⟩)) (by simp [results, Tryz.results43, go_sem, k0, k1, k2, k3, gotS]) rfl ⟨by rw [HM.out], ?_⟩
        exact hxw.trans (hxa.trans (Ext.refl _)) |>.setCell (p := ⟨w.heap.size + 1 + 1, 0, none⟩) (by show w.heap.size ≤ w.heap.size + 1 + 1; omega) _ |>.setCell (p := ⟨w.heap.size + 1 + 1, 1, none⟩) (by show w.heap.size ≤ w.heap.size + 1 + 1; omega) _ |>.setCell (p := ⟨w.heap.size + 1 + 1, 2, none⟩) (by show w.heap.size ≤ w.heap.size + 1 + 1; omega) _ |>.setCell (p := ⟨w.heap.size + 1 + 1, 3, none⟩) (by show w.heap.size ≤ w.heap.size + 1 + 1; omega) _
    · obtain rfl : k = L.length := by omega
      have HM : Hid (R = none) := Lib.hid (by rw [HQ.out, List.drop_length]; rfl)
      have r0 := cell_blk rb 0 rfl
      have r1 := cell_blk rb 1 rfl
      have r2 := cell_blk rb 2 rfl
      have r3 := cell_blk rb 3 rfl
      have f0 := frozen_blk rb 0
      have f1 := frozen_blk rb 1
      have f2 := frozen_blk rb 2
      have f3 := frozen_blk rb 3
      have HRB1 := Lib.hid rb
      clear HQ rb hnb
      go_wp2
      have hf4 := set4_cells HRB1.out (.int .i64 0) (.int .i64 0) (.int .i64 0) (.int .i64 0)
      have k0 := cell_blk hf4 0 rfl
      have k1 := cell_blk hf4 1 rfl
      have k2 := cell_blk hf4 2 rfl
      have k3 := cell_blk hf4 3 rfl
      refine bodyPost_ret (v := gotS none) (by simp [results, Tryz.results43, go_sem, k0, k1, k2, k3, gotS]) rfl ⟨by rw [HM.out], ?_⟩
      exact hxw |>.setCell (p := ⟨w.heap.size + 1 + 1, 0, none⟩) (by show w.heap.size ≤ w.heap.size + 1 + 1; omega) _ |>.setCell (p := ⟨w.heap.size + 1 + 1, 1, none⟩) (by show w.heap.size ≤ w.heap.size + 1 + 1; omega) _ |>.setCell (p := ⟨w.heap.size + 1 + 1, 2, none⟩) (by show w.heap.size ≤ w.heap.size + 1 + 1; omega) _ |>.setCell (p := ⟨w.heap.size + 1 + 1, 3, none⟩) (by show w.heap.size ≤ w.heap.size + 1 + 1; omega) _
end Go.Proofs.YtgcplndmhlideaaGreat
