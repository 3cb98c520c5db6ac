/- The contract of the index's Has. -/
import Derived.Test.YtgcplndmhlideaaGreatSince
import Derived.Test.YtgcplndmhlideaaGreatSetL
import Derived.Test.YtgcplndmhlideaaGreatOf
import Derived.Test.YtgcplndmhlideaaGreatOfx
namespace Go.Proofs.YtgcplndmhlideaaGreat
open Go.RowKit
attribute [local go_sem] Oper.semAt_some

/-- What Has appends for a slice. -/
def spF (u : Int) (e : Pr It) : Int := IntKind.i64.wrap (IntKind.i64.wrap (e.k : Int) * u)
def spW (u : Int) (e : Pr It) : Sp := ⟨spF u e, IntKind.i64.wrap (spF u e + e.v.b)⟩
theorem SAt.far {w : World} {A : Option Addr} {l : List Sp} (h : SAt w A l) {p : Addr} (hp : ∀ b o, A = some ⟨b, o, none⟩ → p.block ≠ b) (u : Value) : SAt (w.setCell p u) A l := fun k hk => by
  obtain ⟨b, o, e, p0, p1⟩ := h k hk
  have := hp b o e
  exact ⟨b, o, e, (World.cell?_setCell_far _ _ _ _ (by exact this)).trans p0, (World.cell?_setCell_far _ _ _ _ (by exact this)).trans p1⟩
theorem cell_putObj {w : World} {D : Nat} {o o' : Obj} (hD : w.heap[D]? = some o) (ho : o.isCells = false) {p : Addr} {u : Value} (h : w.cell? p = some u) : (w.putObj D o').cell? p = some u := by
  have hne : p.block ≠ D := fun e => by
    subst e
    unfold World.cell? at h
    rw [hD] at h
    cases o <;> simp_all [Obj.isCells]
  exact (World.cell?_of_block (World.putObj_heap_other hne)).trans h
theorem SAt.putObj {w : World} {A : Option Addr} {l : List Sp} (h : SAt w A l) {D : Nat} {o : Obj} (hD : w.heap[D]? = some o) (ho : o.isCells = false) (o' : Obj) : SAt (w.putObj D o') A l := fun k hk => by
  obtain ⟨b, o, e, p0, p1⟩ := h k hk
  exact ⟨b, o, e, cell_putObj hD ho p0, cell_putObj hD ho p1⟩

set_option maxRecDepth 100000 in
set_option maxHeartbeats 2000000 in
theorem has_any (r : Option Addr) (u v : Int) (l : List (Pr It)) (w : World) (hO : OfAt w r v l) (hr : l = [] ∨ ∃ xb, r = some ⟨xb, 0, none⟩ ∧ w.cell? ⟨xb, 0, none⟩ = some (.int .i64 u)) (hl : l.length ≤ 1000) :
    Calls Tryz.prog 12 #[.pointer r, .int .i64 v] w (SetPost w (ofS (l.map (spW u)))) := by
  obtain ⟨i0, hi, hz0, hz1, hz2⟩ := info_parts infoSpan
  have HO := Lib.hid hO
  have HR := Lib.hid hr
  have HL := Lib.hid hl
  clear hO hr hl
  have hx0 : Ext w ((w.alloc (.cells #[.pointer r] 24)).alloc (.cells #[.slice none 0 0] 39)) := ((Ext.refl w).alloc _).alloc _
  have bR := ((Ext.refl (w.alloc (.cells #[.pointer r] 24))).alloc (.cells #[.slice none 0 0] 39)).block (heap_alloc_new w (.cells #[.pointer r] 24))
  have bS := heap_new1 w (.cells #[.pointer r] 24) (.cells #[.slice none 0 0] 39)
  refine (callsIn_wide (n := 5)).1 ?_
  refine callsIn_of_wp_marks Tryz.func12 rfl trivial ?_ rfl
  simp only [Tryz.ntmps12, List.size_toArray, List.length_cons, List.length_nil, Nat.reduceAdd, Nat.reduceSub, Array.replicate_succ, Array.replicate_zero, List.push_toArray, List.append_toArray, List.nil_append, List.cons_append]
  refine wpIn_wide.2 ?_
  go_upto_region 1 with (fail)
  generalize hBB : ((w.alloc (.cells #[.pointer r] 24)).alloc (.cells #[.slice none 0 0] 39)) = B at *
  have HHB : Hid (B.heap.size = w.heap.size + 2) := Lib.hid (by rw [← hBB]; simp)
  have HO2 : Hid (∀ W, Ext B W → Calls Tryz.prog 30 #[.pointer r, .int .i64 v] W (OfPost0 w W l)) := Lib.hid fun W hW => HO.out W (hx0.trans hW)
  have HR2 : Hid (l = [] ∨ ∃ xb, r = some ⟨xb, 0, none⟩ ∧ B.cell? ⟨xb, 0, none⟩ = some (.int .i64 u)) := Lib.hid (HR.out.imp id fun ⟨xb, h1, h2⟩ => ⟨xb, h1, hx0.cell h2⟩)
  have HX0 := Lib.hid hx0
  have c0 : B.cell? ⟨w.heap.size, 0, none⟩ = some (.pointer r) := cell_blk bR 0 rfl
  have HBR := Lib.hid bR
  have HBS := Lib.hid bS
  clear hBB HO HR hx0 bR bS
  go_upto_region 2 with (fail)
  have c1 := ((Ext.refl B).alloc (.cells #[.slice none 0 0] 37)).cell c0
  go_wp2_with fail
  refine (HO2.out _ ((Ext.refl B).alloc _)).mono ?_
  rintro e w2 ⟨pm, rfl, hit, hx1⟩
  go_wp2_with fail
  refine (itall_calls pm _).mono ?_
  rintro e w3 ⟨_, rfl, ⟨bm, bk, rfl, hbm, hbk⟩, hx2⟩
  have hx12 := hx1.trans hx2
  have bO := (show Boxed _ _ _ _ from hx12.block (Boxed.new B 37 (.slice none 0 0)))
  have hB0 : Below B.heap.size B w3 := ((Ext.refl B).alloc _).trans hx12
  have hs1 := hx12.size
  simp only [World.size_alloc] at hs1
  obtain ⟨t, hat, hwf, hol⟩ := hit.ext HX0.out
  have HP := Lib.hid hat
  have hfrom : It.fromO 0 t = l := (It.from_zero hwf).trans hol
  have HF := Lib.hid hfrom
  clear HO2 hit hat hfrom hol
  go_wp2_with fail
  refine (wpIn_wide (n := 5)).1 ?_
  refine wpIn_rangeFunc_ownH rfl (by omega) (gf := 65) (lb := #[.pointer (some ⟨bm, 0, none⟩), .pointer (some ⟨bk, 0, none⟩)]) rfl trivial (enters_of Tryz.func65 (by kernel_rfl) rfl)
    (It.from_stops 0 B t pm HP.out hwf bm bk _ w3 hB0 hbm hbk) belowK_t (belowK_b (by omega)) (Below.refl _ _) (fun _ => rfl)
    (fun pre W => (∃ v, Boxed W B.heap.size 37 v ∧ W.ownsRow B.heap.size 53 2 v pre.length (spans (pre.map (spW u))) ∧ True) ∧ Below B.heap.size B W)
    (fun _ _ _ => False)
    (OwnFrom.and (Own.from (holdsRow_own B.heap.size B.heap.size 37 53 2 (fun pre : List (Pr It) => pre.length) (fun pre => spans (pre.map (spW u))) (fun _ _ => True)) _) (ownFrom_below (Nat.le_refl _) (by omega)))
    (fun _ _ _ _ _ hs _ _ => hs)
    ⟨⟨_, bO, World.ownsRow_nil _ _ _ _, trivial⟩, hB0⟩
    (fun x a' W => ∃ Bx, W.heap[Bx]? = some (.cells #[.int .i64 x.v.b, .int .i64 x.v.c] 95 (0, 0)) ∧ a' = { tmps := #[.pointer r, .int .i64 v, .pointer (some ⟨w.heap.size, 0, none⟩), undef, .pointer (some ⟨w.heap.size + 1, 0, none⟩), .pointer (some ⟨B.heap.size, 0, none⟩), .int .u64 (x.k : Int), .pointer (some ⟨Bx, 0, none⟩), undef, .pointer r, .int .i64 v, .agg #[.pointer pm], .func (.func 65) #[] #[.pointer (some ⟨bm, 0, none⟩), .pointer (some ⟨bk, 0, none⟩)], .int .u64 (x.k : Int), .agg #[.int .i64 x.v.b, .int .i64 x.v.c], undef, undef, undef, undef, undef, undef, undef, undef, undef, undef, undef, undef, undef, undef, undef, undef, undef, undef], defers := [] })
    (fun x a' _ X Y row hs hg hr => by
      obtain ⟨Bx, h2, h3⟩ := hs
      exact ⟨Bx, (hg.block Bx (Array.getElem?_eq_some_iff.1 h2).1 (fun e => by obtain ⟨_, o, ho, hc⟩ := hr Bx e.symm; rw [h2] at ho; cases ho; cases hc)).trans h2, h3⟩)
    ?assign ?body ?done ?stop
  case assign =>
    rintro l pre x W K' ⟨⟨v, hv, hrow, _⟩, hB⟩ hK
    gi_wp2
    exact hK _ _ ((KeepsOthers.alloc _ _).from _) (((Below.refl _ W).alloc (Nat.le_refl _) _).mono hB.size) ⟨⟨v, ((Ext.refl W).alloc _).block hv, ownsRow_ext hrow ((Ext.refl W).alloc _), trivial⟩, hB.trans (((Below.refl _ W).alloc (Nat.le_refl _) _).mono hB.size)⟩ ⟨W.heap.size, heap_alloc_new W _, rfl⟩
  case body =>
    rintro l pre x a' W hl _ ⟨⟨v, hv, hrow, _⟩, hB⟩ ⟨Bx, hbx, rfl⟩ hlt
    have hc := hv.cell
    have y0 : W.cell? ⟨Bx, 0, none⟩ = some (.int .i64 x.v.b) := cell_blk hbx 0 rfl
    rw [HF.out] at hlt
    have hlt2 : pre.length < 1000 := by have := HL.out; omega
    obtain ⟨xb, rfl, hu⟩ := HR2.out.resolve_left fun e => by rw [e] at hlt; simp at hlt
    replace hu : W.cell? ⟨xb, 0, none⟩ = some (.int .i64 u) := (show Ext B W from hB).cell hu
    replace c0 : W.cell? ⟨w.heap.size, 0, none⟩ = some (.pointer (some ⟨xb, 0, none⟩)) := (show Ext B W from hB).cell c0
    obtain ⟨xk, xv⟩ := x
    obtain ⟨vb, vc⟩ := xv
    have hsp : spans ((pre ++ [(⟨xk, vb, vc⟩ : Pr It)]).map (spW u)) = spans (pre.map (spW u)) ++ [.int .i64 (IntKind.i64.wrap (IntKind.i64.wrap (xk : Int) * u)), .int .i64 (IntKind.i64.wrap (IntKind.i64.wrap (IntKind.i64.wrap (xk : Int) * u) + vb))] := by rw [List.map_append, spans_append]; rfl
    obtain ⟨f0, hf0⟩ : ∃ z, IntKind.i64.wrap (xk : Int) = z := ⟨_, rfl⟩
    rw [hf0] at hsp
    obtain ⟨f1, hf1⟩ : ∃ z, IntKind.i64.wrap (f0 * u) = z := ⟨_, rfl⟩
    rw [hf1] at hsp
    obtain ⟨f2, hf2⟩ : ∃ z, IntKind.i64.wrap (f1 + vb) = z := ⟨_, rfl⟩
    rw [hf2] at hsp
    have HSP := Lib.hid hsp
    dsimp only at y0 hbx ⊢
    clear hs1 bO hx1 hx2 hx12 hB0 hbm hbk hwf c1 hlt hsp
    gi_wp2_with (gi_at_builtin; refine wpListIn_append_own _ rfl _ _ 37 rfl B.heap.size 53 i0 (.agg #[.int .i64 0, .int .i64 0]) 2 16 Tryz.underlying37 hi hz0 hz1 hz2 rfl (by decide) _ _ _ rfl (hrow.alloc _) ⟨W.heap.size, 0, none⟩ 1 1 [.int .i64 f1, .int .i64 f2] rfl rfl (news2 _ _ _ _) (by simp [Value.oneCell']) (by unfold maxLen; omega) (by omega) (by have := hB.size; simp; omega) ?_; intro v' w1 hown' hgrow _; obtain ⟨g', cap', rfl⟩ := ownsRow_succ hown'; obtain ⟨hv1, hv2, hr2, hk2, hb2⟩ := hv.appended (by decide) hrow hB.size (by omega) hown' hgrow; have hc1 := hv1.cell; have hf1 := hv1.frozen)
    exact ⟨hk2.from _, hb2, ⟨_, hv2, by rw [HSP.out]; simpa using hr2, trivial⟩, hB.trans hb2⟩
  case done =>
    rintro D ys W hD rfl ⟨⟨v, hv, hrow, _⟩, hB⟩ hK
    have hc := hv.cell
    rw [HF.out] at *
    obtain ⟨A, c, rfl, hcc⟩ := own_shape hrow
    have HS := Lib.hid (sat_of_own hrow)
    have hl2 : (l.map (spW u)).length = l.length := by simp
    have HOC : Hid (∀ W', Ext W W' → Calls Tryz.prog 32 #[.slice A l.length c] W' (SetPost W' (ofS (l.map (spW u))))) := Lib.hid fun W' hx => by
      have := of_calls A c (l.map (spW u)) W' (HS.out.ext hx) (by have := HL.out; omega)
      rwa [hl2] at this
    have HBW : Hid (Ext B W) := Lib.hid hB
    have HKD := Lib.hid hK
    clear bO hx1 hx2 hx12 hB0 hbm hbk hwf c1 c0 hl2 hrow hcc
    go_wp2_with fail
    refine (HOC.out W (Ext.refl W)).mono ?_
    rintro e w5 ⟨A2, c2, rfl, HS2, HN2, hx5⟩
    have HBS5 := hx5.block (HBW.out.block HBS.out)
    have hD5 := hx5.block HKD.out
    have s0 := cell_blk HBS5 0 rfl
    have s1 := frozen_blk HBS5 0
    have k0 := set1_cells HBS5 (.slice A2 (ofS (l.map (spW u))).length c2)
    have hsz : w.heap.size + 1 < W.heap.size := by have := HBW.out.size; have := HHB.out; omega
    have HS3 := Lib.hid (HS2.out.far (p := ⟨w.heap.size + 1, 0, none⟩) (fun b o e => by have := HN2.out b o e; show w.heap.size + 1 ≠ b; omega) (.slice A2 (ofS (l.map (spW u))).length c2))
    have HD5 : Hid ((w5.setCell ⟨w.heap.size + 1, 0, none⟩ (.slice A2 (ofS (l.map (spW u))).length c2)).heap[D]? = some (.deferred (some []))) := Lib.hid ((Below.heap_setCell w5 ⟨w.heap.size + 1, 0, none⟩ _ D (by show D ≠ w.heap.size + 1; have := HHB.out; omega)).trans hD5)
    have HX9 := Lib.hid (((HX0.out.trans HBW.out).trans hx5).setCell (p := ⟨w.heap.size + 1, 0, none⟩) (by show w.heap.size ≤ w.heap.size + 1; omega) (.slice A2 (ofS (l.map (spW u))).length c2))
    go_wp2
    refine ⟨by simp, .inl ⟨_, _, rfl, run_takeDeferred HD5.out, ?_⟩⟩
    have k1 := cell_putObj HD5.out rfl (o' := .deferred none) k0
    refine ⟨.agg #[.slice A2 (ofS (l.map (spW u))).length c2], by simp [results, Tryz.results12, go_sem, k1], A2, c2, rfl, Lib.hid (HS3.out.putObj HD5.out rfl _), Lib.hid fun b o e => by have := HN2.out b o e; omega, ?_⟩
    exact Below.trans HX9.out (belowK_b (w := w) (Nat.le_refl _) _ D _ _ (by have := HHB.out; omega) HD5.out rfl rfl)
  case stop =>
    rintro D c pre W _ _ h _
    exact h.elim
end Go.Proofs.YtgcplndmhlideaaGreat
