/- The contract of a job's sets. -/
import Derived.Test.YtdcdnnbijjcfmaaFin
namespace Go.Proofs.Ytdcdnnbijjcfmaa
open Go.RowKit

/-- The job's box as it was; what the two results hold. -/
structure St (w w1 : World) (W : World) (v2 v3 : Value) : Prop where
  ext : Ext w W
  job : W.heap[w.heap.size]? = w1.heap[w.heap.size]?
  b2 : Boxed W (w.heap.size + 1) 30 v2
  b3 : Boxed W (w.heap.size + 1 + 1) 30 v3
theorem St.drew {w w1 W : World} {v2 v3 : Value} (h : St w w1 W v2 v3) : St w w1 W.drew v2 v3 := ⟨h.ext.drew, h.job, h.b2, h.b3⟩
theorem St.more {w w1 W W' : World} {v2 v3 : Value} (h : St w w1 W v2 v3) (hx : Ext W W') (hl : w.heap.size < W.heap.size) : St w w1 W' v2 v3 :=
  ⟨h.ext.trans hx, (Below.block hx _ hl).trans h.job, hx.block h.b2, hx.block h.b3⟩
theorem St.set2 {w w1 W : World} {v2 v3 : Value} (h : St w w1 W v2 v3) (u : Value) : St w w1 (W.setCell ⟨w.heap.size + 1, 0, none⟩ u) u v3 :=
  ⟨h.ext.setCell (by show w.heap.size ≤ w.heap.size + 1; omega) u, (Below.heap_setCell W ⟨w.heap.size + 1, 0, none⟩ u _ (by show w.heap.size ≠ w.heap.size + 1; omega)).trans h.job, h.b2.set u, (Below.heap_setCell W ⟨w.heap.size + 1, 0, none⟩ u _ (by show w.heap.size + 1 + 1 ≠ w.heap.size + 1; omega)).trans h.b3⟩
theorem St.set3 {w w1 W : World} {v2 v3 : Value} (h : St w w1 W v2 v3) (u : Value) : St w w1 (W.setCell ⟨w.heap.size + 1 + 1, 0, none⟩ u) v2 u :=
  ⟨h.ext.setCell (by show w.heap.size ≤ w.heap.size + 1 + 1; omega) u, (Below.heap_setCell W ⟨w.heap.size + 1 + 1, 0, none⟩ u _ (by show w.heap.size ≠ w.heap.size + 1 + 1; omega)).trans h.job, (Below.heap_setCell W ⟨w.heap.size + 1 + 1, 0, none⟩ u _ (by show w.heap.size + 1 ≠ w.heap.size + 1 + 1; omega)).trans h.b2, h.b3.set u⟩
theorem St.lt {w w1 W : World} {v2 v3 : Value} (h : St w w1 W v2 v3) : w.heap.size < W.heap.size := by
  have := (Array.getElem?_eq_some_iff.1 h.b2).1; omega
theorem St.cell {w w1 W : World} {v2 v3 : Value} (h : St w w1 W v2 v3) {j : Nat} {u : Value} (hc : w1.cell? ⟨w.heap.size, j, none⟩ = some u) : W.cell? ⟨w.heap.size, j, none⟩ = some u := (World.cell?_of_block h.job).trans hc

set_option maxHeartbeats 4000000 in
set_option maxRecDepth 100000 in
theorem sets_calls (j : Jb) (w : World) (hg : SAt w j.g.A j.g.l) (hf : SAt w j.f.A j.f.l) (hlg : j.g.l.length ≤ 1000) (hlf : j.f.l.length ≤ 1000) :
    Calls Try.prog 12 #[.agg j.cells.toArray] w (SetsPost w (ofS j.g.l) (ofS j.f.l)) := by
  obtain ⟨⟨Ag, cg, lg⟩, ⟨Af, cf, lf⟩, n, ⟨u, wa, mo, r3, r4, r5, r6, r7, r8, r9⟩⟩ := j
  simp only at hg hf hlg hlf ⊢
  have HG := Lib.hid (fun W (hW : Ext w W) => of_calls Ag cg lg W (hg.ext hW) (by omega))
  have HF := Lib.hid (fun W (hW : Ext w W) => of_calls Af cf lf W (hf.ext hW) (by omega))
  generalize ofS lg = G at *
  generalize ofS lf = F at *
  show Calls Try.prog 12 #[.agg #[.slice Ag lg.length cg, .slice Af lf.length cf, .int .i64 n, .int .i64 u, .int .i64 wa, .int .i64 mo, .int .i64 r3, .int .i64 r4, .int .i64 r5, .int .i64 r6, .int .i64 r7, .int .i64 r8, .int .i64 r9]] w (SetsPost w G F)
  clear hg hf
  go_enter Try.func12, Try.ntmps12
  go_wp2
  have h0 : St w (((w.alloc (.cells #[.slice Ag lg.length cg, .slice Af lf.length cf, .int .i64 n, .int .i64 u, .int .i64 wa, .int .i64 mo, .int .i64 r3, .int .i64 r4, .int .i64 r5, .int .i64 r6, .int .i64 r7, .int .i64 r8, .int .i64 r9] 26)).alloc (.cells #[.slice none 0 0] 30)).alloc (.cells #[.slice none 0 0] 30)) (((w.alloc (.cells #[.slice Ag lg.length cg, .slice Af lf.length cf, .int .i64 n, .int .i64 u, .int .i64 wa, .int .i64 mo, .int .i64 r3, .int .i64 r4, .int .i64 r5, .int .i64 r6, .int .i64 r7, .int .i64 r8, .int .i64 r9] 26)).alloc (.cells #[.slice none 0 0] 30)).alloc (.cells #[.slice none 0 0] 30)) (.slice none 0 0) (.slice none 0 0) := by
    refine ⟨(((Ext.refl w).alloc _).alloc _).alloc _, rfl, ?_, ?_⟩
    · refine ((Ext.refl _).alloc _).block ?_
      have := heap_alloc_new (w.alloc (.cells #[.slice Ag lg.length cg, .slice Af lf.length cf, .int .i64 n, .int .i64 u, .int .i64 wa, .int .i64 mo, .int .i64 r3, .int .i64 r4, .int .i64 r5, .int .i64 r6, .int .i64 r7, .int .i64 r8, .int .i64 r9] 26)) (.cells #[.slice none 0 0] 30)
      simpa using this
    · have := heap_alloc_new ((w.alloc (.cells #[.slice Ag lg.length cg, .slice Af lf.length cf, .int .i64 n, .int .i64 u, .int .i64 wa, .int .i64 mo, .int .i64 r3, .int .i64 r4, .int .i64 r5, .int .i64 r6, .int .i64 r7, .int .i64 r8, .int .i64 r9] 26)).alloc (.cells #[.slice none 0 0] 30)) (.cells #[.slice none 0 0] 30)
      simpa [Boxed] using this
  have c0 : (((w.alloc (.cells #[.slice Ag lg.length cg, .slice Af lf.length cf, .int .i64 n, .int .i64 u, .int .i64 wa, .int .i64 mo, .int .i64 r3, .int .i64 r4, .int .i64 r5, .int .i64 r6, .int .i64 r7, .int .i64 r8, .int .i64 r9] 26)).alloc (.cells #[.slice none 0 0] 30)).alloc (.cells #[.slice none 0 0] 30)).cell? ⟨w.heap.size, 0, none⟩ = some (.slice Ag lg.length cg) := by simp [go_sem]
  have c1 : (((w.alloc (.cells #[.slice Ag lg.length cg, .slice Af lf.length cf, .int .i64 n, .int .i64 u, .int .i64 wa, .int .i64 mo, .int .i64 r3, .int .i64 r4, .int .i64 r5, .int .i64 r6, .int .i64 r7, .int .i64 r8, .int .i64 r9] 26)).alloc (.cells #[.slice none 0 0] 30)).alloc (.cells #[.slice none 0 0] 30)).cell? ⟨w.heap.size, 1, none⟩ = some (.slice Af lf.length cf) := by simp [go_sem]
  generalize (((w.alloc (.cells #[.slice Ag lg.length cg, .slice Af lf.length cf, .int .i64 n, .int .i64 u, .int .i64 wa, .int .i64 mo, .int .i64 r3, .int .i64 r4, .int .i64 r5, .int .i64 r6, .int .i64 r7, .int .i64 r8, .int .i64 r9] 26)).alloc (.cells #[.slice none 0 0] 30)).alloc (.cells #[.slice none 0 0] 30)) = w1 at *
  have H0 := Lib.hid h0.drew
  have hkeep : ∀ W v2 v3, St w w1 W v2 v3 → W.cell? ⟨w.heap.size, 0, none⟩ = some (.slice Ag lg.length cg) ∧ W.cell? ⟨w.heap.size, 1, none⟩ = some (.slice Af lf.length cf) := fun W v2 v3 h => ⟨h.cell c0, h.cell c1⟩
  have HK := Lib.hid hkeep
  clear hkeep h0
  refine wp_region_noPanic ?_
  go_region_held3 (fun w' => w'.cell? ⟨w.heap.size, 0, none⟩ = some (.slice Ag lg.length cg) ∧ w'.cell? ⟨w.heap.size, 1, none⟩ = some (.slice Af lf.length cf))
    (with_reducible first | exact HK.out _ _ _ H0.out | exact HK.out _ _ _ HA.out | exact HK.out _ _ _ (HA.out.set2 _) | exact HK.out _ _ _ HB.out | exact HK.out _ _ _ (HB.out.set2 _) | exact HK.out _ _ _ (HB.out.set3 _) | exact HK.out _ _ _ ((HB.out.set2 _).set3 _) | exact HK.out _ _ _ ((HB.out.set3 _).set2 _))
    (first
      | (go_at_call 22
         (with_reducible refine (HG.out _ H0.out.ext).mono ?_)
         rintro e wa ⟨A1, k1, rfl, HS1, HN1, hxa⟩
         have HA : Hid (St w w1 wa (.slice none 0 0) (.slice none 0 0)) := Lib.hid (H0.out.more hxa H0.out.lt)
         have p2 := HA.out.b2.cell
         have q2 := HA.out.b2.frozen)
      | (go_at_call 22
         (first
           | (with_reducible refine (HF.out _ HA.out.ext).mono ?_
              rintro e wb ⟨A2, k2, rfl, HS2, HN2, hxb⟩
              have HB : Hid (St w w1 wb (.slice none 0 0) (.slice none 0 0)) := Lib.hid (HA.out.more hxb HA.out.lt)
              have p2 := HB.out.b2.cell
              have q2 := HB.out.b2.frozen
              have p3 := HB.out.b3.cell
              have q3 := HB.out.b3.frozen
              have HS12 : Hid (SAt wb A1 G) := Lib.hid (HS1.out.ext hxb))
           | (with_reducible refine (HF.out _ (HA.out.set2 _).ext).mono ?_
              rintro e wb ⟨A2, k2, rfl, HS2, HN2, hxb⟩
              have HB : Hid (St w w1 wb (.slice A1 G.length k1) (.slice none 0 0)) := Lib.hid ((HA.out.set2 _).more hxb (HA.out.set2 _).lt)
              have p3 := HB.out.b3.cell
              have q3 := HB.out.b3.frozen
              have HS12 : Hid (SAt wb A1 G) := Lib.hid ((HS1.out.blocks fun b o e _ => Below.heap_setCell wa ⟨w.heap.size + 1, 0, none⟩ _ _ (by have h1 := HN1.out b o e; have h2 := (Array.getElem?_eq_some_iff.1 H0.out.b3).1; show b ≠ w.heap.size + 1; omega)).ext hxb)))))
  all_goals refine noPanic_intro ?_
  all_goals have hz := (Array.getElem?_eq_some_iff.1 H0.out.b3).1
  all_goals have hn1 : ∀ b o, A1 = some ⟨b, o, none⟩ → w.heap.size + 1 + 1 < b := fun b o e => by have h1 := HN1.out b o e; omega
  all_goals have hn2 : ∀ b o, A2 = some ⟨b, o, none⟩ → w.heap.size + 1 + 1 < b := fun b o e => by (have h1 := HN2.out b o e; first | (have h3 := (Array.getElem?_eq_some_iff.1 HA.out.b3).1; omega) | (have h3 := (Array.getElem?_eq_some_iff.1 (HA.out.set2 (.slice A1 G.length k1)).b3).1; omega))
  all_goals have HNN := Lib.hid (And.intro hn1 hn2)
  all_goals clear hn1 hn2
  all_goals go_wp2
  all_goals first
    | (have hst := (HB.out.set2 (.slice A1 G.length k1)).set3 (.slice A2 F.length k2)
       have e2 := hst.b2.cell
       have e3 := hst.b3.cell
       refine bodyPost_ret (v := .tuple #[.agg #[.slice A1 G.length k1], .agg #[.slice A2 F.length k2]]) (by first | simp [results, Try.results12, go_sem, e2, e3] | simp [results, Try.results12, go_sem, p2, p3] | simp [results, Try.results12, go_sem, p2, p3, e2, e3]) rfl ⟨A1, k1, A2, k2, rfl, Lib.hid ⟨HS12.out.blocks fun b o e _ => ?_, HS2.out.blocks fun b o e _ => ?_⟩, hst.ext⟩
       · have := HNN.out.1 b o e
         exact (Below.heap_setCell _ _ _ _ (by show b ≠ w.heap.size + 1 + 1; omega)).trans (Below.heap_setCell _ _ _ _ (by show b ≠ w.heap.size + 1; omega))
       · have := HNN.out.2 b o e
         exact (Below.heap_setCell _ _ _ _ (by show b ≠ w.heap.size + 1 + 1; omega)).trans (Below.heap_setCell _ _ _ _ (by show b ≠ w.heap.size + 1; omega)))
    | (have hst := (HB.out.set3 (.slice A2 F.length k2)).set2 (.slice A1 G.length k1)
       have e2 := hst.b2.cell
       have e3 := hst.b3.cell
       refine bodyPost_ret (v := .tuple #[.agg #[.slice A1 G.length k1], .agg #[.slice A2 F.length k2]]) (by first | simp [results, Try.results12, go_sem, e2, e3] | simp [results, Try.results12, go_sem, p2, p3] | simp [results, Try.results12, go_sem, p2, p3, e2, e3]) rfl ⟨A1, k1, A2, k2, rfl, Lib.hid ⟨HS12.out.blocks fun b o e _ => ?_, HS2.out.blocks fun b o e _ => ?_⟩, hst.ext⟩
       · have := HNN.out.1 b o e
         exact (Below.heap_setCell _ _ _ _ (by show b ≠ w.heap.size + 1; omega)).trans (Below.heap_setCell _ _ _ _ (by show b ≠ w.heap.size + 1 + 1; omega))
       · have := HNN.out.2 b o e
         exact (Below.heap_setCell _ _ _ _ (by show b ≠ w.heap.size + 1; omega)).trans (Below.heap_setCell _ _ _ _ (by show b ≠ w.heap.size + 1 + 1; omega)))
    | (have hst := HB.out.set3 (.slice A2 F.length k2)
       have e2 := hst.b2.cell
       have e3 := hst.b3.cell
       refine bodyPost_ret (v := .tuple #[.agg #[.slice A1 G.length k1], .agg #[.slice A2 F.length k2]]) (by first | simp [results, Try.results12, go_sem, e2, e3] | simp [results, Try.results12, go_sem, p2, p3] | simp [results, Try.results12, go_sem, p2, p3, e2, e3]) rfl ⟨A1, k1, A2, k2, rfl, Lib.hid ⟨HS12.out.blocks fun b o e _ => ?_, HS2.out.blocks fun b o e _ => ?_⟩, hst.ext⟩
       · have := HNN.out.1 b o e
         exact Below.heap_setCell _ _ _ _ (by show b ≠ w.heap.size + 1 + 1; omega)
       · have := HNN.out.2 b o e
         exact Below.heap_setCell _ _ _ _ (by show b ≠ w.heap.size + 1 + 1; omega))
end Go.Proofs.Ytdcdnnbijjcfmaa
