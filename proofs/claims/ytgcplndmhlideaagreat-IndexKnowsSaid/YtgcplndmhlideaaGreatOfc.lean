/- What a version's slices, gone through, bring to a law's own yield. -/
import Derived.Test.YtgcplndmhlideaaGreatClo
import Derived.Test.YtgcplndmhlideaaGreatIhas
namespace Go.Proofs.YtgcplndmhlideaaGreat
open Go.RowKit
attribute [local go_sem] Oper.semAt_some

/-- A number of a slice, as it is handed on. -/
def noV (e : Pr It) : Value := .int .i64 (IntKind.i64.wrap (e.k : Int))
/-- A yield that gathers numbers, and asks for Lm of them at most. -/
def Yields (fid Lm : Nat) : Prop := ∀ (B ob n : Nat) (xs : List Value) (z : Int) (W : World), Gat B ob n xs W → B ≤ W.heap.size → B ≤ ob → n < 10000 →
  Calls Tryz.prog fid #[.int .i64 z, .pointer (some ⟨ob, 0, none⟩)] W (CloPost B ob (n + 1) (xs ++ [.int .i64 z]) W (decide (n + 1 < Lm)))
theorem gat_ext {B ob n : Nat} {xs : List Value} {W W' : World} (h : Gat B ob n xs W) (hx : Ext W W') : Gat B ob n xs W' := by
  obtain ⟨v, h1, h2⟩ := h
  exact ⟨v, hx.block h1, ownsRow_ext h2 hx⟩
theorem keepB {X Y : World} {row : Option Nat} {B b : Nat} {cs : Array Value} {t : TypeId} (h : X.heap[b]? = some (.cells cs t (0, 0))) (hg : X.grownBy Y row) (hr : ∀ r, row = some r → B ≤ r ∧ ∃ o : Obj, X.heap[r]? = some o ∧ o.isCells = false) : Y.heap[b]? = some (.cells cs t (0, 0)) :=
  (hg.block b (Array.getElem?_eq_some_iff.1 h).1 (fun e => by obtain ⟨_, o, ho, hc⟩ := hr b e.symm; rw [h] at ho; cases ho; cases hc)).trans h
def OfcPost (B ob Lm : Nat) (l : List (Pr It)) (w : World) (e : Ending) (w' : World) : Prop := e = .returned (.tuple #[]) ∧ Gat B ob (l.take Lm).length ((l.take Lm).map noV) w' ∧ Below B w w'

set_option maxRecDepth 100000 in
set_option maxHeartbeats 2000000 in
theorem ofc_calls (fid Lm : Nat) (hL : 1 ≤ Lm) (hY : Yields fid Lm) (hE : ∀ args w, (callFunc fid args).run Tryz.prog w = .ok (.enter fid args) w) (W0 w : World) (B ob mb : Nat) (pm : Option Addr) (l : List (Pr It)) (hx : Ext W0 w) (hB : W0.heap.size ≤ B) (hob : B ≤ ob) (hobw : ob < w.heap.size) (hit : ItAt W0 pm l) (hl : l.length ≤ 1000) (hm : w.heap[mb]? = some (.cells #[.pointer pm] 81 (0, 0))) (hg : Gat B ob 0 [] w) :
    Calls Tryz.prog 46 #[.func (.func fid) #[] #[.pointer (some ⟨ob, 0, none⟩)], .pointer (some ⟨mb, 0, none⟩)] w (OfcPost B ob Lm l w) := by
  obtain ⟨t, hp, hwf, hol⟩ := hit
  have hfrom : It.fromO 0 t = l := (It.from_zero hwf).trans hol
  have HF := Lib.hid hfrom
  have HP := Lib.hid hp
  have HL := Lib.hid hl
  have c0 : w.cell? ⟨mb, 0, none⟩ = some (.pointer pm) := cell_blk hm 0 rfl
  have hmw : mb < w.heap.size := (Array.getElem?_eq_some_iff.1 hm).1
  clear hfrom hol hp hl hm
  refine (callsIn_wide (n := 5)).1 ?_
  refine callsIn_of_wp_marks Tryz.func46 rfl trivial ?_ rfl
  simp only [Tryz.ntmps46, List.size_toArray, List.length_cons, List.length_nil, Nat.reduceAdd, Nat.reduceSub, Array.replicate_succ, Array.replicate_zero, List.push_toArray, List.append_toArray, List.nil_append, List.cons_append]
  refine wpIn_wide.2 ?_
  have hx0 : Ext w (w.alloc (.cells #[.func (.func fid) #[] #[.pointer (some ⟨ob, 0, none⟩)]] 89)) := (Ext.refl w).alloc _
  have c1 := hx0.cell c0
  go_upto_region 1 with (fail)
  go_wp2_with fail
  refine (itall_calls pm _).mono ?_
  rintro e w3 ⟨_, rfl, ⟨bm, bk, rfl, hbm, hbk⟩, hx2⟩
  go_wp2_with fail
  refine (wpIn_wide (n := 5)).1 ?_
  have hx12 := hx0.trans hx2
  have hyb : w3.heap[w.heap.size]? = some (.cells #[.func (.func fid) #[] #[.pointer (some ⟨ob, 0, none⟩)]] 89 (0, 0)) := hx2.block (heap_alloc_new w _)
  have hs1 := hx2.size
  simp only [World.size_alloc] at hs1
  have hg3 := gat_ext hg hx12
  have hBw : Below B w w3 := Below.mono hx12 (by omega)
  have hW0 : Ext W0 w3 := hx.trans hx12
  clear c1 c0
  refine wpIn_rangeFunc_ownH rfl (by omega) (gf := 65) (lb := #[.pointer (some ⟨bm, 0, none⟩), .pointer (some ⟨bk, 0, none⟩)]) rfl trivial (enters_of Tryz.func65 (by kernel_rfl) rfl)
    (It.from_stops 0 W0 t pm HP.out hwf bm bk _ w3 hW0 hbm hbk) belowK_t (belowK_b (by omega)) (Below.refl _ _) (fun _ => rfl)
    (fun pre W => (∃ v, Boxed W ob 31 v ∧ W.ownsRow B 2 1 v pre.length (pre.map noV) ∧ True) ∧ Below B w W ∧ pre.length < Lm ∧ W.heap[w.heap.size]? = some (.cells #[.func (.func fid) #[] #[.pointer (some ⟨ob, 0, none⟩)]] 89 (0, 0)))
    (fun c pre W => (∃ v, Boxed W ob 31 v ∧ W.ownsRow B 2 1 v pre.length (pre.map noV) ∧ True) ∧ Below B w W ∧ c = .ret ∧ pre.length = Lm)
    (OwnFrom.and (Own.from (holdsRow_own B ob 31 2 1 (fun pre : List (Pr It) => pre.length) (fun pre => pre.map noV) (fun _ _ => True)) _) (OwnFrom.and (ownFrom_below (by omega) (by omega)) (fun pre X Y row hs hg hr => ⟨hs.1, keepB hs.2 hg hr⟩)))
    (fun c => OwnFrom.and (Own.from (holdsRow_own B ob 31 2 1 (fun pre : List (Pr It) => pre.length) (fun pre => pre.map noV) (fun _ _ => True)) _) (OwnFrom.and (ownFrom_below (by omega) (by omega)) (fun pre X Y row hs _ _ => hs)))
    ⟨by obtain ⟨v, h1, h2⟩ := hg3; exact ⟨v, h1, h2, trivial⟩, hBw, hL, hyb⟩
    (fun x a' W => a' = { tmps := #[.func (.func fid) #[] #[.pointer (some ⟨ob, 0, none⟩)], .pointer (some ⟨mb, 0, none⟩), .pointer (some ⟨w.heap.size, 0, none⟩), .int .u64 (x.k : Int), .agg #[.pointer pm], .func (.func 65) #[] #[.pointer (some ⟨bm, 0, none⟩), .pointer (some ⟨bk, 0, none⟩)], .int .u64 (x.k : Int), .agg #[.int .i64 x.v.b, .int .i64 x.v.c], undef, undef, undef, undef, undef], defers := [] })
    (fun x a' _ X Y row hs hg hr => hs)
    ?assign ?body ?done ?stop
  case assign =>
    rintro l pre x W K' hI hK
    gi_wp2
    exact hK _ _ (KeepsFrom.refl _ _) (Below.refl _ _) hI rfl
  case body =>
    rintro l' pre x a' W hl _ ⟨⟨v, hv, hrow, _⟩, hB', hlt1, hyW⟩ rfl hlt
    have hlt2 : pre.length < 1000 := by have := HF.out; have := HL.out; simp_all; omega
    have y0 : W.cell? ⟨w.heap.size, 0, none⟩ = some (.func (.func fid) #[] #[.pointer (some ⟨ob, 0, none⟩)]) := cell_blk hyW 0 rfl
    have HC := Lib.hid (hY B ob pre.length (pre.map noV) (IntKind.i64.wrap (x.k : Int)) W ⟨v, hv, hrow⟩ (by have := hB'.size; omega) hob (by omega))
    have HYW := Lib.hid hyW
    have HBB := Lib.hid hB'
    have e1 : (pre ++ [x]).map noV = pre.map noV ++ [.int .i64 (IntKind.i64.wrap (x.k : Int))] := by simp [noV]
    have e2 : (pre ++ [x]).length = pre.length + 1 := by simp
    have HE := Lib.hid (And.intro e1 e2)
    clear hv hrow hyW hB' e1 e2 hlt hg hg3 hyb hx hx0 hx2 hbm hbk hwf hW0 hBw
    obtain ⟨z, hz⟩ : ∃ z, IntKind.i64.wrap (x.k : Int) = z := ⟨_, rfl⟩
    rw [hz] at HC HE
    obtain ⟨r, hr⟩ : ∃ r, decide (pre.length + 1 < Lm) = r := ⟨_, rfl⟩
    rw [hr] at HC
    gi_wp2_with fail
    refine ⟨trivial, ?_⟩
    refine (CallsIn.inRound l' (callsIn_wide.2 HC.out)).mono ?_
    rintro e W' ⟨rfl, hg', hk', hb', hc'⟩
    have hk2 : KeepsFrom w3.heap.size W W' := hk'.from _
    have hb2 : Below W0.heap.size W W' := Below.mono hb' hB
    have hgat : ∃ v, Boxed W' ob 31 v ∧ W'.ownsRow B 2 1 v (pre ++ [x]).length ((pre ++ [x]).map noV) ∧ True := by
      obtain ⟨v', h1, h2⟩ := hg'
      rw [HE.out.1, HE.out.2]
      exact ⟨v', h1, h2, trivial⟩
    have hbw : Below B w W' := HBB.out.trans hb'
    have hyw := hc' w.heap.size _ _ (by omega) (by decide) HYW.out
    have HG := Lib.hid hgat
    have HH := Lib.hid (And.intro hk2 (And.intro hb2 (And.intro hbw hyw)))
    clear hg' hk' hb' hc' hk2 hb2 hgat hbw hyw y0 HC
    cases r
    · have hlm : (pre ++ [x]).length = Lm := by rw [HE.out.2]; simp at hr; omega
      have HLM := Lib.hid hlm
      clear hr hlm
      gi_wp2
      exact ⟨HH.out.1, HG.out, HH.out.2.2.1, rfl, HLM.out⟩
    · have hlm : (pre ++ [x]).length < Lm := by rw [HE.out.2]; simpa using hr
      have HLM := Lib.hid hlm
      clear hr hlm
      gi_wp2
      exact ⟨HH.out.1, HH.out.2.1, HG.out, HH.out.2.2.1, HLM.out, HH.out.2.2.2⟩
  case done =>
    rintro D ys W hD rfl ⟨⟨v, hv, hrow, _⟩, hB', hlt1, hyW⟩ hK
    rw [HF.out] at hrow hlt1
    have ht : l.take Lm = l := List.take_of_length_le (by omega)
    clear hg hg3 hyb hx hx0 hx2 hbm hbk hwf hW0 hBw
    go_wp2
    refine ⟨by simp, .inl ⟨_, _, rfl, run_takeDeferred hK, ?_⟩⟩
    exact ⟨_, by simp [results, Tryz.results46, go_sem], rfl, ⟨v, (hv.kept (grownBy_putObj' W D _) (fun e => by have := (show Boxed W ob _ v from hv); cases e; unfold Boxed at this; rw [hK] at this; cases this)), by rw [ht]; exact ownsRow_putObj hrow _ hK rfl⟩, hB'.trans (belowK_b (w := w) (by omega) W D _ _ (by omega) hK rfl rfl)⟩
  case stop =>
    rintro D c pre W hD hpre ⟨⟨v, hv, hrow, _⟩, hB', rfl, hlen⟩ hK
    rw [HF.out] at hpre
    have ht : l.take Lm = pre := by rw [← hlen]; exact (List.prefix_iff_eq_take.1 hpre).symm
    clear hg hg3 hyb hx hx0 hx2 hbm hbk hwf hW0 hBw
    refine wpIn_wide.2 ?_
    go_wp2
    refine ⟨by simp, .inl ⟨_, _, rfl, run_takeDeferred hK, ?_⟩⟩
    exact ⟨_, by simp [results, Tryz.results46, go_sem], rfl, ⟨v, (hv.kept (grownBy_putObj' W D _) (fun e => by have := (show Boxed W ob _ v from hv); cases e; unfold Boxed at this; rw [hK] at this; cases this)), by rw [ht]; exact ownsRow_putObj hrow _ hK rfl⟩, hB'.trans (belowK_b (w := w) (by omega) W D _ _ (by omega) hK rfl rfl)⟩
end Go.Proofs.YtgcplndmhlideaaGreat
