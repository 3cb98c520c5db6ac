/- The contract of the index's Put. -/
import Derived.Test.YtgcplndmhlideaaGreatIxc
import Derived.Deep.Cut
namespace Go.Proofs.YtgcplndmhlideaaGreat
open Go.RowKit

theorem noPanic_intro {Q : Exit → Act → World → Prop} {a : Act} {w : World} (h : Q .normal a w) : NoPanic Q .normal a w := h
/-- Behind the map of versions. -/
def Cut11 (W7 : World) (xb kv kn : Nat) (i : It) (li : List (Pr It)) (lv : List (Pr Mp)) (wx : World) : Prop :=
  ∃ pb pa w9, wx = w9.setCell ⟨xb, 1, none⟩ (.pointer pb) ∧ Ext W7 w9 ∧ ItAt w9 pa (putL kn i li) ∧ MpAt w9 pb (putL kv pa lv)
set_option maxRecDepth 100000 in
theorem put_no1 (xb : Nat) (u : Int) (x : Ix) (v n b : Int) (w : World) (h : IxAt w xb u x) (e1 : (decide (0 ≤ v) && decide (v ≤ 1099511627776)) = false) :
    Calls Tryz.prog 16 #[.pointer (some ⟨xb, 0, none⟩), .agg #[.int .i64 v, .int .i64 n], .int .i64 b] w (XPost w xb u x (.int .i64 1)) := by
  have hx0 : Ext w (w.alloc (.cells #[.int .i64 v, .int .i64 n] 49)) := (Ext.refl w).alloc _
  have a0 : (w.alloc (.cells #[.int .i64 v, .int .i64 n] 49)).cell? ⟨w.heap.size, 0, none⟩ = some (.int .i64 v) := by simp
  have a1 : (w.alloc (.cells #[.int .i64 v, .int .i64 n] 49)).cell? ⟨w.heap.size, 1, none⟩ = some (.int .i64 n) := by simp
  have c0 : (w.alloc (.cells #[.int .i64 v, .int .i64 n] 49)).cell? ⟨xb, 0, none⟩ = some (.int .i64 u) := by
    obtain ⟨p, q, lv, hb, _⟩ := h
    exact hx0.cell (cell_blk hb 0 rfl)
  have H0 := Lib.hid (h.ext hx0)
  have HV := Lib.hid (rightN_calls v)
  have HN := Lib.hid (rightN_calls n)
  clear h
  go_enter Tryz.func16, Tryz.ntmps16
  go_wp2_with fail
  generalize w.alloc (.cells #[.int .i64 v, .int .i64 n] 49) = W at *
  generalize hnb : w.heap.size = nb at *
  refine (HV.out W).mono ?_
  rintro e w1 ⟨rfl, hx1⟩
  replace a0 := hx1.cell a0
  replace a1 := hx1.cell a1
  replace c0 := hx1.cell c0
  replace H0 := Lib.hid (H0.out.ext hx1)
  replace hx0 := hx0.trans hx1
  clear hx1 HV
  go_wp2
  go_ret
  exact ⟨rfl, H0.out, Chx.of_ext hx0⟩

set_option maxRecDepth 100000 in
theorem put_no2 (xb : Nat) (u : Int) (x : Ix) (v n b : Int) (w : World) (h : IxAt w xb u x) (e1 : (decide (0 ≤ v) && decide (v ≤ 1099511627776)) = true) (e2 : (decide (0 ≤ n) && decide (n ≤ 1099511627776)) = false) :
    Calls Tryz.prog 16 #[.pointer (some ⟨xb, 0, none⟩), .agg #[.int .i64 v, .int .i64 n], .int .i64 b] w (XPost w xb u x (.int .i64 1)) := by
  have hx0 : Ext w (w.alloc (.cells #[.int .i64 v, .int .i64 n] 49)) := (Ext.refl w).alloc _
  have a0 : (w.alloc (.cells #[.int .i64 v, .int .i64 n] 49)).cell? ⟨w.heap.size, 0, none⟩ = some (.int .i64 v) := by simp
  have a1 : (w.alloc (.cells #[.int .i64 v, .int .i64 n] 49)).cell? ⟨w.heap.size, 1, none⟩ = some (.int .i64 n) := by simp
  have c0 : (w.alloc (.cells #[.int .i64 v, .int .i64 n] 49)).cell? ⟨xb, 0, none⟩ = some (.int .i64 u) := by
    obtain ⟨p, q, lv, hb, _⟩ := h
    exact hx0.cell (cell_blk hb 0 rfl)
  have H0 := Lib.hid (h.ext hx0)
  have HV := Lib.hid (rightN_calls v)
  have HN := Lib.hid (rightN_calls n)
  clear h
  go_enter Tryz.func16, Tryz.ntmps16
  go_wp2_with fail
  generalize w.alloc (.cells #[.int .i64 v, .int .i64 n] 49) = W at *
  generalize hnb : w.heap.size = nb at *
  refine (HV.out W).mono ?_
  rintro e w1 ⟨rfl, hx1⟩
  replace a0 := hx1.cell a0
  replace a1 := hx1.cell a1
  replace c0 := hx1.cell c0
  replace H0 := Lib.hid (H0.out.ext hx1)
  replace hx0 := hx0.trans hx1
  clear hx1 HV
  go_wp2_with fail
  refine (HN.out w1).mono ?_
  rintro e w2 ⟨rfl, hx1⟩
  replace a0 := hx1.cell a0
  replace a1 := hx1.cell a1
  replace c0 := hx1.cell c0
  replace H0 := Lib.hid (H0.out.ext hx1)
  replace hx0 := hx0.trans hx1
  clear hx1 HN
  go_wp2
  go_ret
  exact ⟨rfl, H0.out, Chx.of_ext hx0⟩

set_option maxRecDepth 100000 in
theorem put_no3 (xb : Nat) (u : Int) (x : Ix) (v n b : Int) (w : World) (h : IxAt w xb u x) (e1 : (decide (0 ≤ v) && decide (v ≤ 1099511627776)) = true) (e2 : (decide (0 ≤ n) && decide (n ≤ 1099511627776)) = true) (e3 : b < 1 ∨ u < b) :
    Calls Tryz.prog 16 #[.pointer (some ⟨xb, 0, none⟩), .agg #[.int .i64 v, .int .i64 n], .int .i64 b] w (XPost w xb u x (.int .i64 1)) := by
  have hx0 : Ext w (w.alloc (.cells #[.int .i64 v, .int .i64 n] 49)) := (Ext.refl w).alloc _
  have a0 : (w.alloc (.cells #[.int .i64 v, .int .i64 n] 49)).cell? ⟨w.heap.size, 0, none⟩ = some (.int .i64 v) := by simp
  have a1 : (w.alloc (.cells #[.int .i64 v, .int .i64 n] 49)).cell? ⟨w.heap.size, 1, none⟩ = some (.int .i64 n) := by simp
  have c0 : (w.alloc (.cells #[.int .i64 v, .int .i64 n] 49)).cell? ⟨xb, 0, none⟩ = some (.int .i64 u) := by
    obtain ⟨p, q, lv, hb, _⟩ := h
    exact hx0.cell (cell_blk hb 0 rfl)
  have H0 := Lib.hid (h.ext hx0)
  have HV := Lib.hid (rightN_calls v)
  have HN := Lib.hid (rightN_calls n)
  clear h
  go_enter Tryz.func16, Tryz.ntmps16
  go_wp2_with fail
  generalize w.alloc (.cells #[.int .i64 v, .int .i64 n] 49) = W at *
  generalize hnb : w.heap.size = nb at *
  refine (HV.out W).mono ?_
  rintro e w1 ⟨rfl, hx1⟩
  replace a0 := hx1.cell a0
  replace a1 := hx1.cell a1
  replace c0 := hx1.cell c0
  replace H0 := Lib.hid (H0.out.ext hx1)
  replace hx0 := hx0.trans hx1
  clear hx1 HV
  go_wp2_with fail
  refine (HN.out w1).mono ?_
  rintro e w2 ⟨rfl, hx1⟩
  replace a0 := hx1.cell a0
  replace a1 := hx1.cell a1
  replace c0 := hx1.cell c0
  replace H0 := Lib.hid (H0.out.ext hx1)
  replace hx0 := hx0.trans hx1
  clear hx1 HN
  by_cases e4 : b < 1
  · clear e3
    go_wp2
    go_ret
    exact ⟨rfl, H0.out, Chx.of_ext hx0⟩
  · have e5 : u < b := e3.resolve_left e4
    clear e3
    go_wp2
    go_ret
    exact ⟨rfl, H0.out, Chx.of_ext hx0⟩

set_option maxHeartbeats 1000000 in
set_option maxRecDepth 100000 in
theorem put_twice (xb : Nat) (u : Int) (x : Ix) (v n b : Int) (s : Sl) (w : World) (h : IxAt w xb u x) (hf : Fit u x) (e1 : (decide (0 ≤ v) && decide (v ≤ 1099511627776)) = true) (e2 : (decide (0 ≤ n) && decide (n ≤ 1099511627776)) = true) (e3 : ¬ b < 1) (e4 : ¬ u < b) (hg : getS x.L v n = some s) :
    Calls Tryz.prog 16 #[.pointer (some ⟨xb, 0, none⟩), .agg #[.int .i64 v, .int .i64 n], .int .i64 b] w (XPost w xb u x (.int .i64 7)) := by
  obtain ⟨hv0, hv1⟩ : 0 ≤ v ∧ v ≤ 1099511627776 := by simpa using e1
  obtain ⟨hn0, hn1⟩ : 0 ≤ n ∧ n ≤ 1099511627776 := by simpa using e2
  obtain ⟨kv, rfl⟩ : ∃ k : Nat, v = k := ⟨v.toNat, by omega⟩
  obtain ⟨kn, rfl⟩ : ∃ k : Nat, n = k := ⟨n.toNat, by omega⟩
  have kv1 : kv ≤ 1099511627776 := by omega
  have kn1 : kn ≤ 1099511627776 := by omega
  have hwv : IntKind.u64.wrap (kv : Int) = (kv : Int) := IntWalk.u64_in _ (by omega)
  have hwn : IntKind.u64.wrap (kn : Int) = (kn : Int) := IntWalk.u64_in _ (by omega)
  have hgi := get_items hf.ok (kv : Int) (kn : Int) (by omega)
  rw [Int.toNat_natCast, hg] at hgi
  clear hv0 hv1 hn0 hn1
  have HGET := Lib.hid (show It.getV (getL kn (itemsOf x.L kv)) = .tuple #[.agg #[.int .i64 s.b, .int .i64 s.c], .bool true] by rw [hgi]; rfl)
  obtain ⟨sv, sn, sb, sc⟩ := s
  dsimp only at HGET
  clear hgi hg
  have hx0 : Ext w (w.alloc (.cells #[.int .i64 kv, .int .i64 kn] 49)) := (Ext.refl w).alloc _
  have a0 : (w.alloc (.cells #[.int .i64 kv, .int .i64 kn] 49)).cell? ⟨w.heap.size, 0, none⟩ = some (.int .i64 kv) := by simp
  have a1 : (w.alloc (.cells #[.int .i64 kv, .int .i64 kn] 49)).cell? ⟨w.heap.size, 1, none⟩ = some (.int .i64 kn) := by simp
  have c0 : (w.alloc (.cells #[.int .i64 kv, .int .i64 kn] 49)).cell? ⟨xb, 0, none⟩ = some (.int .i64 u) := by
    obtain ⟨p, q, lv, hb, _⟩ := h
    exact hx0.cell (cell_blk hb 0 rfl)
  have H0 := Lib.hid (h.ext hx0)
  have HV := Lib.hid (rightN_calls kv)
  have HN := Lib.hid (rightN_calls kn)
  clear h
  go_enter Tryz.func16, Tryz.ntmps16
  go_wp2_with fail
  generalize w.alloc (.cells #[.int .i64 kv, .int .i64 kn] 49) = W at *
  generalize hnb : w.heap.size = nb at *
  refine (HV.out W).mono ?_
  rintro e w1 ⟨rfl, hx1⟩
  replace a0 := hx1.cell a0
  replace a1 := hx1.cell a1
  replace c0 := hx1.cell c0
  replace H0 := Lib.hid (H0.out.ext hx1)
  replace hx0 := hx0.trans hx1
  clear hx1 HV
  go_wp2_with fail
  refine (HN.out w1).mono ?_
  rintro e w2 ⟨rfl, hx1⟩
  replace a0 := hx1.cell a0
  replace a1 := hx1.cell a1
  replace c0 := hx1.cell c0
  replace H0 := Lib.hid (H0.out.ext hx1)
  replace hx0 := hx0.trans hx1
  clear hx1 HN
  go_wp2_with fail
  refine (ofx_calls xb u x kv w2 H0.out hf).mono ?_
  rintro e w3 ⟨pm, rfl, hit, hx1⟩
  replace a0 := hx1.cell a0
  replace a1 := hx1.cell a1
  replace H0 := Lib.hid (H0.out.ext hx1)
  replace hx0 := hx0.trans hx1
  clear hx1 c0
  have HX3 := Lib.hid hx0
  have HG := Lib.hid (fun W h => itget_calls pm (itemsOf x.L kv) kn W h (by omega))
  go_upto_region 6 with (fail)
  have hx1 : Ext w3 (w3.alloc (.cells #[.pointer pm] 81)) := (Ext.refl _).alloc _
  have m0 : (w3.alloc (.cells #[.pointer pm] 81)).cell? ⟨w3.heap.size, 0, none⟩ = some (.pointer pm) := by simp
  replace a0 := hx1.cell a0
  replace a1 := hx1.cell a1
  replace H0 := Lib.hid (H0.out.ext hx1)
  replace hx0 := hx0.trans hx1
  replace hit := hit.ext hx1
  clear hx1
  generalize (w3.alloc (.cells #[.pointer pm] 81)) = w4 at *
  have hmb : w.heap.size ≤ w3.heap.size := HX3.out.size
  rw [hnb] at hmb
  generalize w3.heap.size = mb at *
  have HI := Lib.hid hit
  clear hit
  go_wp2_with fail
  refine (HG.out w4 HI.out).mono ?_
  rw [HGET.out]
  rintro e w5 ⟨rfl, hx1⟩
  replace a0 := hx1.cell a0
  replace a1 := hx1.cell a1
  replace m0 := hx1.cell m0
  replace H0 := Lib.hid (H0.out.ext hx1)
  replace hx0 := hx0.trans hx1
  replace HI := Lib.hid (HI.out.ext hx1)
  clear hx1 HG HGET
  clear hwv hwn m0
  generalize itemsOf x.L kv = l at *
  go_wp2
  go_ret
  exact ⟨rfl, H0.out.ext ((Ext.refl _).alloc _), Chx.of_ext (hx0.alloc _)⟩

set_option maxHeartbeats 4000000 in
set_option maxRecDepth 100000 in
theorem put_new (xb : Nat) (u : Int) (x : Ix) (v n b : Int) (w : World) (h : IxAt w xb u x) (hf : Fit u x) (e1 : (decide (0 ≤ v) && decide (v ≤ 1099511627776)) = true) (e2 : (decide (0 ≤ n) && decide (n ≤ 1099511627776)) = true) (e3 : ¬ b < 1) (e4 : ¬ u < b) (hg : getS x.L v n = none) :
    Calls Tryz.prog 16 #[.pointer (some ⟨xb, 0, none⟩), .agg #[.int .i64 v, .int .i64 n], .int .i64 b] w (XPost w xb u (putS x v n b) (.int .i64 0)) := by
  obtain ⟨hv0, hv1⟩ : 0 ≤ v ∧ v ≤ 1099511627776 := by simpa using e1
  obtain ⟨hn0, hn1⟩ : 0 ≤ n ∧ n ≤ 1099511627776 := by simpa using e2
  obtain ⟨kv, rfl⟩ : ∃ k : Nat, v = k := ⟨v.toNat, by omega⟩
  obtain ⟨kn, rfl⟩ : ∃ k : Nat, n = k := ⟨n.toNat, by omega⟩
  have kv1 : kv ≤ 1099511627776 := by omega
  have kn1 : kn ≤ 1099511627776 := by omega
  have hwv : IntKind.u64.wrap (kv : Int) = (kv : Int) := IntWalk.u64_in _ (by omega)
  have hwn : IntKind.u64.wrap (kn : Int) = (kn : Int) := IntWalk.u64_in _ (by omega)
  have hgi := get_items hf.ok (kv : Int) (kn : Int) (by omega)
  rw [Int.toNat_natCast, hg] at hgi
  clear hv0 hv1 hn0 hn1
  have HGET := Lib.hid (show It.getV (getL kn (itemsOf x.L kv)) = .tuple #[.agg #[.int .i64 0, .int .i64 0], .bool false] by rw [hgi]; rfl)
  have HGN := Lib.hid hg
  have HSO := Lib.hid (show SlOk u ⟨kv, kn, b, x.c + 1⟩ from ⟨by show (0:Int) ≤ kv; omega, by show (kv:Int) ≤ _; omega, by show (0:Int) ≤ kn; omega, by show (kn:Int) ≤ _; omega, by show 1 ≤ b; omega, by show b ≤ u; omega⟩)
  have HXW := Lib.hid (show xb < w.heap.size from by obtain ⟨p, q, lv, hb, _⟩ := h; exact (Array.getElem?_eq_some_iff.1 hb).1)
  clear hgi hg
  have hx0 : Ext w (w.alloc (.cells #[.int .i64 kv, .int .i64 kn] 49)) := (Ext.refl w).alloc _
  have a0 : (w.alloc (.cells #[.int .i64 kv, .int .i64 kn] 49)).cell? ⟨w.heap.size, 0, none⟩ = some (.int .i64 kv) := by simp
  have a1 : (w.alloc (.cells #[.int .i64 kv, .int .i64 kn] 49)).cell? ⟨w.heap.size, 1, none⟩ = some (.int .i64 kn) := by simp
  have c0 : (w.alloc (.cells #[.int .i64 kv, .int .i64 kn] 49)).cell? ⟨xb, 0, none⟩ = some (.int .i64 u) := by
    obtain ⟨p, q, lv, hb, _⟩ := h
    exact hx0.cell (cell_blk hb 0 rfl)
  have H0 := Lib.hid (h.ext hx0)
  have HV := Lib.hid (rightN_calls kv)
  have HN := Lib.hid (rightN_calls kn)
  clear h
  go_enter Tryz.func16, Tryz.ntmps16
  go_wp2_with fail
  generalize w.alloc (.cells #[.int .i64 kv, .int .i64 kn] 49) = W at *
  generalize hnb : w.heap.size = nb at *
  refine (HV.out W).mono ?_
  rintro e w1 ⟨rfl, hx1⟩
  replace a0 := hx1.cell a0
  replace a1 := hx1.cell a1
  replace c0 := hx1.cell c0
  replace H0 := Lib.hid (H0.out.ext hx1)
  replace hx0 := hx0.trans hx1
  clear hx1 HV
  go_wp2_with fail
  refine (HN.out w1).mono ?_
  rintro e w2 ⟨rfl, hx1⟩
  replace a0 := hx1.cell a0
  replace a1 := hx1.cell a1
  replace c0 := hx1.cell c0
  replace H0 := Lib.hid (H0.out.ext hx1)
  replace hx0 := hx0.trans hx1
  clear hx1 HN
  go_wp2_with fail
  refine (ofx_calls xb u x kv w2 H0.out hf).mono ?_
  rintro e w3 ⟨pm, rfl, hit, hx1⟩
  replace a0 := hx1.cell a0
  replace a1 := hx1.cell a1
  replace H0 := Lib.hid (H0.out.ext hx1)
  replace hx0 := hx0.trans hx1
  clear hx1 c0
  have HX3 := Lib.hid hx0
  have HG := Lib.hid (fun W h => itget_calls pm (itemsOf x.L kv) kn W h (by omega))
  go_upto_region 6 with (fail)
  have hx1 : Ext w3 (w3.alloc (.cells #[.pointer pm] 81)) := (Ext.refl _).alloc _
  have m0 : (w3.alloc (.cells #[.pointer pm] 81)).cell? ⟨w3.heap.size, 0, none⟩ = some (.pointer pm) := by simp
  replace a0 := hx1.cell a0
  replace a1 := hx1.cell a1
  replace H0 := Lib.hid (H0.out.ext hx1)
  replace hx0 := hx0.trans hx1
  replace hit := hit.ext hx1
  clear hx1
  generalize (w3.alloc (.cells #[.pointer pm] 81)) = w4 at *
  have hmb : w.heap.size ≤ w3.heap.size := HX3.out.size
  rw [hnb] at hmb
  generalize w3.heap.size = mb at *
  have HI := Lib.hid hit
  clear hit
  go_wp2_with fail
  refine (HG.out w4 HI.out).mono ?_
  rw [HGET.out]
  rintro e w5 ⟨rfl, hx1⟩
  replace a0 := hx1.cell a0
  replace a1 := hx1.cell a1
  replace m0 := hx1.cell m0
  replace H0 := Lib.hid (H0.out.ext hx1)
  replace hx0 := hx0.trans hx1
  replace HI := Lib.hid (HI.out.ext hx1)
  clear hx1 HG HGET
  have hxw : xb < nb := HXW.out
  have hlen : (itemsOf x.L kv).length ≤ 1000 := by have := items_len x.L kv; have := hf.len; omega
  have hsum := sum_le hf
  have hc0 := hf.ok.c0
  have hc1 := hf.c1
  have hu1 := hf.u1
  obtain ⟨p, q, lv, hb, hmp, hnm, hvs⟩ := H0.out
  have hlv : lv.length ≤ 1000 := by have := vers_len hmp hvs hf; have := hf.len; omega
  have hcl : (cntOf x.L).length ≤ 1000 := by have := hf.len; simp [cntOf]; omega
  have HFIN := Lib.hid (fun (W : World) (pp qq pa : Option Addr) => ix_put (w := W) (xb := xb) (u := u) (x := x) (kv := kv) (kn := kn) (b := b) (p := pp) (q := qq) (p' := pa) (lv := lv) hf HGN.out HSO.out)
  obtain ⟨c0, hcc⟩ : ∃ c0, x.c = c0 := ⟨_, rfl⟩
  obtain ⟨t, ht⟩ : ∃ t, sumS x.L = t := ⟨_, rfl⟩
  rw [hcc] at hb HFIN hc0 hc1
  rw [ht] at hb HFIN hsum
  obtain ⟨hs0, hs1⟩ := hsum
  obtain ⟨c, hc⟩ : ∃ c : Nat, c0 + 1 = c := ⟨(c0 + 1).toNat, by omega⟩
  have hcw : IntKind.i64.wrap (c0 + 1) = c := by rw [IntWalk.i64_in _ (by omega)]; exact hc
  have htw : IntKind.i64.wrap (t + b) = t + b := by rw [IntWalk.i64_in _ (by omega)]
  have hcu : IntKind.u64.wrap (c : Int) = c := IntWalk.u64_in _ (by omega)
  have hc64 : c < 2 ^ 64 := by omega
  rw [hc] at HFIN
  generalize cntOf x.L = lc at *
  generalize itemsOf x.L kv = li at *
  have HVS := Lib.hid hvs
  have HMP := Lib.hid hmp
  have HNM := Lib.hid hnm
  have HCL := Lib.hid (And.intro hlv (And.intro hcl hlen))
  clear hcc hc0 hc1 hc ht hvs hmp hnm H0 HSO HGN hf hs0 hs1 hu1 hlv hcl hlen
  go_upto_region 9 with (fail)
  have hx1 : Ext w5 (w5.alloc (.cells #[.int .i64 0, .int .i64 0] 95)) := (Ext.refl _).alloc _
  replace a0 := hx1.cell a0
  replace a1 := hx1.cell a1
  replace m0 := hx1.cell m0
  replace hb := hx1.block hb
  replace hx0 := hx0.trans hx1
  replace HI := Lib.hid (HI.out.ext hx1)
  replace HVS := Lib.hid (HVS.out.ext hx1)
  replace HMP := Lib.hid (HMP.out.ext hx1)
  replace HNM := Lib.hid (HNM.out.ext hx1)
  clear hx1
  generalize (w5.alloc (.cells #[.int .i64 0, .int .i64 0] 95)) = w6 at *
  have hap : Apt xb w6 := Apt.ix hb
  have c3 : w6.cell? ⟨xb, 3, none⟩ = some (.int .i64 c0) := cell_blk hb 3 rfl
  have f3 : w6.frozen? ⟨xb, 3, none⟩ = false := frozen_blk hb 3
  have hb1 := heap_setCell_same w6 xb 3 _ _ (.int .i64 c) hb
  have c4 : (w6.setCell ⟨xb, 3, none⟩ (.int .i64 c)).cell? ⟨xb, 4, none⟩ = some (.int .i64 t) := cell_blk hb1 4 rfl
  have f4 : (w6.setCell ⟨xb, 3, none⟩ (.int .i64 c)).frozen? ⟨xb, 4, none⟩ = false := frozen_blk hb1 4
  have hb2 := heap_setCell_same _ xb 4 _ _ (.int .i64 (t + b)) hb1
  replace a0 := (World.cell?_setCell_far _ ⟨xb, 4, none⟩ ⟨nb, 0, none⟩ (.int .i64 (t + b)) (by show xb ≠ nb; omega)).trans ((World.cell?_setCell_far w6 ⟨xb, 3, none⟩ ⟨nb, 0, none⟩ (.int .i64 c) (by show xb ≠ nb; omega)).trans a0)
  replace a1 := (World.cell?_setCell_far _ ⟨xb, 4, none⟩ ⟨nb, 1, none⟩ (.int .i64 (t + b)) (by show xb ≠ nb; omega)).trans ((World.cell?_setCell_far w6 ⟨xb, 3, none⟩ ⟨nb, 1, none⟩ (.int .i64 c) (by show xb ≠ nb; omega)).trans a1)
  replace m0 := (World.cell?_setCell_far _ ⟨xb, 4, none⟩ ⟨mb, 0, none⟩ (.int .i64 (t + b)) (by show xb ≠ mb; omega)).trans ((World.cell?_setCell_far w6 ⟨xb, 3, none⟩ ⟨mb, 0, none⟩ (.int .i64 c) (by show xb ≠ mb; omega)).trans m0)
  have hCH := ((Chx.of_ext (xb := xb) hx0).set 3 (.int .i64 c)).set 4 (.int .i64 (t + b))
  have HB2 := Lib.hid hb2
  have hi2 := (HI.out.set hap 3 (.int .i64 c)).set (hap.set 3 (.int .i64 c)) 4 (.int .i64 (t + b))
  have hv2 := (HVS.out.set hap 3 (.int .i64 c)).set (hap.set 3 (.int .i64 c)) 4 (.int .i64 (t + b))
  have hm2 := (HMP.out.set hap 3 (.int .i64 c)).set (hap.set 3 (.int .i64 c)) 4 (.int .i64 (t + b))
  have hn2 := (HNM.out.set hap 3 (.int .i64 c)).set (hap.set 3 (.int .i64 c)) 4 (.int .i64 (t + b))
  replace HI := Lib.hid hi2
  replace HVS := Lib.hid hv2
  replace HMP := Lib.hid hm2
  replace HNM := Lib.hid hn2
  replace hCH := Lib.hid hCH
  clear hi2 hv2 hm2 hn2 hb hb1 hb2 hap hx0
  go_upto_region 11 with (fail)
  clear c3 f3 c4 f4
  generalize ((w6.setCell ⟨xb, 3, none⟩ (.int .i64 c)).setCell ⟨xb, 4, none⟩ (.int .i64 (t + b))) = W7 at *
  have HBK := Lib.hid (show W7.heap[xb]? = some (.cells #[.int .i64 u, .pointer p, .pointer q, .int .i64 c, .int .i64 (t + b)] 77 (0, 0)) from HB2.out)
  have c1 : W7.cell? ⟨xb, 1, none⟩ = some (.pointer p) := cell_blk HBK.out 1 rfl
  have c3 : W7.cell? ⟨xb, 3, none⟩ = some (.int .i64 c) := cell_blk HBK.out 3 rfl
  have HA : Hid (∀ W, Ext W7 W → Calls Tryz.prog 37 #[.agg #[.pointer pm], .int .u64 kn, .agg #[.int .i64 b, .int .i64 c]] W (OfPost W (putL kn ⟨b, c⟩ li))) := Lib.hid fun W hx => itput_calls pm li kn ⟨b, c⟩ W (HI.out.ext hx) (by omega) HCL.out.2.2
  have HB : Hid (∀ pa W, Ext W7 W → Calls Tryz.prog 36 #[.agg #[.pointer p], .int .u64 kv, .agg #[.pointer pa]] W (MpPost W (putL kv pa lv))) := Lib.hid fun pa W hx => mpput_calls p lv kv pa W (HMP.out.ext hx) (by omega) HCL.out.1
  have keep : Hid (∀ W', Ext W7 W' → W'.cell? ⟨nb, 0, none⟩ = some (.int .i64 kv) ∧ W'.cell? ⟨nb, 1, none⟩ = some (.int .i64 kn) ∧ W'.cell? ⟨mb, 0, none⟩ = some (.pointer pm) ∧ W'.cell? ⟨xb, 3, none⟩ = some (.int .i64 c)) := Lib.hid fun W' hE => ⟨hE.cell a0, hE.cell a1, hE.cell m0, hE.cell c3⟩
  have keep1 : Hid (∀ W', Ext W7 W' → ∀ v, (W'.setCell ⟨xb, 1, none⟩ v).cell? ⟨nb, 0, none⟩ = some (.int .i64 kv) ∧ (W'.setCell ⟨xb, 1, none⟩ v).cell? ⟨nb, 1, none⟩ = some (.int .i64 kn) ∧ (W'.setCell ⟨xb, 1, none⟩ v).cell? ⟨mb, 0, none⟩ = some (.pointer pm) ∧ (W'.setCell ⟨xb, 1, none⟩ v).cell? ⟨xb, 3, none⟩ = some (.int .i64 c)) := Lib.hid fun W' hE v => ⟨(World.cell?_setCell_far _ _ _ v (by show xb ≠ nb; omega)).trans (hE.cell a0), (World.cell?_setCell_far _ _ _ v (by show xb ≠ nb; omega)).trans (hE.cell a1), (World.cell?_setCell_far _ _ _ v (by show xb ≠ mb; omega)).trans (hE.cell m0), cell_blk (heap_setCell_same W' xb 1 _ _ v (hE.block HBK.out)) 3 rfl⟩
  clear HB2
  go_cut [] from 62 to 83 (fun wx => Cut11 W7 xb kv kn ⟨b, c⟩ li lv wx)
  case first =>
    refine wp_region_noPanic ?_
    refine wp_region_held_drew (S := fun w' => w'.cell? ⟨nb, 0, none⟩ = some (.int .i64 kv) ∧ w'.cell? ⟨nb, 1, none⟩ = some (.int .i64 kn) ∧ w'.cell? ⟨mb, 0, none⟩ = some (.pointer pm) ∧ w'.cell? ⟨xb, 3, none⟩ = some (.int .i64 c)) (by kernel_rfl) ?_ (fun hHeld => ?_)
    · exact keep.out _ (Ext.refl W7).drew
    refine wpAnyH_take (i := 0) (v := ?_) rfl (by kernel_rfl) (by kernel_rfl) (by kernel_rfl) (fun _ _ _ h => h) (Or.inl ⟨by rfl, ?_⟩) (by assumption) ?_
    rotate_left
    · intro w hSw
      try dsimp only at hSw
      go_simp
      try with_reducible rfl
    try simp only [Act.put]
    try simp only [List.setIfInBounds_toArray]
    try simp only [List.set_cons_succ]
    try simp only [List.set_cons_zero]
    refine wpAnyH_take (i := 1) (v := ?_) rfl (by kernel_rfl) (by kernel_rfl) (by kernel_rfl) (fun _ _ _ h => h) (Or.inl ⟨by rfl, ?_⟩) (by assumption) ?_
    rotate_left
    · intro w hSw
      try dsimp only at hSw
      go_simp
      try with_reducible rfl
    try simp only [Act.put]
    try simp only [List.setIfInBounds_toArray]
    try simp only [List.set_cons_succ]
    try simp only [List.set_cons_zero]
    refine wpAnyH_take (i := 2) (v := ?_) rfl (by kernel_rfl) (by kernel_rfl) (by kernel_rfl) (fun _ _ _ h => h) (Or.inl ⟨by rfl, ?_⟩) (by assumption) ?_
    rotate_left
    · intro w hSw
      try dsimp only at hSw
      go_simp
      try with_reducible rfl
    try simp only [Act.put]
    try simp only [List.setIfInBounds_toArray]
    try simp only [List.set_cons_succ]
    try simp only [List.set_cons_zero]
    refine wpAnyH_take (i := 3) (v := ?_) rfl (by kernel_rfl) (by kernel_rfl) (by kernel_rfl) (fun _ _ _ h => h) (Or.inl ⟨by rfl, ?_⟩) (by assumption) ?_
    rotate_left
    · intro w hSw
      try dsimp only at hSw
      go_simp
      try with_reducible rfl
    try simp only [Act.put]
    try simp only [List.setIfInBounds_toArray]
    try simp only [List.set_cons_succ]
    try simp only [List.set_cons_zero]
    refine wpAnyH_take (i := 5) (v := ?_) rfl (by kernel_rfl) (by kernel_rfl) (by kernel_rfl) (fun _ _ _ h => h) (Or.inl ⟨by rfl, ?_⟩) (by assumption) ?_
    rotate_left
    · intro w hSw
      try dsimp only at hSw
      go_simp
      try with_reducible rfl
    try simp only [Act.put]
    try simp only [List.setIfInBounds_toArray]
    try simp only [List.set_cons_succ]
    try simp only [List.set_cons_zero]
    refine wpAnyH_take (i := 6) (v := ?_) rfl (by kernel_rfl) (by kernel_rfl) (by kernel_rfl) (fun _ _ _ h => h) (Or.inl ⟨by rfl, ?_⟩) (by assumption) ?_
    rotate_left
    · intro w hSw
      try dsimp only at hSw
      go_simp
      try with_reducible rfl
    try simp only [Act.put]
    try simp only [List.setIfInBounds_toArray]
    try simp only [List.set_cons_succ]
    try simp only [List.set_cons_zero]
    refine wpAnyH_take (i := 7) (v := ?_) rfl (by kernel_rfl) (by kernel_rfl) (by kernel_rfl) (fun _ _ _ h => h) (Or.inl ⟨by rfl, ?_⟩) (by assumption) ?_
    rotate_left
    · intro w hSw
      try dsimp only at hSw
      go_simp
      try with_reducible rfl
    try simp only [Act.put]
    try simp only [List.setIfInBounds_toArray]
    try simp only [List.set_cons_succ]
    try simp only [List.set_cons_zero]
    refine wpAnyH_take (i := 8) (v := ?_) rfl (by kernel_rfl) (by kernel_rfl) (by kernel_rfl) (fun _ _ _ h => h) (Or.inl ⟨by rfl, ?_⟩) (by assumption) ?_
    rotate_left
    · intro w hSw
      try dsimp only at hSw
      go_simp
      try with_reducible rfl
    try simp only [Act.put]
    try simp only [List.setIfInBounds_toArray]
    try simp only [List.set_cons_succ]
    try simp only [List.set_cons_zero]
    refine wpAnyH_take (i := 9) (v := ?_) rfl (by kernel_rfl) (by kernel_rfl) (by kernel_rfl) (fun _ _ _ h => h) (Or.inl ⟨by rfl, ?_⟩) (by assumption) ?_
    rotate_left
    · intro w hSw
      try dsimp only at hSw
      go_simp
      try with_reducible rfl
    try simp only [Act.put]
    try simp only [List.setIfInBounds_toArray]
    try simp only [List.set_cons_succ]
    try simp only [List.set_cons_zero]
    refine wpAnyH_take (i := 10) (v := ?_) rfl (by kernel_rfl) (by kernel_rfl) (by kernel_rfl) (fun _ _ _ h => h) (Or.inl ⟨by rfl, ?_⟩) (by assumption) ?_
    rotate_left
    · intro w hSw
      try dsimp only at hSw
      go_simp
      try with_reducible rfl
    try simp only [Act.put]
    try simp only [List.setIfInBounds_toArray]
    try simp only [List.set_cons_succ]
    try simp only [List.set_cons_zero]
    refine wpAnyH_take (i := 11) (v := ?_) rfl (by kernel_rfl) (by kernel_rfl) (by kernel_rfl) (fun _ _ _ h => h) (Or.inl ⟨by rfl, ?_⟩) (by assumption) ?_
    rotate_left
    · intro w hSw
      try dsimp only at hSw
      go_simp
      try with_reducible rfl
    try simp only [Act.put]
    try simp only [List.setIfInBounds_toArray]
    try simp only [List.set_cons_succ]
    try simp only [List.set_cons_zero]
    refine wpAnyH_take (i := 12) (v := ?_) rfl (by kernel_rfl) (by kernel_rfl) (by kernel_rfl) (fun _ _ _ h => h) (Or.inl ⟨by rfl, ?_⟩) (by assumption) ?_
    rotate_left
    · intro w hSw
      try dsimp only at hSw
      go_simp
      try with_reducible rfl
    try simp only [Act.put]
    try simp only [List.setIfInBounds_toArray]
    try simp only [List.set_cons_succ]
    try simp only [List.set_cons_zero]
    refine wpAnyH_take (i := 13) (v := ?_) rfl (by kernel_rfl) (by kernel_rfl) (by kernel_rfl) (fun _ _ _ h => h) (Or.inl ⟨by rfl, ?_⟩) (by assumption) ?_
    rotate_left
    · intro w hSw
      try dsimp only at hSw
      go_simp
      try with_reducible rfl
    try simp only [Act.put]
    try simp only [List.setIfInBounds_toArray]
    try simp only [List.set_cons_succ]
    try simp only [List.set_cons_zero]
    refine wpAnyH_take (i := 14) (v := ?_) rfl (by kernel_rfl) (by kernel_rfl) (by kernel_rfl) (fun _ _ _ h => h) (Or.inl ⟨by rfl, ?_⟩) (by assumption) ?_
    rotate_left
    · intro w hSw
      try dsimp only at hSw
      go_simp
      try with_reducible rfl
    try simp only [Act.put]
    try simp only [List.setIfInBounds_toArray]
    try simp only [List.set_cons_succ]
    try simp only [List.set_cons_zero]
    refine wpAnyH_take (i := 15) (v := ?_) rfl (by kernel_rfl) (by kernel_rfl) (by kernel_rfl) (fun _ _ _ h => h) (Or.inl ⟨by rfl, ?_⟩) (by assumption) ?_
    rotate_left
    · intro w hSw
      try dsimp only at hSw
      go_simp
      try with_reducible rfl
    try simp only [Act.put]
    try simp only [List.setIfInBounds_toArray]
    try simp only [List.set_cons_succ]
    try simp only [List.set_cons_zero]
    refine wpAnyH_take (i := 16) (v := ?_) rfl (by kernel_rfl) (by kernel_rfl) (by kernel_rfl) (fun _ _ _ h => h) (Or.inl ⟨by rfl, ?_⟩) (by assumption) ?_
    rotate_left
    · intro w hSw
      try dsimp only at hSw
      go_simp
      try with_reducible rfl
    try simp only [Act.put]
    try simp only [List.setIfInBounds_toArray]
    try simp only [List.set_cons_succ]
    try simp only [List.set_cons_zero]
    refine wpAnyH_take (i := 17) (v := ?_) rfl (by kernel_rfl) (by kernel_rfl) (by kernel_rfl) (fun _ _ _ h => h) (Or.inl ⟨by rfl, ?_⟩) (by assumption) ?_
    rotate_left
    · intro w hSw
      try dsimp only at hSw
      go_simp
      try with_reducible rfl
    try simp only [Act.put]
    try simp only [List.setIfInBounds_toArray]
    try simp only [List.set_cons_succ]
    try simp only [List.set_cons_zero]
    refine wpAnyH_ready (rs := [4, 18]) (by kernel_rfl) (by simp) ?_
    refine AllReadyH.cons rfl (fun K hK => ?_) (AllReadyH.cons rfl (fun K hK => ?_) AllReadyH.nil)
    · have e5' := (show Ext W7 W7.drew from (Ext.refl W7).drew).cell c1
      go_simp
      clear e5'
      refine hK.out _ _ ?_ (fun hHeld2 => ?_)
      · exact keep.out _ (Ext.refl W7).drew
      clear hHeld
      have hHeld := hHeld2
      clear hHeld2 hK K
      try simp only [Act.put]
      try simp only [List.setIfInBounds_toArray]
      try simp only [List.set_cons_succ]
      try simp only [List.set_cons_zero]
      refine wpAnyH_ready (rs := [18]) (by kernel_rfl) (by simp) ?_
      refine AllReadyH.cons rfl (fun K hK => ?_) AllReadyH.nil
      go_simp
      refine (HA.out _ ((show Ext W7 _ by exact (Ext.refl W7).drew))).mono ?_
      rintro e w8 ⟨pa, rfl, hia, hxa⟩
      replace hxa := (show Ext W7 _ by exact (Ext.refl W7).drew).trans hxa
      go_simp
      refine hK.out _ _ ?_ (fun hHeld2 => ?_)
      · exact keep.out _ hxa
      clear hHeld
      have hHeld := hHeld2
      clear hHeld2 hK K
      try simp only [Act.put]
      try simp only [List.setIfInBounds_toArray]
      try simp only [List.set_cons_succ]
      try simp only [List.set_cons_zero]
      refine wpAnyH_ready (rs := [19]) (by kernel_rfl) (by simp) ?_
      refine AllReadyH.cons rfl (fun K hK => ?_) AllReadyH.nil
      go_simp
      refine (HB.out pa _ hxa).mono ?_
      rintro e w9 ⟨pb, rfl, hib, hxb⟩
      have hxc := hxa.trans hxb
      have q1 : w9.cell? ⟨xb, 1, none⟩ = some (.pointer p) := hxc.cell c1
      have q2 : w9.frozen? ⟨xb, 1, none⟩ = false := frozen_blk (hxc.block HBK.out) 1
      go_simp
      refine hK.out _ _ ?_ (fun hHeld2 => ?_)
      · exact keep.out _ hxc
      clear hHeld
      have hHeld := hHeld2
      clear hHeld2 hK K
      try simp only [Act.put]
      try simp only [List.setIfInBounds_toArray]
      try simp only [List.set_cons_succ]
      try simp only [List.set_cons_zero]
      refine wpAnyH_take (i := 20) (v := ?_) rfl (by kernel_rfl) (by kernel_rfl) (by kernel_rfl) (fun _ _ _ h => h) (Or.inl ⟨by rfl, ?_⟩) (by assumption) ?_
      rotate_left
      · intro w hSw
        try dsimp only at hSw
        go_simp
        try with_reducible rfl
      try simp only [Act.put]
      try simp only [List.setIfInBounds_toArray]
      try simp only [List.set_cons_succ]
      try simp only [List.set_cons_zero]
      refine wpAnyH_take (i := 21) (v := ?_) rfl (by kernel_rfl) (by kernel_rfl) (by kernel_rfl) (fun _ _ _ h => h) (Or.inl ⟨by rfl, ?_⟩) (by assumption) ?_
      rotate_left
      · intro w hSw
        try dsimp only at hSw
        go_simp
        try with_reducible rfl
      try simp only [Act.put]
      try simp only [List.setIfInBounds_toArray]
      try simp only [List.set_cons_succ]
      try simp only [List.set_cons_zero]
      refine wpAnyH_ready (rs := [22]) (by kernel_rfl) (by simp) ?_
      refine AllReadyH.cons rfl (fun K hK => ?_) AllReadyH.nil
      go_simp
      refine hK.out _ _ ?_ (fun hHeld2 => ?_)
      · exact keep1.out _ hxc _
      clear hHeld hHeld2 hK K
      try simp only [Act.put]
      try simp only [List.setIfInBounds_toArray]
      try simp only [List.set_cons_succ]
      try simp only [List.set_cons_zero]
      refine wpAnyH_done (by kernel_rfl) ?_ _
      refine noPanic_intro ?_
      go_wp2_with fail
      go_meet
      case rel => exact ⟨pb, pa, w9, rfl, hxc, hia.ext hxb, hib⟩
    · go_simp
      refine (HA.out _ ((show Ext W7 _ by exact (Ext.refl W7).drew))).mono ?_
      rintro e w8 ⟨pa, rfl, hia, hxa⟩
      replace hxa := (show Ext W7 _ by exact (Ext.refl W7).drew).trans hxa
      go_simp
      refine hK.out _ _ ?_ (fun hHeld2 => ?_)
      · exact keep.out _ hxa
      clear hHeld
      have hHeld := hHeld2
      clear hHeld2 hK K
      try simp only [Act.put]
      try simp only [List.setIfInBounds_toArray]
      try simp only [List.set_cons_succ]
      try simp only [List.set_cons_zero]
      refine wpAnyH_ready (rs := [4]) (by kernel_rfl) (by simp) ?_
      refine AllReadyH.cons rfl (fun K hK => ?_) AllReadyH.nil
      have e5' := hxa.cell c1
      go_simp
      clear e5'
      refine hK.out _ _ ?_ (fun hHeld2 => ?_)
      · exact keep.out _ hxa
      clear hHeld
      have hHeld := hHeld2
      clear hHeld2 hK K
      try simp only [Act.put]
      try simp only [List.setIfInBounds_toArray]
      try simp only [List.set_cons_succ]
      try simp only [List.set_cons_zero]
      refine wpAnyH_ready (rs := [19]) (by kernel_rfl) (by simp) ?_
      refine AllReadyH.cons rfl (fun K hK => ?_) AllReadyH.nil
      go_simp
      refine (HB.out pa _ hxa).mono ?_
      rintro e w9 ⟨pb, rfl, hib, hxb⟩
      have hxc := hxa.trans hxb
      have q1 : w9.cell? ⟨xb, 1, none⟩ = some (.pointer p) := hxc.cell c1
      have q2 : w9.frozen? ⟨xb, 1, none⟩ = false := frozen_blk (hxc.block HBK.out) 1
      go_simp
      refine hK.out _ _ ?_ (fun hHeld2 => ?_)
      · exact keep.out _ hxc
      clear hHeld
      have hHeld := hHeld2
      clear hHeld2 hK K
      try simp only [Act.put]
      try simp only [List.setIfInBounds_toArray]
      try simp only [List.set_cons_succ]
      try simp only [List.set_cons_zero]
      refine wpAnyH_take (i := 20) (v := ?_) rfl (by kernel_rfl) (by kernel_rfl) (by kernel_rfl) (fun _ _ _ h => h) (Or.inl ⟨by rfl, ?_⟩) (by assumption) ?_
      rotate_left
      · intro w hSw
        try dsimp only at hSw
        go_simp
        try with_reducible rfl
      try simp only [Act.put]
      try simp only [List.setIfInBounds_toArray]
      try simp only [List.set_cons_succ]
      try simp only [List.set_cons_zero]
      refine wpAnyH_take (i := 21) (v := ?_) rfl (by kernel_rfl) (by kernel_rfl) (by kernel_rfl) (fun _ _ _ h => h) (Or.inl ⟨by rfl, ?_⟩) (by assumption) ?_
      rotate_left
      · intro w hSw
        try dsimp only at hSw
        go_simp
        try with_reducible rfl
      try simp only [Act.put]
      try simp only [List.setIfInBounds_toArray]
      try simp only [List.set_cons_succ]
      try simp only [List.set_cons_zero]
      refine wpAnyH_ready (rs := [22]) (by kernel_rfl) (by simp) ?_
      refine AllReadyH.cons rfl (fun K hK => ?_) AllReadyH.nil
      go_simp
      refine hK.out _ _ ?_ (fun hHeld2 => ?_)
      · exact keep1.out _ hxc _
      clear hHeld hHeld2 hK K
      try simp only [Act.put]
      try simp only [List.setIfInBounds_toArray]
      try simp only [List.set_cons_succ]
      try simp only [List.set_cons_zero]
      refine wpAnyH_done (by kernel_rfl) ?_ _
      refine noPanic_intro ?_
      go_wp2_with fail
      go_meet
      case rel => exact ⟨pb, pa, w9, rfl, hxc, hia.ext hxb, hib⟩

  case rest =>
    clear HA HB keep keep1 c1 c3
    obtain ⟨pb, pa, w9, rfl, hx9, hia, hib⟩ := hcut
    have hb9 := hx9.block HBK.out
    have hap9 : Apt xb w9 := Apt.ix hb9
    have hba := heap_setCell_same w9 xb 1 _ _ (.pointer pb) hb9
    have HI2 := Lib.hid (hia.set hap9 1 (.pointer pb))
    have HM2 := Lib.hid (hib.set hap9 1 (.pointer pb))
    have HV2 := Lib.hid ((HVS.out.ext hx9).set hap9 1 (.pointer pb))
    have HN2 := Lib.hid ((HNM.out.ext hx9).set hap9 1 (.pointer pb))
    have HC2 := Lib.hid ((hCH.out.trans (Chx.of_ext hx9)).set 1 (.pointer pb))
    have b0 : (w9.setCell ⟨xb, 1, none⟩ (.pointer pb)).cell? ⟨nb, 0, none⟩ = some (.int .i64 kv) := (World.cell?_setCell_far _ _ _ _ (by show xb ≠ nb; omega)).trans (hx9.cell a0)
    have b1 : (w9.setCell ⟨xb, 1, none⟩ (.pointer pb)).cell? ⟨nb, 1, none⟩ = some (.int .i64 kn) := (World.cell?_setCell_far _ _ _ _ (by show xb ≠ nb; omega)).trans (hx9.cell a1)
    have HUP := Lib.hid HMP.out.up
    clear hia hib hb9 hap9 hx9 a0 a1 m0 HI HMP HVS HNM hCH HBK
    generalize w9.setCell ⟨xb, 1, none⟩ (.pointer pb) = Wa at *
    have HBK := Lib.hid (show Wa.heap[xb]? = some (.cells #[.int .i64 u, .pointer pb, .pointer q, .int .i64 c, .int .i64 (t + b)] 77 (0, 0)) from hba)
    have c2 : Wa.cell? ⟨xb, 2, none⟩ = some (.pointer q) := cell_blk HBK.out 2 rfl
    have c3 : Wa.cell? ⟨xb, 3, none⟩ = some (.int .i64 c) := cell_blk HBK.out 3 rfl
    have HC : Hid (∀ W, Ext Wa W → Calls Tryz.prog 38 #[.agg #[.pointer q], .int .u64 c, .agg #[.int .i64 kv, .int .i64 kn]] W (NmPost W (putL c ⟨kv, kn⟩ lc))) := Lib.hid fun W hx => nmput_calls q lc c ⟨kv, kn⟩ W (HN2.out.ext hx) hc64 HCL.out.2.1
    have keep : Hid (∀ W', Ext Wa W' → W'.cell? ⟨nb, 0, none⟩ = some (.int .i64 kv) ∧ W'.cell? ⟨nb, 1, none⟩ = some (.int .i64 kn) ∧ W'.cell? ⟨xb, 3, none⟩ = some (.int .i64 c)) := Lib.hid fun W' hE => ⟨hE.cell b0, hE.cell b1, hE.cell c3⟩
    have keep2 : Hid (∀ W', Ext Wa W' → ∀ v, (W'.setCell ⟨xb, 2, none⟩ v).cell? ⟨nb, 0, none⟩ = some (.int .i64 kv) ∧ (W'.setCell ⟨xb, 2, none⟩ v).cell? ⟨nb, 1, none⟩ = some (.int .i64 kn) ∧ (W'.setCell ⟨xb, 2, none⟩ v).cell? ⟨xb, 3, none⟩ = some (.int .i64 c)) := Lib.hid fun W' hE v => ⟨(World.cell?_setCell_far _ _ _ v (by show xb ≠ nb; omega)).trans (hE.cell b0), (World.cell?_setCell_far _ _ _ v (by show xb ≠ nb; omega)).trans (hE.cell b1), cell_blk (heap_setCell_same W' xb 2 _ _ v (hE.block HBK.out)) 3 rfl⟩
    clear hba
    go_upto_region 12 with (fail)
    refine wp_region_noPanic ?_
    refine wp_region_held_drew (S := fun w' => w'.cell? ⟨nb, 0, none⟩ = some (.int .i64 kv) ∧ w'.cell? ⟨nb, 1, none⟩ = some (.int .i64 kn) ∧ w'.cell? ⟨xb, 3, none⟩ = some (.int .i64 c)) (by kernel_rfl) ?_ (fun hHeld => ?_)
    · exact keep.out _ (Ext.refl Wa).drew
    refine wpAnyH_take (i := 0) (v := ?_) rfl (by kernel_rfl) (by kernel_rfl) (by kernel_rfl) (fun _ _ _ h => h) (Or.inl ⟨by rfl, ?_⟩) (by assumption) ?_
    rotate_left
    · intro w hSw
      try dsimp only at hSw
      go_simp
      try with_reducible rfl
    try simp only [Act.put]
    try simp only [List.setIfInBounds_toArray]
    try simp only [List.set_cons_succ]
    try simp only [List.set_cons_zero]
    refine wpAnyH_take (i := 1) (v := ?_) rfl (by kernel_rfl) (by kernel_rfl) (by kernel_rfl) (fun _ _ _ h => h) (Or.inl ⟨by rfl, ?_⟩) (by assumption) ?_
    rotate_left
    · intro w hSw
      try dsimp only at hSw
      go_simp
      try with_reducible rfl
    try simp only [Act.put]
    try simp only [List.setIfInBounds_toArray]
    try simp only [List.set_cons_succ]
    try simp only [List.set_cons_zero]
    refine wpAnyH_take (i := 2) (v := ?_) rfl (by kernel_rfl) (by kernel_rfl) (by kernel_rfl) (fun _ _ _ h => h) (Or.inl ⟨by rfl, ?_⟩) (by assumption) ?_
    rotate_left
    · intro w hSw
      try dsimp only at hSw
      go_simp
      try with_reducible rfl
    try simp only [Act.put]
    try simp only [List.setIfInBounds_toArray]
    try simp only [List.set_cons_succ]
    try simp only [List.set_cons_zero]
    refine wpAnyH_take (i := 3) (v := ?_) rfl (by kernel_rfl) (by kernel_rfl) (by kernel_rfl) (fun _ _ _ h => h) (Or.inl ⟨by rfl, ?_⟩) (by assumption) ?_
    rotate_left
    · intro w hSw
      try dsimp only at hSw
      go_simp
      try with_reducible rfl
    try simp only [Act.put]
    try simp only [List.setIfInBounds_toArray]
    try simp only [List.set_cons_succ]
    try simp only [List.set_cons_zero]
    refine wpAnyH_take (i := 5) (v := ?_) rfl (by kernel_rfl) (by kernel_rfl) (by kernel_rfl) (fun _ _ _ h => h) (Or.inl ⟨by rfl, ?_⟩) (by assumption) ?_
    rotate_left
    · intro w hSw
      try dsimp only at hSw
      go_simp
      try with_reducible rfl
    try simp only [Act.put]
    try simp only [List.setIfInBounds_toArray]
    try simp only [List.set_cons_succ]
    try simp only [List.set_cons_zero]
    refine wpAnyH_take (i := 6) (v := ?_) rfl (by kernel_rfl) (by kernel_rfl) (by kernel_rfl) (fun _ _ _ h => h) (Or.inl ⟨by rfl, ?_⟩) (by assumption) ?_
    rotate_left
    · intro w hSw
      try dsimp only at hSw
      go_simp
      try with_reducible rfl
    try simp only [Act.put]
    try simp only [List.setIfInBounds_toArray]
    try simp only [List.set_cons_succ]
    try simp only [List.set_cons_zero]
    refine wpAnyH_take (i := 7) (v := ?_) rfl (by kernel_rfl) (by kernel_rfl) (by kernel_rfl) (fun _ _ _ h => h) (Or.inl ⟨by rfl, ?_⟩) (by assumption) ?_
    rotate_left
    · intro w hSw
      try dsimp only at hSw
      go_simp
      try with_reducible rfl
    try simp only [Act.put]
    try simp only [List.setIfInBounds_toArray]
    try simp only [List.set_cons_succ]
    try simp only [List.set_cons_zero]
    refine wpAnyH_take (i := 8) (v := ?_) rfl (by kernel_rfl) (by kernel_rfl) (by kernel_rfl) (fun _ _ _ h => h) (Or.inl ⟨by rfl, ?_⟩) (by assumption) ?_
    rotate_left
    · intro w hSw
      try dsimp only at hSw
      go_simp
      try with_reducible rfl
    try simp only [Act.put]
    try simp only [List.setIfInBounds_toArray]
    try simp only [List.set_cons_succ]
    try simp only [List.set_cons_zero]
    refine wpAnyH_take (i := 9) (v := ?_) rfl (by kernel_rfl) (by kernel_rfl) (by kernel_rfl) (fun _ _ _ h => h) (Or.inl ⟨by rfl, ?_⟩) (by assumption) ?_
    rotate_left
    · intro w hSw
      try dsimp only at hSw
      go_simp
      try with_reducible rfl
    try simp only [Act.put]
    try simp only [List.setIfInBounds_toArray]
    try simp only [List.set_cons_succ]
    try simp only [List.set_cons_zero]
    refine wpAnyH_take (i := 10) (v := ?_) rfl (by kernel_rfl) (by kernel_rfl) (by kernel_rfl) (fun _ _ _ h => h) (Or.inl ⟨by rfl, ?_⟩) (by assumption) ?_
    rotate_left
    · intro w hSw
      try dsimp only at hSw
      go_simp
      try with_reducible rfl
    try simp only [Act.put]
    try simp only [List.setIfInBounds_toArray]
    try simp only [List.set_cons_succ]
    try simp only [List.set_cons_zero]
    refine wpAnyH_ready (rs := [4]) (by kernel_rfl) (by simp) ?_
    refine AllReadyH.cons rfl (fun K hK => ?_) AllReadyH.nil
    have e5' := (show Ext Wa Wa.drew from (Ext.refl Wa).drew).cell c2
    go_simp
    clear e5'
    refine hK.out _ _ ?_ (fun hHeld2 => ?_)
    · exact keep.out _ (Ext.refl Wa).drew
    clear hHeld
    have hHeld := hHeld2
    clear hHeld2 hK K
    try simp only [Act.put]
    try simp only [List.setIfInBounds_toArray]
    try simp only [List.set_cons_succ]
    try simp only [List.set_cons_zero]
    refine wpAnyH_ready (rs := [11]) (by kernel_rfl) (by simp) ?_
    refine AllReadyH.cons rfl (fun K hK => ?_) AllReadyH.nil
    go_simp
    refine (HC.out _ (Ext.refl Wa).drew).mono ?_
    rintro e wc ⟨qc, rfl, hic, hxc⟩
    replace hxc := (show Ext Wa Wa.drew from (Ext.refl Wa).drew).trans hxc
    have q1 : wc.cell? ⟨xb, 2, none⟩ = some (.pointer q) := hxc.cell c2
    have q2 : wc.frozen? ⟨xb, 2, none⟩ = false := frozen_blk (hxc.block HBK.out) 2
    go_simp
    refine hK.out _ _ ?_ (fun hHeld2 => ?_)
    · exact keep.out _ hxc
    clear hHeld
    have hHeld := hHeld2
    clear hHeld2 hK K
    try simp only [Act.put]
    try simp only [List.setIfInBounds_toArray]
    try simp only [List.set_cons_succ]
    try simp only [List.set_cons_zero]
    refine wpAnyH_take (i := 12) (v := ?_) rfl (by kernel_rfl) (by kernel_rfl) (by kernel_rfl) (fun _ _ _ h => h) (Or.inl ⟨by rfl, ?_⟩) (by assumption) ?_
    rotate_left
    · intro w hSw
      try dsimp only at hSw
      go_simp
      try with_reducible rfl
    try simp only [Act.put]
    try simp only [List.setIfInBounds_toArray]
    try simp only [List.set_cons_succ]
    try simp only [List.set_cons_zero]
    refine wpAnyH_take (i := 13) (v := ?_) rfl (by kernel_rfl) (by kernel_rfl) (by kernel_rfl) (fun _ _ _ h => h) (Or.inl ⟨by rfl, ?_⟩) (by assumption) ?_
    rotate_left
    · intro w hSw
      try dsimp only at hSw
      go_simp
      try with_reducible rfl
    try simp only [Act.put]
    try simp only [List.setIfInBounds_toArray]
    try simp only [List.set_cons_succ]
    try simp only [List.set_cons_zero]
    refine wpAnyH_ready (rs := [14]) (by kernel_rfl) (by simp) ?_
    refine AllReadyH.cons rfl (fun K hK => ?_) AllReadyH.nil
    go_simp
    refine hK.out _ _ ?_ (fun hHeld2 => ?_)
    · exact keep2.out _ hxc _
    clear hHeld hHeld2 hK K
    try simp only [Act.put]
    try simp only [List.setIfInBounds_toArray]
    try simp only [List.set_cons_succ]
    try simp only [List.set_cons_zero]
    refine wpAnyH_done (by kernel_rfl) ?_ _
    refine noPanic_intro ?_
    go_wp2
    go_ret
    have hap : Apt xb wc := Apt.ix (hxc.block HBK.out)
    exact ⟨rfl, HFIN.out _ pb qc pa (heap_setCell_same wc xb 2 _ _ _ (hxc.block HBK.out)) ((HV2.out.ext hxc).set hap 2 _) HUP.out ((HM2.out.ext hxc).set hap 2 _) ((HI2.out.ext hxc).set hap 2 _) (hic.set hap 2 _), (HC2.out.trans (Chx.of_ext hxc)).set 2 _⟩
theorem xput_calls (xb : Nat) (u : Int) (x : Ix) (v n b : Int) (w : World) (h : IxAt w xb u x) (hf : Fit u x) :
    Calls Tryz.prog 16 #[.pointer (some ⟨xb, 0, none⟩), .agg #[.int .i64 v, .int .i64 n], .int .i64 b] w (XPost w xb u (putX u x v n b).1 (.int .i64 (putX u x v n b).2)) := by
  cases e1 : (decide (0 ≤ v) && decide (v ≤ 1099511627776))
  · have e : putX u x v n b = (x, 1) := by unfold putX; rw [if_neg]; simp at e1; omega
    rw [e]; exact put_no1 xb u x v n b w h e1
  cases e2 : (decide (0 ≤ n) && decide (n ≤ 1099511627776))
  · have e : putX u x v n b = (x, 1) := by unfold putX; rw [if_neg]; simp at e2; omega
    rw [e]; exact put_no2 xb u x v n b w h e1 e2
  by_cases e3 : b < 1 ∨ u < b
  · have e : putX u x v n b = (x, 1) := by unfold putX; rw [if_neg]; omega
    rw [e]; exact put_no3 xb u x v n b w h e1 e2 e3
  have hc : (0 ≤ v ∧ v ≤ 1099511627776) ∧ (0 ≤ n ∧ n ≤ 1099511627776) ∧ 1 ≤ b ∧ b ≤ u := by simp at e1 e2; omega
  cases hg : getS x.L v n with
  | some s =>
    have e : putX u x v n b = (x, 7) := by unfold putX; rw [if_pos hc, hg]
    rw [e]; exact put_twice xb u x v n b s w h hf e1 e2 (by omega) (by omega) hg
  | none =>
    have e : putX u x v n b = (putS x v n b, 0) := by unfold putX; rw [if_pos hc, hg]
    rw [e]; exact put_new xb u x v n b w h hf e1 e2 (by omega) (by omega) hg
end Go.Proofs.YtgcplndmhlideaaGreat
