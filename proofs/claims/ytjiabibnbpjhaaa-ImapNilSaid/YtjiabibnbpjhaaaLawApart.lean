/- ImapApart: a clone and its source go apart: what is done to the one the other doesn't tell, and what was handed back before tells what was there then. The walk. -/
import Derived.Test.YtjiabibnbpjhaaaClone
import Derived.Test.YtjiabibnbpjhaaaSame
import Derived.Test.YtjiabibnbpjhaaaAlive
import Derived.Deep.RegionHeld3
namespace Go.Proofs.Ytjiabibnbpjhaaa
open Go.RowKit

/-- Of what was there, block g alone may have turned. -/
def Mu (g : Nat) (w w' : World) : Prop := w.heap.size ≤ w'.heap.size ∧ ∀ k, k < w.heap.size → k ≠ g → w'.heap[k]? = w.heap[k]?
theorem Mu.refl (g : Nat) (w : World) : Mu g w w := ⟨Nat.le_refl _, fun _ _ _ => rfl⟩
theorem Mu.ext {g : Nat} {a b c : World} (h : Mu g a b) (hx : Ext b c) : Mu g a c :=
  ⟨Nat.le_trans h.1 hx.size, fun k hk hg => (Below.block hx k (Nat.lt_of_lt_of_le hk h.1)).trans (h.2 k hk hg)⟩
theorem Mu.grown {g : Nat} {a b c : World} (h : Mu g a b) (hx : b.grownBy c (some g)) : Mu g a c :=
  ⟨Nat.le_trans h.1 hx.size, fun k hk hg => (hx.block k (Nat.lt_of_lt_of_le hk h.1) (fun e => by cases e; exact hg rfl)).trans (h.2 k hk hg)⟩
theorem Mu.block {g : Nat} {w w' : World} (h : Mu g w w') {k : Nat} {o : Obj} (hk : w.heap[k]? = some o) (hg : k ≠ g) : w'.heap[k]? = some o :=
  (h.2 k (Array.getElem?_eq_some_iff.1 hk).1 hg).trans hk
theorem Mu.cell {g : Nat} {w w' : World} (h : Mu g w w') {b i : Nat} {v : Value} (hc : w.cell? ⟨b, i, none⟩ = some v) (hg : b ≠ g) : w'.cell? ⟨b, i, none⟩ = some v := by
  have hb := block_of_cell hc
  have he := h.2 b hb hg
  rw [← hc]
  simp only [World.cell?, he]

/-- The block of a map holds no number. -/
theorem holds_no {w : World} {g : Nat} {l : List Rn} (h : Holds w g l) (i : Nat) (n : Int) : w.cell? ⟨g, i, none⟩ ≠ some (.int .i64 n) := by
  obtain ⟨A, c, h1, _⟩ := h
  rw [cell_of_row w g i _ _ _ h1]
  cases i <;> simp
theorem flat_int {l : List Rn} {j : Nat} {u : Value} (h : (flat l)[j]? = some u) : ∃ n, u = .int .i64 n := by
  have := List.mem_of_getElem? h
  simp only [flat, List.mem_flatMap] at this
  obtain ⟨r, _, hr⟩ := this
  simp only [Rn.cells, List.mem_cons, List.not_mem_nil, or_false] at hr
  rcases hr with rfl | rfl | rfl <;> exact ⟨_, rfl⟩
theorem Holds.mu {w w' : World} {m g : Nat} {l lg : List Rn} (h : Holds w m l) (hmu : Mu g w w') (hg : Holds w g lg) (hne : m ≠ g) : Holds w' m l := by
  obtain ⟨A, c, h1, h2, h3⟩ := h
  refine ⟨A, c, hmu.block h1 hne, h2, fun j u hj => ?_⟩
  obtain ⟨b, e1, e2, e3⟩ := h3 j u hj
  obtain ⟨n, rfl⟩ := flat_int hj
  exact ⟨b, e1, e2, hmu.cell e3 (fun e => by subst e; exact holds_no hg _ _ e3)⟩
theorem SeqAt.mu {w w' : World} {B g : Nat} {l lg : List Rn} {f t : Int} {v : Value} (h : SeqAt w B l f t v) (hmu : Mu g w w') (hg : Holds w g lg) : SeqAt w' B l f t v := by
  obtain ⟨br, bs, A, c, hv, h1, h2, h3⟩ := h
  have hgg := hg
  obtain ⟨Ag, cg, g1, _⟩ := hg
  refine ⟨br, bs, A, c, hv, hmu.block h1 ?_, hmu.block h2 ?_, fun k hk => ?_⟩
  · rintro rfl; rw [g1] at h1; injection h1 with h1; injection h1 with _ h1; exact absurd h1 (by decide)
  · rintro rfl; rw [g1] at h2; injection h2 with h2; injection h2 with _ h2; exact absurd h2 (by decide)
  · obtain ⟨b, hA, hlt, p0, p1, p2⟩ := h3 k hk
    have hne : b ≠ g := fun e => by subst e; exact holds_no hgg _ _ p0
    exact ⟨b, hA, hlt, hmu.cell p0 hne, hmu.cell p1 hne, hmu.cell p2 hne⟩

theorem with_eq (A : Option Addr) (c : Nat) (l : List Ac) (B : Option Addr) (d : Nat) (x lx : List Ac) (p : Nat) (w : World) (ha : Acts w A l) (hb : Acts w B x) (hp : w.cell? ⟨p, 0, none⟩ = some (.slice A l.length c)) (hl : l.length ≤ 10000) (hl2 : x.length ≤ 10000) (h : Hid (l ++ x = lx)) :
    Calls Try.prog 25 #[.slice B x.length d, .pointer (some ⟨p, 0, none⟩)] w (WithPost w lx) := by
  rw [← unhide h]; exact with_calls A c l B d x p w ha hb hp hl hl2
theorem same_yes (A B : Option Addr) (c d : Nat) (la : List Rn) (w : World) (ha : Row3 w A la) (hb : Row3 w B la) (hl : la.length ≤ 1000000) :
    Calls Try.prog 15 #[.slice A la.length c, .slice B la.length d] w fun e w' => e = .returned (.bool true) ∧ Ext w w' :=
  (same_calls A B c d la la w ha hb hl).mono fun e w' h => ⟨by rw [h.1]; simp, h.2⟩

theorem enters24 (args : Array Value) (w : World) : (callFunc 24 args).run Try.prog w = .ok (.enter 24 args) w := by
  simp [go_sem]

set_option maxHeartbeats 8000000 in
set_option maxRecDepth 100000 in
theorem lawApart_calls (A : Option Addr) (c : Nat) (l : List Ac) (B : Option Addr) (d : Nat) (x : List Ac) (D : Option Addr) (d2 : Nat) (y : List Ac) (w : World) (ha : Acts w A l) (hb : Acts w B x) (hd : Acts w D y) :
    Calls Try.prog 6 #[.slice A l.length c, .slice B x.length d, .slice D y.length d2] w fun e w' => e = .returned (.bool true) ∧ Ext w w' := by
  have hmf : ∀ (fn : Fn) (first cap : Array Value) (w : World), (Instr.makeFunc fn first cap).run Try.prog w = .ok (.func fn first cap) w := fun _ _ _ _ => rfl
  go_enter Try.func6, Try.ntmps6
  have hx0 : Ext w (w.alloc (.cells #[.slice A l.length c] 22)) := (Ext.refl w).alloc _
  go_wp2_with fail
  refine (alive_calls _).mono ?_
  rintro e w1 ⟨rfl, hx⟩
  have b0 : w1.cell? ⟨w.heap.size, 0, none⟩ = some (.slice A l.length c) := hx.cell (by simp)
  replace hx := hx0.trans hx
  replace ha := ha.ext hx
  replace hb := hb.ext hx
  replace hd := hd.ext hx
  clear hx0
  by_cases hl : 30 < l.length
  · go_wp2
    go_ret
    exact ⟨rfl, hx⟩
  by_cases hl2 : 10 < x.length
  · go_wp2
    go_ret
    exact ⟨rfl, hx⟩
  by_cases hl3 : 10 < y.length
  · go_wp2
    go_ret
    exact ⟨rfl, hx⟩
  go_wp2_with fail
  refine (made_calls A c l _ ha (by omega)).mono ?_
  rintro e w2 ⟨mb, rfl, hm, hmb, hx2⟩
  have b2 := hx2.cell b0
  have hlen := appR_length l
  have HLEN := hide hlen
  clear hlen
  go_wp2_with fail
  refine (all_seq_calls mb _ _ w2 (Ext.refl _) hm).mono ?_
  rintro e w3 ⟨vs, rfl, hseq, hx3⟩
  replace hm := hm.ext hx3
  have hmlt : mb < w3.heap.size := by obtain ⟨_, _, h1, _⟩ := hm; exact (Array.getElem?_eq_some_iff.1 h1).1
  go_wp2_with fail
  refine (clone_calls mb _ _ hm (by have := unhide HLEN; omega)).mono ?_
  rintro e w4 ⟨cb, rfl, hc, hcb, hx4⟩
  replace hm := hm.ext hx4
  replace hseq := hseq.ext hx4
  have hne : mb ≠ cb := by omega
  have hx14 := (hx2.trans hx3).trans hx4
  have HZ' := (hx3.trans hx4).size
  have HZ := hide HZ'
  clear HZ'
  have hcb1 : w1.heap.size ≤ cb := by have := (hx2.trans hx3).size; omega
  have HM := hide hm
  have HC := hide hc
  have HS := hide hseq
  have HN := hide hne
  have HMB := hide hmb
  have HCB := hide hcb1
  clear hx2 hx3 hx4 hmlt hcb hm hc hseq hne hmb hcb1 b2

  go_wp2
  go_loopw [43] (fun i wr => ∃ k : Nat, k ≤ x.length ∧ i = .int .i64 k ∧ Holds wr mb (appR (l ++ x.take k)) ∧ Mu mb w4 wr ∧ Ext w1 wr) (fun i _ => x.length - (intOf i).toNat)
  case atStart => exact ⟨0, Nat.zero_le _, rfl, by rw [List.take_zero, List.append_nil]; exact unhide HM, Mu.refl _ _, hx14⟩
  case round =>
    clear hx14
    obtain ⟨k, hk, rfl, hm, hmu, hx1⟩ := hrel
    by_cases hlt : k < x.length
    · obtain ⟨b, o, rfl, p0, p1, p2, p3⟩ := hb.ext hx1 k hlt
      obtain ⟨r, hr⟩ : ∃ r, x[k] = r := ⟨_, rfl⟩
      rw [hr] at p0 p1 p2 p3
      have hs : appR (l ++ x.take (k + 1)) = appStep (appR (l ++ x.take k)) r := by
        rw [List.take_succ_eq_append_getElem hlt, ← List.append_assoc, appR_snoc, hr]
      have hlen := appR_length (l ++ x.take k)
      have hll : (l ++ x.take k).length ≤ 40 := by simp; omega
      generalize appR (l ++ x.take k) = out at *
      have HSS := Lib.hid hs
      clear hs hr
      have hm' : Holds (wr.alloc (.cells #[.bool r.d, .int .i64 r.f, .int .i64 r.t, .int .i64 r.v] 45)) mb out := hm.ext ((Ext.refl _).alloc _)
      have hx' : Ext w1 (wr.alloc (.cells #[.bool r.d, .int .i64 r.f, .int .i64 r.t, .int .i64 r.v] 45)) := hx1.alloc _
      have hmu' : Mu mb w4 (wr.alloc (.cells #[.bool r.d, .int .i64 r.f, .int .i64 r.t, .int .i64 r.v] 45)) := hmu.ext ((Ext.refl _).alloc _)
      obtain ⟨rd, rf, rt, rv⟩ := r
      simp only at p0 p1 p2 p3 hm' hx' hmu'
      have HM' := hide hm'
      have HX' := hide hx'
      have HMU := hide hmu'
      clear hm hm' hx' hmu' hmu hx1
      cases rd
      · cases hg : goodB rf rt
        · have hfin : appStep out ⟨false, rf, rt, rv⟩ = out := by simp [appStep, hg]
          go_wp2_with fail
          refine (put_bad mb _ _ _ _ hg).mono ?_
          rintro e w9 ⟨rfl, hx2⟩
          go_wp2
          go_roundw
          case rel => exact ⟨k + 1, by omega, by go_num, by rw [HSS.out, hfin]; exact (unhide HM').ext hx2, (unhide HMU).ext hx2, (unhide HX').trans hx2⟩
          case measure => simp [intOf] <;> omega
        · have hfin : appStep out ⟨false, rf, rt, rv⟩ = putR rf rt rv out := by simp [appStep, hg]
          go_wp2_with fail
          refine (put_good mb out _ _ _ _ (unhide HM') hg (by omega)).mono ?_
          rintro e w9 ⟨rfl, hm2, hg2⟩
          have hx2 := ext_only (unhide HX') (unhide HMB) hg2
          have hu2 := (unhide HMU).grown hg2
          clear hg2 p0 p1 p2 p3
          go_wp2
          go_roundw
          case rel => exact ⟨k + 1, by omega, by go_num, by rw [HSS.out, hfin]; exact hm2, hu2, hx2⟩
          case measure => simp [intOf] <;> omega
      · cases hg : goodB rf rt
        · have hfin : appStep out ⟨true, rf, rt, rv⟩ = out := by simp [appStep, hg]
          go_wp2_with fail
          refine (drop_bad mb _ _ _ hg).mono ?_
          rintro e w9 ⟨rfl, hx2⟩
          go_wp2
          go_roundw
          case rel => exact ⟨k + 1, by omega, by go_num, by rw [HSS.out, hfin]; exact (unhide HM').ext hx2, (unhide HMU).ext hx2, (unhide HX').trans hx2⟩
          case measure => simp [intOf] <;> omega
        · have hfin : appStep out ⟨true, rf, rt, rv⟩ = dropTo rf rt out := by simp [appStep, hg]
          go_wp2_with fail
          refine (drop_good mb out _ _ _ (unhide HM') hg (by omega)).mono ?_
          rintro e w9 ⟨rfl, hm2, hg2⟩
          have hx2 := ext_only (unhide HX') (unhide HMB) hg2
          have hu2 := (unhide HMU).grown hg2
          clear hg2 p0 p1 p2 p3
          go_wp2
          go_roundw
          case rel => exact ⟨k + 1, by omega, by go_num, by rw [HSS.out, hfin]; exact hm2, hu2, hx2⟩
          case measure => simp [intOf] <;> omega
    · obtain rfl : k = x.length := by omega
      rw [List.take_length] at hm

      generalize wr = w5 at *
      have HC5 := hide ((unhide HC).mu hmu (unhide HM) (unhide HN).symm)
      have HS5 := hide ((unhide HS).mu hmu (unhide HM))
      have HM5 := hide hm
      have hzz := Nat.le_trans (unhide HZ) hmu.1
      clear HZ
      have HZ := hide hzz
      clear hzz
      have hx15 := hx1
      clear hm hmu hx1 HC HS HM hlt hk
      go_wp2
      go_loopw [62] (fun i wr => ∃ k : Nat, k ≤ y.length ∧ i = .int .i64 k ∧ Holds wr cb (appR (l ++ y.take k)) ∧ Mu cb w5 wr ∧ Ext w1 wr) (fun i _ => y.length - (intOf i).toNat)
      case atStart => exact ⟨0, Nat.zero_le _, rfl, by rw [List.take_zero, List.append_nil]; exact unhide HC5, Mu.refl _ _, hx15⟩
      case round =>
        clear hx15
        obtain ⟨k, hk, rfl, hm, hmu, hx1⟩ := hrel
        by_cases hlt : k < y.length
        · obtain ⟨b, o, rfl, p0, p1, p2, p3⟩ := hd.ext hx1 k hlt
          obtain ⟨r, hr⟩ : ∃ r, y[k] = r := ⟨_, rfl⟩
          rw [hr] at p0 p1 p2 p3
          have hs : appR (l ++ y.take (k + 1)) = appStep (appR (l ++ y.take k)) r := by
            rw [List.take_succ_eq_append_getElem hlt, ← List.append_assoc, appR_snoc, hr]
          have hlen := appR_length (l ++ y.take k)
          have hll : (l ++ y.take k).length ≤ 40 := by simp; omega
          generalize appR (l ++ y.take k) = out at *
          have HSS := Lib.hid hs
          clear hs hr
          have hm' : Holds (wr.alloc (.cells #[.bool r.d, .int .i64 r.f, .int .i64 r.t, .int .i64 r.v] 45)) cb out := hm.ext ((Ext.refl _).alloc _)
          have hx' : Ext w1 (wr.alloc (.cells #[.bool r.d, .int .i64 r.f, .int .i64 r.t, .int .i64 r.v] 45)) := hx1.alloc _
          have hmu' : Mu cb w5 (wr.alloc (.cells #[.bool r.d, .int .i64 r.f, .int .i64 r.t, .int .i64 r.v] 45)) := hmu.ext ((Ext.refl _).alloc _)
          obtain ⟨rd, rf, rt, rv⟩ := r
          simp only at p0 p1 p2 p3 hm' hx' hmu'
          have HM' := hide hm'
          have HX' := hide hx'
          have HMU := hide hmu'
          clear hm hm' hx' hmu' hmu hx1
          cases rd
          · cases hg : goodB rf rt
            · have hfin : appStep out ⟨false, rf, rt, rv⟩ = out := by simp [appStep, hg]
              go_wp2_with fail
              refine (put_bad cb _ _ _ _ hg).mono ?_
              rintro e w9 ⟨rfl, hx2⟩
              go_wp2
              go_roundw
              case rel => exact ⟨k + 1, by omega, by go_num, by rw [HSS.out, hfin]; exact (unhide HM').ext hx2, (unhide HMU).ext hx2, (unhide HX').trans hx2⟩
              case measure => simp [intOf] <;> omega
            · have hfin : appStep out ⟨false, rf, rt, rv⟩ = putR rf rt rv out := by simp [appStep, hg]
              go_wp2_with fail
              refine (put_good cb out _ _ _ _ (unhide HM') hg (by omega)).mono ?_
              rintro e w9 ⟨rfl, hm2, hg2⟩
              have hx2 := ext_only (unhide HX') (unhide HCB) hg2
              have hu2 := (unhide HMU).grown hg2
              clear hg2 p0 p1 p2 p3
              go_wp2
              go_roundw
              case rel => exact ⟨k + 1, by omega, by go_num, by rw [HSS.out, hfin]; exact hm2, hu2, hx2⟩
              case measure => simp [intOf] <;> omega
          · cases hg : goodB rf rt
            · have hfin : appStep out ⟨true, rf, rt, rv⟩ = out := by simp [appStep, hg]
              go_wp2_with fail
              refine (drop_bad cb _ _ _ hg).mono ?_
              rintro e w9 ⟨rfl, hx2⟩
              go_wp2
              go_roundw
              case rel => exact ⟨k + 1, by omega, by go_num, by rw [HSS.out, hfin]; exact (unhide HM').ext hx2, (unhide HMU).ext hx2, (unhide HX').trans hx2⟩
              case measure => simp [intOf] <;> omega
            · have hfin : appStep out ⟨true, rf, rt, rv⟩ = dropTo rf rt out := by simp [appStep, hg]
              go_wp2_with fail
              refine (drop_good cb out _ _ _ (unhide HM') hg (by omega)).mono ?_
              rintro e w9 ⟨rfl, hm2, hg2⟩
              have hx2 := ext_only (unhide HX') (unhide HCB) hg2
              have hu2 := (unhide HMU).grown hg2
              clear hg2 p0 p1 p2 p3
              go_wp2
              go_roundw
              case rel => exact ⟨k + 1, by omega, by go_num, by rw [HSS.out, hfin]; exact hm2, hu2, hx2⟩
              case measure => simp [intOf] <;> omega
        · obtain rfl : k = y.length := by omega
          rw [List.take_length] at hm

          generalize wr = w6 at *
          have hm6 := (unhide HM5).mu hmu (unhide HC5) (unhide HN)
          obtain ⟨br, bs, A7, c7, rfl, g1, g2, g3⟩ := (unhide HS5).mu hmu (unhide HC5)
          have HM6 := hide hm6
          have HC6 := hide hm
          have hwf := hide (appR_spec l).1
          have hx6 := hx.trans hx1
          have hxo : Ext w6 (w6.alloc (.cells #[.slice none 0 0] 27)) := (Ext.refl _).alloc _
          have hob : (w6.alloc (.cells #[.slice none 0 0] 27)).heap[w6.heap.size]? = some (.cells #[.slice none 0 0] 27 (0, 0)) := heap_alloc_new w6 _
          have hz2 : w2.heap.size ≤ w6.heap.size := Nat.le_trans (unhide HZ) hmu.1
          have hO : Out w6.heap.size w6.heap.size [] (w6.alloc (.cells #[.slice none 0 0] 27)) := ⟨_, hob, World.ownsRow_nil _ _ _ _, Nat.le_refl _⟩
          have hne1 : br ≠ w6.heap.size := by rintro rfl; have := (Array.getElem?_eq_some_iff.1 g1).1; omega
          have hne2 : bs ≠ w6.heap.size := by rintro rfl; have := (Array.getElem?_eq_some_iff.1 g2).1; omega
          replace g1 := hxo.block g1
          replace g2 := hxo.block g2
          have g3' : RunsAt (w6.alloc (.cells #[.slice none 0 0] 27)) w6.heap.size A7 (appR l) := fun k hk => by
            obtain ⟨b, e1, e2, e3⟩ := (g3.ext hxo) k hk
            exact ⟨b, e1, by omega, e3⟩
          have HO := hide hO
          have HG := hide (And.intro g1 (And.intro g2 g3'))
          have hsz : w6.heap.size ≤ (w6.alloc (.cells #[.slice none 0 0] 27)).heap.size := by simp
          have HSZ := hide hsz
          clear hm6 hm hmu hob hO g3 g3' g1 g2 hsz HC5 HS5 HM5 hlt hk
          go_wp2_with fail
          refine (iter_calls 24 w6.heap.size w6.heap.size bs br enters24 (appR l) A7 c7 0 4611686018427387904 (Out w6.heap.size w6.heap.size) (fun _ _ => False) (fun L a b h hx => h.ext hx) ?_ _ (unhide HSZ) (unhide HG).1 (unhide HG).2.1 hne1 hne2 (unhide HG).2.2 (by have := unhide HLEN; omega) (unhide HO)).mono ?_
          · exact tell_hy (by have := unhide HLEN; omega) (fun L r w a b c => apart1_calls _ _ L r w a b c)
          rintro e w7 ⟨rfl, hk, hJ | ⟨_, _, hJ⟩⟩
          rotate_left
          · exact hJ.elim
          obtain ⟨v, ho, hown, _⟩ := hJ
          rw [meets_all (unhide hwf) (Int.le_refl _)] at hown
          have o0 : w7.cell? ⟨w6.heap.size, 0, none⟩ = some v := by rw [cell_of_row w7 _ 0 _ _ _ ho]; rfl
          obtain ⟨A9, c9, rfl, _⟩ := own_shape hown
          have R9 := row3_own hown
          have hx67 := ext_of_kp hxo hk
          have hdd : Ext w7 w7.drew := (Ext.refl _).drew
          have hx7 := (hx1.trans hx67).trans hdd
          replace HM := (unhide HM6).ext (hx67.trans hdd)
          have HC := (unhide HC6).ext (hx67.trans hdd)
          replace R9 := R9.ext hdd
          replace o0 := hdd.cell o0
          replace b0 := hx7.cell b0
          have HA := ha.ext hx7
          have HB := hb.ext hx7
          have HD := hd.ext hx7
          have HX := hx.trans hx7
          have hlx : (appR (l ++ x)).length ≤ 100 := by have := appR_length (l ++ x); simp at this; omega
          have hly : (appR (l ++ y)).length ≤ 100 := by have := appR_length (l ++ y); simp at this; omega
          have hll : (appR l).length ≤ 100 := by have := appR_length l; omega
          have hsx : (l ++ x).length ≤ 10000 := by simp; omega
          have hsy : (l ++ y).length ≤ 10000 := by simp; omega
          have HWX := hide (appR_spec (l ++ x)).1
          have HWY := hide (appR_spec (l ++ y)).1
          obtain ⟨lx, hlx0⟩ : ∃ z, l ++ x = z := ⟨_, rfl⟩
          obtain ⟨ly, hly0⟩ : ∃ z, l ++ y = z := ⟨_, rfl⟩
          rw [hlx0] at HM hlx hsx HWX
          rw [hly0] at HC hly hsy HWY
          have HLX := hide hlx0
          have HLY := hide hly0
          clear hlx0 hly0
          clear ho hown hk hx67 hdd hx7 ha hb hd hx hx6 hx1 HM6 HC6 HO HG HSZ hxo hne1 hne2
          go_upto_region 25 with (fail)
          go_region_held3 (fun w' => w'.cell? ⟨w.heap.size, 0, none⟩ = some (.slice A l.length c) ∧ w'.cell? ⟨w6.heap.size, 0, none⟩ = some (.slice A9 (appR l).length c9)) (exact ⟨b0, o0⟩)
            (first
              | (go_at_call 16
                 (with_reducible refine (all_calls mb (appR lx) _ HM (by omega)).mono ?_)
                 rintro e wn ⟨v, rfl, hown, hx⟩
                 rw [meets_all (unhide HWX) (Int.le_refl _)] at hown
                 obtain ⟨A1, c1, rfl, _⟩ := own_shape hown
                 have r1 := row3_own hown
                 clear hown
                 replace HM := HM.ext hx; replace HC := HC.ext hx; replace HA := HA.ext hx; replace HB := HB.ext hx; replace HD := HD.ext hx; replace R9 := R9.ext hx; replace HX := HX.trans hx; replace b0 := hx.cell b0; replace o0 := hx.cell o0; (try (replace r1 := r1.ext hx)); (try (replace r3 := r3.ext hx)); (try (replace r5 := r5.ext hx)); (try (replace r6 := r6.ext hx)); (try (replace r7 := r7.ext hx)); (try (replace a5 := a5.ext hx)); (try (replace a6 := a6.ext hx)); clear hx)
              | (go_at_call 16
                 (with_reducible refine (all_calls cb (appR ly) _ HC (by omega)).mono ?_)
                 rintro e wn ⟨v, rfl, hown, hx⟩
                 rw [meets_all (unhide HWY) (Int.le_refl _)] at hown
                 obtain ⟨A3, c3, rfl, _⟩ := own_shape hown
                 have r3 := row3_own hown
                 clear hown
                 replace HM := HM.ext hx; replace HC := HC.ext hx; replace HA := HA.ext hx; replace HB := HB.ext hx; replace HD := HD.ext hx; replace R9 := R9.ext hx; replace HX := HX.trans hx; replace b0 := hx.cell b0; replace o0 := hx.cell o0; (try (replace r1 := r1.ext hx)); (try (replace r3 := r3.ext hx)); (try (replace r5 := r5.ext hx)); (try (replace r6 := r6.ext hx)); (try (replace r7 := r7.ext hx)); (try (replace a5 := a5.ext hx)); (try (replace a6 := a6.ext hx)); clear hx)
              | (go_at_call 25
                 (with_reducible refine (with_eq A c l B d x lx w.heap.size _ HA HB b0 (by omega) (by omega) HLX).mono ?_)
                 rintro e wn ⟨A5, c5, rfl, a5, hx⟩
                 replace HM := HM.ext hx; replace HC := HC.ext hx; replace HA := HA.ext hx; replace HB := HB.ext hx; replace HD := HD.ext hx; replace R9 := R9.ext hx; replace HX := HX.trans hx; replace b0 := hx.cell b0; replace o0 := hx.cell o0; (try (replace r1 := r1.ext hx)); (try (replace r3 := r3.ext hx)); (try (replace r5 := r5.ext hx)); (try (replace r6 := r6.ext hx)); (try (replace r7 := r7.ext hx)); (try (replace a5 := a5.ext hx)); (try (replace a6 := a6.ext hx)); clear hx)
              | (go_at_call 25
                 (with_reducible refine (with_eq A c l D d2 y ly w.heap.size _ HA HD b0 (by omega) (by omega) HLY).mono ?_)
                 rintro e wn ⟨A6, c6, rfl, a6, hx⟩
                 replace HM := HM.ext hx; replace HC := HC.ext hx; replace HA := HA.ext hx; replace HB := HB.ext hx; replace HD := HD.ext hx; replace R9 := R9.ext hx; replace HX := HX.trans hx; replace b0 := hx.cell b0; replace o0 := hx.cell o0; (try (replace r1 := r1.ext hx)); (try (replace r3 := r3.ext hx)); (try (replace r5 := r5.ext hx)); (try (replace r6 := r6.ext hx)); (try (replace r7 := r7.ext hx)); (try (replace a5 := a5.ext hx)); (try (replace a6 := a6.ext hx)); clear hx)
              | (go_at_call 13
                 (with_reducible refine (runs_calls A5 c5 lx _ a5 hsx).mono ?_)
                 rintro e wn ⟨v, rfl, hown, hx⟩
                 rw [← appR_eq] at hown
                 obtain ⟨B5, d5, rfl, _⟩ := own_shape hown
                 have r5 := row3_own hown
                 clear hown
                 replace HM := HM.ext hx; replace HC := HC.ext hx; replace HA := HA.ext hx; replace HB := HB.ext hx; replace HD := HD.ext hx; replace R9 := R9.ext hx; replace HX := HX.trans hx; replace b0 := hx.cell b0; replace o0 := hx.cell o0; (try (replace r1 := r1.ext hx)); (try (replace r3 := r3.ext hx)); (try (replace r5 := r5.ext hx)); (try (replace r6 := r6.ext hx)); (try (replace r7 := r7.ext hx)); (try (replace a5 := a5.ext hx)); (try (replace a6 := a6.ext hx)); clear hx)
              | (go_at_call 13
                 (with_reducible refine (runs_calls A6 c6 ly _ a6 hsy).mono ?_)
                 rintro e wn ⟨v, rfl, hown, hx⟩
                 rw [← appR_eq] at hown
                 obtain ⟨B6, d6, rfl, _⟩ := own_shape hown
                 have r6 := row3_own hown
                 clear hown
                 replace HM := HM.ext hx; replace HC := HC.ext hx; replace HA := HA.ext hx; replace HB := HB.ext hx; replace HD := HD.ext hx; replace R9 := R9.ext hx; replace HX := HX.trans hx; replace b0 := hx.cell b0; replace o0 := hx.cell o0; (try (replace r1 := r1.ext hx)); (try (replace r3 := r3.ext hx)); (try (replace r5 := r5.ext hx)); (try (replace r6 := r6.ext hx)); (try (replace r7 := r7.ext hx)); (try (replace a5 := a5.ext hx)); (try (replace a6 := a6.ext hx)); clear hx)
              | (go_at_call 13
                 (with_reducible refine (runs_calls A c l _ HA (by omega)).mono ?_)
                 rintro e wn ⟨v, rfl, hown, hx⟩
                 rw [← appR_eq] at hown
                 obtain ⟨B7, d7, rfl, _⟩ := own_shape hown
                 have r7 := row3_own hown
                 clear hown
                 replace HM := HM.ext hx; replace HC := HC.ext hx; replace HA := HA.ext hx; replace HB := HB.ext hx; replace HD := HD.ext hx; replace R9 := R9.ext hx; replace HX := HX.trans hx; replace b0 := hx.cell b0; replace o0 := hx.cell o0; (try (replace r1 := r1.ext hx)); (try (replace r3 := r3.ext hx)); (try (replace r5 := r5.ext hx)); (try (replace r6 := r6.ext hx)); (try (replace r7 := r7.ext hx)); (try (replace a5 := a5.ext hx)); (try (replace a6 := a6.ext hx)); clear hx)
              | (go_at_call 15
                 (with_reducible refine (same_yes A1 B5 c1 d5 (appR lx) _ r1 r5 (by omega)).mono ?_)
                 rintro e wn ⟨rfl, hx⟩
                 replace HM := HM.ext hx; replace HC := HC.ext hx; replace HA := HA.ext hx; replace HB := HB.ext hx; replace HD := HD.ext hx; replace R9 := R9.ext hx; replace HX := HX.trans hx; replace b0 := hx.cell b0; replace o0 := hx.cell o0; (try (replace r1 := r1.ext hx)); (try (replace r3 := r3.ext hx)); (try (replace r5 := r5.ext hx)); (try (replace r6 := r6.ext hx)); (try (replace r7 := r7.ext hx)); (try (replace a5 := a5.ext hx)); (try (replace a6 := a6.ext hx)); clear hx)
              | (go_at_call 15
                 (with_reducible refine (same_yes A3 B6 c3 d6 (appR ly) _ r3 r6 (by omega)).mono ?_)
                 rintro e wn ⟨rfl, hx⟩
                 replace HM := HM.ext hx; replace HC := HC.ext hx; replace HA := HA.ext hx; replace HB := HB.ext hx; replace HD := HD.ext hx; replace R9 := R9.ext hx; replace HX := HX.trans hx; replace b0 := hx.cell b0; replace o0 := hx.cell o0; (try (replace r1 := r1.ext hx)); (try (replace r3 := r3.ext hx)); (try (replace r5 := r5.ext hx)); (try (replace r6 := r6.ext hx)); (try (replace r7 := r7.ext hx)); (try (replace a5 := a5.ext hx)); (try (replace a6 := a6.ext hx)); clear hx)
              | (go_at_call 15
                 (with_reducible refine (same_yes A9 B7 c9 d7 (appR l) _ R9 r7 (by omega)).mono ?_)
                 rintro e wn ⟨rfl, hx⟩
                 replace HM := HM.ext hx; replace HC := HC.ext hx; replace HA := HA.ext hx; replace HB := HB.ext hx; replace HD := HD.ext hx; replace R9 := R9.ext hx; replace HX := HX.trans hx; replace b0 := hx.cell b0; replace o0 := hx.cell o0; (try (replace r1 := r1.ext hx)); (try (replace r3 := r3.ext hx)); (try (replace r5 := r5.ext hx)); (try (replace r6 := r6.ext hx)); (try (replace r7 := r7.ext hx)); (try (replace a5 := a5.ext hx)); (try (replace a6 := a6.ext hx)); clear hx))
          all_goals
            go_wp2
            go_ret
            exact ⟨rfl, HX⟩
end Go.Proofs.Ytjiabibnbpjhaaa
