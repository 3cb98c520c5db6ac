/- The contract of ranges.Of: what is right and not empty, sorted, put together. -/
import Derived.Test.YtmcddajniiaieaaDoorGather
import Derived.Test.YtmcddajniiaieaaDoorShelf
import Derived.Deep.Cut
import Derived.Shelf.SlSortCmp.NoneTotal
namespace Go.Proofs.YtmcddajniiaieaaDoor
open Go.RowKit Go.Sort

theorem closure_calls (x y : Sp) (W : World) : Calls Tryd.prog 31 #[.agg x.cells.toArray, .agg y.cells.toArray] W fun e w' => e = .returned (.int .i64 (Lib.compareInt x.f y.f)) ∧ ∃ q os', w' = grow (W.drewN q) os' := by
  have hcon := fun W' => AnyG.cmp_Compare_int cmpI x.f y.f W'
  change ∀ W', Calls Tryd.prog 32 _ _ _ at hcon
  generalize Lib.compareInt x.f y.f = r at hcon ⊢
  change Calls Tryd.prog 31 #[.agg #[.int .i64 x.f, .int .i64 x.t], .agg #[.int .i64 y.f, .int .i64 y.t]] W _
  go_enter Tryd.func31, Tryd.ntmps31
  go_wp2_with (go_at_call 32; refine (hcon _).mono ?_; rintro e w' ⟨rfl, rfl⟩)
  go_ret
  exact ⟨rfl, 0, _, by rw [alloc_eq_grow, alloc_eq_grow, grow_grow]; rfl⟩

theorem ltF (x y : Sp) : ltOf (fun x y : Sp => Lib.compareInt x.f y.f) x y = decide (x.f < y.f) := by
  unfold ltOf Lib.compareInt
  by_cases h1 : x.f < y.f
  · simp [h1]
  · by_cases h2 : y.f < x.f <;> simp [h1, h2]
theorem swoF : SWO (ltOf fun x y : Sp => Lib.compareInt x.f y.f) where
  irrefl x := by rw [ltF]; simp
  trans x y z h1 h2 := by rw [ltF] at *; simp at *; omega
  ntrans x y z h1 h2 := by rw [ltF] at *; simp at *; omega

theorem own_holds {w : World} {base : Nat} {e : TypeId} {g c : Nat} {L : List Sp} (h : w.ownsRow base e 2 (.slice (some ⟨g, 0, none⟩) L.length c) L.length (spans L)) : HoldsK Sp.cells 2 w g 0 L.toArray := fun j hj => by
  have hj' : j < L.length * 2 := by simpa using hj
  have hk : j / 2 < L.length := by omega
  refine ⟨?_, ?_⟩
  · rw [get_flatK _ _ _ _ (by simpa using hj'), Nat.zero_add, h.cellAt _ hj']
    have hjj : j = j / 2 * 2 + j % 2 := by omega
    have hg := spans_get L (j / 2) (j % 2) hk (by omega)
    rw [← hjj] at hg
    rw [hg]
    have e1 : L.toArray[j / 2]! = L[j / 2] := by simp [hk]
    rw [e1]
    have hl : j % 2 < (Sp.cells (L[j / 2]'hk)).length := by show j % 2 < 2; omega
    rw [List.getElem?_eq_getElem hl, getElem!_pos (Sp.cells L[j / 2]) (j % 2) hl]
    rfl
  · exact h.frozenAt _
theorem holds_sat {w : World} {g : Nat} {d : Array Sp} (h : HoldsK Sp.cells 2 w g 0 d) : SAt w (some ⟨g, 0, none⟩) d.toList := fun k hk => by
  have hk' : k < d.size := by simpa using hk
  have h0 := (h (k * 2) (by simp; omega)).1
  have h1 := (h (k * 2 + 1) (by simp; omega)).1
  rw [get_flatK _ _ _ _ (by omega)] at h0 h1
  have e0 : k * 2 / 2 = k := by omega
  have e1 : (k * 2 + 1) / 2 = k := by omega
  have r0 : k * 2 % 2 = 0 := by omega
  have r1 : (k * 2 + 1) % 2 = 1 := by omega
  have ed : d[k]! = d.toList[k] := by simp [hk']
  rw [e0, r0, ed] at h0
  rw [e1, r1, ed] at h1
  exact ⟨g, 0, rfl, h0, h1⟩
theorem ext_sort {w0 w : World} {g off n : Nat} (h : Ext w0 w) (hg : w0.heap.size ≤ g) (d' : Array Sp) (os : Array Obj) : Ext w0 (sortWorldK Sp.cells 2 w g off n d' os) := by
  unfold sortWorldK
  have e : (putRowK Sp.cells 2 (Sort.ahead w n) g off d').heap.size = w.heap.size := size_putRowK _ _ _ _ _ _
  refine ⟨h.os, h.tape, h.output, ?_, fun k hk => ?_⟩
  · show w0.heap.size ≤ (_ ++ os).size
    rw [Array.size_append, e]
    exact Nat.le_trans h.size (Nat.le_add_right _ _)
  · have hk2 : k < w.heap.size := Nat.lt_of_lt_of_le hk h.size
    show (_ ++ os)[k]? = _
    rw [Array.getElem?_append_left (by rw [e]; exact hk2)]
    show ((Sort.ahead w n).heap.modify g _)[k]? = _
    rw [Array.getElem?_modify, if_neg (by omega)]
    exact Below.block h k hk

/-- The row is sorted by the beginnings. -/
def SortPost (w0 : World) (A : Option Addr) (L : List Sp) (e : Ending) (w' : World) : Prop := ∃ L' : List Sp, L'.Perm L ∧ Rising L' ∧ e = .returned (.tuple #[]) ∧ SAt w' A L' ∧ Ext w0 w'
theorem sort_calls (w0 : World) (A : Option Addr) (c : Nat) (L : List Sp) (w : World) (hx : Ext w0 w) (h : w.ownsRow w0.heap.size 50 2 (.slice A L.length c) L.length (spans L)) (hl : L.length ≤ 1000000) :
    Calls Tryd.prog 30 #[.slice A L.length c, .func (.func 31) #[] #[]] w (SortPost w0 A L) := by
  rcases Nat.eq_zero_or_pos L.length with h0 | h0
  · obtain rfl := List.eq_nil_of_length_eq_zero h0
    have hcon := AnyF.slices_SortFunc_none (P := Tryd.prog) (ρ := sortS_ren) { sortS with } A c (.func (.func 31) #[] #[]) w
    exact hcon.mono fun e w' ⟨he, hw⟩ => ⟨[], List.Perm.refl _, List.Pairwise.nil, he, SAt.nil _ _, by rw [hw]; exact hx⟩
  · obtain ⟨g, cap, hv, _, hlt⟩ := h.form h0
    cases hv
    have hg : w0.heap.size ≤ g := own_base h rfl
    have eg : ∀ args w, (callFunc 31 args).run Tryd.prog w = .ok (.enter 31 args) w := enters_of Tryd.func31 (by kernel_rfl) rfl
    have hH := own_holds h
    have hcon := AnyQ.slices_SortFunc sortS 2 Tryd.isAgg50 Tryd.sizeOf50 Sp.cells (fun _ => rfl) (fun x v hv => by simp [Sp.cells] at hv; rcases hv with rfl | rfl <;> rfl) (fun x y => Lib.compareInt x.f y.f) swoF 31 #[] g 0 c L.toArray w eg (fun _ _ _ _ x y => closure_calls x y _) hH (by simpa using hlt) (by simp; omega)
    refine hcon.mono ?_
    rintro e w' ⟨he, d', n, os, hp, hs, rfl⟩
    obtain ⟨hs1, _, hp⟩ := hp
    have hsz : d'.size = L.length := by simpa using hs1
    refine ⟨d'.toList, ?_, ?_, he, ?_, ext_sort hx hg d' os⟩
    · have e1 : d'.extract 0 L.toArray.size = d' := by rw [← hs1]; simp
      have e2 : L.toArray.extract 0 L.toArray.size = L.toArray := by simp
      rw [e1, e2] at hp
      simpa using hp
    · refine List.pairwise_iff_getElem.2 fun i j hi hj hij => ?_
      have hi' : i < d'.size := by simpa using hi
      have hj' : j < d'.size := by simpa using hj
      have := hs i j (Nat.zero_le _) hij (by simp; omega)
      rw [ltF, getElem!_pos d' i hi', getElem!_pos d' j hj'] at this
      simp at this ⊢
      exact this
    · exact holds_sat (holdsK_sortWorldK_c Sp.cells 2 w g 0 L.toArray d' n os hH (by simpa using hlt) hs1)

/-- What Of keeps: right, and not empty. -/
def goodB (s : Sp) : Bool := rightB s.f s.t && decide (s.f < s.t)
theorem good_ok (s : Sp) : goodB s = decide s.ok := by
  rw [Bool.eq_iff_iff, decide_eq_true_eq]
  unfold goodB rightB Sp.ok
  simp only [Bool.and_eq_true, decide_eq_true_eq]
  constructor
  · rintro ⟨⟨⟨a, b⟩, c⟩, d⟩; exact ⟨a, d, c⟩
  · rintro ⟨a, b, c⟩; exact ⟨⟨⟨a, by omega⟩, c⟩, b⟩

set_option maxHeartbeats 1000000 in
set_option maxRecDepth 100000 in
theorem of_calls (A : Option Addr) (c : Nat) (l : List Sp) (w : World) (h : SAt w A l) (hl : l.length ≤ 1000000) :
    Calls Tryd.prog 13 #[.slice A l.length c] w (SetPost w (ofS l)) := by
  go_enter Tryd.func13, Tryd.ntmps13
  go_wp2
  have hx0 : Ext w (w.alloc (.cells #[.slice none 0 0] 47)) := (Ext.refl w).alloc _
  have c0 : (w.alloc (.cells #[.slice none 0 0] 47)).cell? ⟨w.heap.size, 0, none⟩ = some (.slice none 0 0) := by simp
  have f0 : (w.alloc (.cells #[.slice none 0 0] 47)).frozen? ⟨w.heap.size, 0, none⟩ = false := by simp [go_sem]
  have z0 : w.heap.size < (w.alloc (.cells #[.slice none 0 0] 47)).heap.size := by simp
  replace h := h.ext hx0
  generalize (w.alloc (.cells #[.slice none 0 0] 47)) = w1 at *
  go_loopw [3, 8] (fun v i wr => ∃ k : Nat, k ≤ l.length ∧ i = .int .i64 k ∧ wr.ownsRow w1.heap.size 50 2 v ((l.take k).filter goodB).length (spans ((l.take k).filter goodB)) ∧ Ext w1 wr) (fun _ i _ => l.length - (intOf i).toNat)
  case atStart => exact ⟨0, Nat.zero_le _, rfl, World.ownsRow_nil _ _ _ _, Ext.refl w1⟩
  case round =>
    obtain ⟨k, hk, rfl, hown, hx⟩ := hrel
    by_cases hlt : k < l.length
    · obtain ⟨b, o, rfl, p0, p1⟩ := h.ext hx k hlt
      have hts : (l.take (k + 1)).filter goodB = (l.take k).filter goodB ++ if goodB l[k] then [l[k]] else [] := by
        rw [List.take_succ_eq_append_getElem hlt, List.filter_append]
        cases hg : goodB l[k] <;> simp [hg]
      have hlen : ((l.take k).filter goodB).length ≤ k := Nat.le_trans (List.length_filter_le _ _) (List.length_take_le _ _)
      generalize l[k] = s at *
      generalize (l.take k).filter goodB = L at *
      have HT := Lib.hid hts
      have hb0 := hx.size
      clear hts h c0 f0 z0
      go_wp2_with fail
      refine (right_calls _ _ _).mono ?_
      rintro e w2 ⟨rfl, hx2⟩
      have d0 : w2.cell? ⟨wr.heap.size, 0, none⟩ = some (.int .i64 s.f) := hx2.cell (by simp)
      have d1 : w2.cell? ⟨wr.heap.size, 1, none⟩ = some (.int .i64 s.t) := hx2.cell (by simp)
      have hx3 := hx.trans (((Ext.refl wr).alloc (.cells #[.int .i64 s.f, .int .i64 s.t] 50)).trans hx2)
      have hown1 := ownsRow_ext hown (((Ext.refl wr).alloc (.cells #[.int .i64 s.f, .int .i64 s.t] 50)).trans hx2)
      have hg : goodB s = (rightB s.f s.t && decide (s.f < s.t)) := rfl
      have HG := Lib.hid hg
      have hb2 := hx3.size
      obtain ⟨V, cv, rfl, _⟩ := own_shape hown1
      clear hown hx2 p0 p1 hg hx hb0
      cases eR : rightB s.f s.t
      · have HG2 : Hid (goodB s = false) := by rw [HG.out, eR]; rfl
        clear HG
        go_wp2
        go_roundw
        case rel => exact ⟨k + 1, by omega, by go_num, by rw [HT.out, HG2.out]; simpa using hown1, hx3⟩
        case measure => simp [intOf]; omega
      · cases eL : decide (s.f < s.t)
        · have HG2 : Hid (goodB s = false) := by rw [HG.out, eL, eR]; rfl
          have e3 : ¬ s.f < s.t := by simpa using eL
          clear HG eL
          go_wp2
          go_roundw
          case rel => exact ⟨k + 1, by omega, by go_num, by rw [HT.out, HG2.out]; simpa using hown1, hx3⟩
          case measure => simp [intOf]; omega
        · have HG2 : Hid (goodB s = true) := by rw [HG.out, eL, eR]; rfl
          have e3 : s.f < s.t := by simpa using eL
          clear HG eL
          go_wp2_with (at_builtin; refine wpList_append_new _ rfl _ _ 45 rfl w1.heap.size 50 _ 2 16 Tryd.underlying45 infoSpan rfl (by omega) _ _ _ rfl hown1 1 1 _ (by simp) _ rfl rfl (by simp [Value.oneCell']) (by simp [maxLen]; omega) (by omega) hb2 ?_; intro v3 w3 hown2 hm)
          have hx4 := ext_moved hx3 hown1 hm
          go_roundw
          case rel => exact ⟨k + 1, by omega, by go_num, by rw [HT.out, HG2.out, if_pos rfl, spans_append, spans_one, List.length_append]; exact hown2, hx4⟩
          case measure => simp [intOf]; omega
    · obtain rfl : k = l.length := by omega
      rw [List.take_length] at hown
      obtain ⟨V, cv, rfl, _⟩ := own_shape hown
      have hlen := List.length_filter_le goodB l
      have hok : ∀ s, s ∈ l.filter goodB ↔ s ∈ l ∧ s.ok := fun s => by rw [List.mem_filter, good_ok, decide_eq_true_eq]
      have HO := Lib.hid hok
      generalize l.filter goodB = L at *
      have k0 := hx.cell c0
      have z1 := Nat.lt_of_lt_of_le z0 hx.size
      have kf := (hx.frozen (p := ⟨w.heap.size, 0, none⟩) (by simpa using z0)).trans f0
      clear h hok
      go_wp2_with fail
      refine (sort_calls w1 V cv L _ hx hown (by omega)).mono ?_
      rintro e w2 ⟨L', hp, hr, rfl, hs, hx2⟩
      have hlp := hp.length_eq
      have hgc := gather_calls V cv L' w2 hs (by omega)
      have hG : gath L' = ofS l := gath_of (fun s h => ((HO.out s).1 (hp.mem_iff.1 h)).2) hr (fun s => hp.mem_iff.trans (HO.out s))
      rw [hlp, hG] at hgc
      have HC := Lib.hid hgc
      have k1 := hx2.cell c0
      have kg := (hx2.frozen (p := ⟨w.heap.size, 0, none⟩) (by simpa using z0)).trans f0
      have hx3 := hx0.trans hx2
      have hx2s := hx2.size
      clear hgc hlp hG hp hr hs HO hown k0 kf hlen hx hx2 c0 f0
      go_wp2_with fail
      refine HC.out.mono ?_
      rintro e w5 ⟨v5, rfl, hown5, hx5⟩
      obtain ⟨A5, c5, rfl, _⟩ := own_shape hown5
      have z2 : w.heap.size < w2.heap.size := Nat.lt_of_lt_of_le z0 hx2s
      have k3 := hx5.cell k1
      have kf : w5.frozen? ⟨w.heap.size, 0, none⟩ = false := (hx5.frozen (by exact z2)).trans kg
      clear k1 kg HC
      generalize ofS l = R at *
      go_wp2
      refine bodyPost_ret (v := .agg #[.slice A5 R.length c5]) (by simp [results, Tryd.results13, go_sem, k3]) rfl ⟨A5, c5, rfl, Lib.hid ?_, Lib.hid (newA_of hown5 hx3.size), ?_⟩
      · exact sat_set hown5 (by exact z2) _
      · exact (hx3.trans hx5).setCell (Nat.le_refl _) _
end Go.Proofs.YtmcddajniiaieaaDoor
