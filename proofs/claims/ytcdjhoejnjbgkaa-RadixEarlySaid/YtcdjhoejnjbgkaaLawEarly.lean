/- RadixEarly: the walk. -/
import Derived.Test.YtcdjhoejnjbgkaaLawOrder
namespace Go.Proofs.Ytcdjhoejnjbgkaa
open Go.RowKit
attribute [local go_sem] Oper.semAt_some

/-- The variable m at block M, and the variable w at block WB, behind the calls that have been made. -/
def Both9 (w0 : World) (M WB : Nat) (t : Option Nd) (w : World) : Prop :=
  ∃ p v, w.heap[M]? = some (.cells #[.pointer p] 27 (0, 0)) ∧ w.heap[WB]? = some (.cells #[v] 28 (0, 0)) ∧ w0.heap.size ≤ M ∧ WB = M + 1 ∧ AtO w p t ∧ Reads2 w v (Nd.oL t) ∧ Ext w0 w
theorem reads_set28 {w : World} {M : Nat} {u v' v : Value} {l : List Pr} (h : Reads2 w v l) (hM : w.heap[M]? = some (.cells #[u] 28 (0, 0))) (hu : ∃ A n c, u = .slice A n c := by exact ⟨_, _, _, rfl⟩) : Reads2 (w.setCell ⟨M, 0, none⟩ v') v l := by
  obtain ⟨A, c, e, h⟩ := h
  obtain ⟨UA, un, uc, rfl⟩ := hu
  refine ⟨A, c, e, fun k hk => ?_⟩
  obtain ⟨b, hA, p0, p1⟩ := h k hk
  have hne : b ≠ M := by
    obtain ⟨b', hA', q0, _⟩ := h 0 (by omega)
    rw [hA] at hA'
    cases hA'
    rintro rfl
    rw [cell_of_row w b _ _ _ _ hM] at q0
    simp at q0
  refine ⟨b, hA, ?_, ?_⟩
  · rw [World.cell?_setCell_other _ _ _ _ (by intro e; exact hne (congrArg Addr.block e).symm)]; exact p0
  · rw [World.cell?_setCell_other _ _ _ _ (by intro e; exact hne (congrArg Addr.block e).symm)]; exact p1

/-- Between two rounds of a walk over the map: so many have been told, and not too many. -/
def Ie (L : List Pr) (cnt : Nat) (Wb : World) (pre : List Pr) (W : World) : Prop :=
  pre <+: L ∧ pre.length ≤ cnt ∧ Boxed W Wb.heap.size 3 (.int .i64 (pre.length : Int)) ∧ Below Wb.heap.size Wb W
/-- How a round leaves: it has been told what is not next; or enough. -/
def Ixe (L : List Pr) (cnt : Nat) (Wb : World) (c : Code) (pre : List Pr) (W : World) : Prop :=
  (c = .ret ∧ ¬ pre <+: L) ∨ (c = .exit 4 ∧ cnt + 1 ≤ L.length ∧ Boxed W Wb.heap.size 3 (.int .i64 ((cnt : Int) + 1)) ∧ Below Wb.heap.size Wb W)
theorem pre_step {L pre : List Pr} {x : Pr} (h : pre <+: L) (hl : pre.length < L.length) : pre ++ [x] <+: L ↔ x = L[pre.length] := by
  obtain ⟨r, rfl⟩ := h
  rcases r with _ | ⟨y, r⟩
  · simp at hl
  · have e : (pre ++ y :: r)[pre.length]'hl = y := by simp
    rw [e]
    constructor
    · rintro ⟨q, hq⟩
      rw [List.append_assoc] at hq
      have := List.append_cancel_left hq
      simp at this; exact this.1
    · rintro rfl; exact ⟨r, by simp⟩

set_option maxHeartbeats 4000000 in
set_option maxRecDepth 100000 in
theorem lawEarly_calls (A : Option Addr) (c : Nat) (l : List Ac) (s : Nat) (hs : s ≤ 255) (w : World) (ha : Acts w A l) :
    Calls Try.prog 9 #[.slice A l.length c, .int .u8 s] w fun e w' => e = .returned (.bool true) ∧ Ext w w' := by
  have hlow := ha.low
  have hnf : ∀ (f : FuncId) (a b : Array Value) (w : World), (binOp .eql 43 (.func (.func f) a b) .nilFunc).run Try.prog w = .ok (.bool false) w := fun _ _ _ _ => by kernel_rfl
  refine (callsIn_wide (n := 5)).1 ?_
  refine callsIn_of_wp_marks Try.func9 rfl trivial ?_ rfl
  simp only [Try.ntmps9, List.size_toArray, List.length_cons, List.length_nil, Nat.reduceAdd, Nat.reduceSub, Array.replicate_succ, Array.replicate_zero, List.push_toArray, List.append_toArray, List.nil_append, List.cons_append]
  refine wpIn_wide.2 ?_
  go_wp2_with fail
  have hx0 : Ext w ((w.alloc (.cells #[.int .u8 s] 5)).alloc (.cells #[.bool false] 4)) := ((Ext.refl _).alloc _).alloc _
  have bs := (Boxed.new w 5 (.int .u8 s)).alloc (.cells #[.bool false] 4)
  have br := Boxed.new (w.alloc (.cells #[.int .u8 s] 5)) 4 (.bool false)
  rw [World.size_alloc] at br
  refine (St.awake_calls _).mono ?_
  rintro e w1 ⟨rfl, hx1⟩
  have hx := hx0.trans hx1
  replace ha := ha.ext hx
  replace bs := show Boxed w1 _ _ _ from hx1.block bs
  replace br := show Boxed w1 _ _ _ from hx1.block br
  clear hx0 hx1
  have hrl := br.lt
  by_cases hl : 60 < l.length
  · go_wp2_with fail
    refine (St.awake_calls _).mono ?_
    rintro e w2 ⟨rfl, hx2⟩
    replace br := show Boxed w2 _ _ _ from hx2.block br
    have r1 := br.cell
    have r2 := br.frozen
    go_wp2
    refine ⟨.bool true, ?_, rfl, (hx.trans hx2).setCell (p := ⟨w.heap.size + 1, 0, none⟩) (by simp) _⟩
    have u := (br.set (.bool true)).cell
    simp [results, Try.f9, go_sem, u]
  · have hB : Both9 w1 w1.heap.size (w1.heap.size + 1) none ((w1.alloc (.cells #[.pointer none] 27)).alloc (.cells #[.slice none 0 0] 28)) := by
      refine ⟨none, .slice none 0 0, ((Ext.refl _).alloc _).block (heap_alloc_new w1 _), ?_, Nat.le_refl _, rfl, rfl, ⟨none, 0, rfl, fun k hk => by simp [Nd.oL] at hk⟩, ((Ext.refl _).alloc _).alloc _⟩
      have := heap_alloc_new (w1.alloc (.cells #[.pointer none] 27)) (.cells #[.slice none 0 0] 28)
      simpa using this
    go_wp2
    generalize hM : w1.heap.size = M at *
    generalize hWBe : M + 1 = WB at *
    generalize (w1.alloc (.cells #[.pointer none] 27)).alloc (.cells #[.slice none 0 0] 28) = wi at *
    have HMM := Lib.hid (And.intro hM hWBe)
    clear hM hWBe
    go_loopw [23] (fun i wr => ∃ n : Nat, n ≤ l.length ∧ i = .int .i64 n ∧ Both9 w1 M WB (runO (l.take n)) wr) (fun i _ => l.length - (intOf i).toNat)
    case atStart => exact ⟨0, Nat.zero_le _, rfl, hB⟩
    case round =>
      clear hB
      obtain ⟨n, hn, rfl, hB'⟩ := hrel
      by_cases hlt : n < l.length
      · obtain ⟨p, wv, HM, HW, hM0, hWB, hat, hrd, hx1⟩ := hB'
        subst hWB
        obtain ⟨ab, ao, rfl, a0, a1, a2, hk⟩ := ha.ext hx1 n hlt
        have hwf := runO_wf (low_take hlow n)
        have hln := runO_len (low_take hlow n)
        have hlen : (l.take n).length ≤ n := List.length_take_le _ _
        have hst := runO_take hlt
        generalize l[n] = a at *
        generalize runO (l.take n) = t at *
        obtain ⟨A2, c2, rfl, hrow⟩ := hrd
        have hMl := (Array.getElem?_eq_some_iff.1 HM).1
        have hWl := (Array.getElem?_eq_some_iff.1 HW).1
        have HS := Lib.hid hst
        clear hst
        go_upto_region 8 with (fail)
        have hxb : Ext wr (wr.alloc (.cells #[.int .i64 a.kind, .int .u64 (a.k : Int), .int .i64 a.v] 30)) := (Ext.refl _).alloc _
        have hab := heap_alloc_new wr (.cells #[.int .i64 a.kind, .int .u64 (a.k : Int), .int .i64 a.v] 30)
        generalize wr.heap.size = ah at *
        generalize wr.alloc (.cells #[.int .i64 a.kind, .int .u64 (a.k : Int), .int .i64 a.v] 30) = wb at *
        have hdr := hxb.trans (show Ext wb wb.drew from (Ext.refl _).drew)
        replace HM := hdr.block HM
        replace HW := hdr.block HW
        have AT := hat.ext hdr
        have RD := hrow.ext hdr
        have HX := hx1.trans hdr
        have b0 : wb.drew.cell? ⟨ah, 0, none⟩ = some (.int .i64 a.kind) := by rw [cell_of_row wb.drew ah 0 _ _ _ hab]; rfl
        have b1 : wb.drew.cell? ⟨ah, 1, none⟩ = some (.int .u64 (a.k : Int)) := by rw [cell_of_row wb.drew ah 1 _ _ _ hab]; rfl
        have b2 : wb.drew.cell? ⟨ah, 2, none⟩ = some (.int .i64 a.v) := by rw [cell_of_row wb.drew ah 2 _ _ _ hab]; rfl
        have m1 := (cell_ptr HM).1
        have m2 := (cell_ptr HM).2
        have v1 := (show Boxed _ _ _ _ from HW).cell
        have v2 := (show Boxed _ _ _ _ from HW).frozen
        clear hat hrow hx1 hab hdr hxb a0 a1 a2 ha
        refine wp_region_noPanic ?_
        refine wp_region_held_drew (S := fun w' => w'.cell? ⟨ah, 0, none⟩ = some (.int .i64 a.kind) ∧ w'.cell? ⟨ah, 1, none⟩ = some (.int .u64 (a.k : Int)) ∧ w'.cell? ⟨ah, 2, none⟩ = some (.int .i64 a.v)) (by kernel_rfl) ⟨b0, b1, b2⟩ (fun hHeld => ?_)
        try dsimp only at hHeld
        refine wpAnyH_take (i := 1) (v := ?_) rfl (by kernel_rfl) (by kernel_rfl) (by kernel_rfl) (fun _ _ _ h => h) (Or.inl ⟨by rfl, ?_⟩) (by assumption) ?_
        rotate_left
        · intro w hSw
          try dsimp only at hSw
          go_simp
          try with_reducible rfl
        try simp only [Act.put]
        try simp only [List.setIfInBounds_toArray]
        try simp only [List.set_cons_succ]
        try simp only [List.set_cons_zero]
        refine wpAnyH_take (i := 4) (v := ?_) rfl (by kernel_rfl) (by kernel_rfl) (by kernel_rfl) (fun _ _ _ h => h) (Or.inl ⟨by rfl, ?_⟩) (by assumption) ?_
        rotate_left
        · intro w hSw
          try dsimp only at hSw
          go_simp
          try with_reducible rfl
        try simp only [Act.put]
        try simp only [List.setIfInBounds_toArray]
        try simp only [List.set_cons_succ]
        try simp only [List.set_cons_zero]
        refine wpAnyH_ready (rs := [0, 3]) (by kernel_rfl) (by simp) ?_
        refine AllReadyH.cons rfl (fun K hK => ?_) (AllReadyH.cons rfl (fun K hK => ?_) AllReadyH.nil)
        · go_simp
          refine hK.out _ _ ?_ (fun hHeld => ?_)
          · exact ⟨b0, b1, b2⟩
          clear hK K
          try simp only [Act.put]
          try simp only [List.setIfInBounds_toArray]
          try simp only [List.set_cons_succ]
          try simp only [List.set_cons_zero]
          refine wpAnyH_ready (rs := [2, 3]) (by kernel_rfl) (by simp) ?_
          refine AllReadyH.cons rfl (fun K hK => ?_) (AllReadyH.cons rfl (fun K hK => ?_) AllReadyH.nil)
          · go_simp
            refine (do_lit p t a _ ⟨AT, hwf, by omega⟩ hk).mono ?_
            rintro e wn ⟨q, rfl, HD, hx⟩
            replace RD := RD.ext hx
            clear AT
            replace HM := hx.block HM
            replace HW := hx.block HW
            replace b0 := hx.cell b0
            replace b1 := hx.cell b1
            replace b2 := hx.cell b2
            replace HX := HX.trans hx
            clear m1 m2 v1 v2
            have m1 := (cell_ptr HM).1
            have m2 := (cell_ptr HM).2
            have v1 := (show Boxed _ _ _ _ from HW).cell
            have v2 := (show Boxed _ _ _ _ from HW).frozen
            go_wp2_with fail
            refine hK.out _ _ ?_ (fun hHeld => ?_)
            · exact ⟨b0, b1, b2⟩
            clear hK K
            try simp only [Act.put]
            try simp only [List.setIfInBounds_toArray]
            try simp only [List.set_cons_succ]
            try simp only [List.set_cons_zero]
            refine wpAnyH_ready (rs := [3]) (by kernel_rfl) (by simp) ?_
            refine AllReadyH.cons rfl (fun K hK => ?_) AllReadyH.nil
            go_simp
            refine hK.out _ _ ?_ (fun hHeld => ?_)
            · exact ⟨b0, b1, b2⟩
            clear hK K
            try simp only [Act.put]
            try simp only [List.setIfInBounds_toArray]
            try simp only [List.set_cons_succ]
            try simp only [List.set_cons_zero]
            refine wpAnyH_ready (rs := [5]) (by kernel_rfl) (by simp) ?_
            refine AllReadyH.cons rfl (fun K hK => ?_) AllReadyH.nil
            go_simp
            refine (want_lit A2 c2 _ a _ RD (by omega)).mono ?_
            clear RD
            rintro e wn ⟨v, rfl, HWL, hx⟩
            replace HD := HD.ext hx
            obtain ⟨A3, c3, rfl, HWR⟩ := HWL
            replace HM := hx.block HM
            replace HW := hx.block HW
            replace b0 := hx.cell b0
            replace b1 := hx.cell b1
            replace b2 := hx.cell b2
            replace HX := HX.trans hx
            clear m1 m2 v1 v2
            have m1 := (cell_ptr HM).1
            have m2 := (cell_ptr HM).2
            have v1 := (show Boxed _ _ _ _ from HW).cell
            have v2 := (show Boxed _ _ _ _ from HW).frozen
            go_wp2_with fail
            refine hK.out _ _ ?_ (fun hHeld => ?_)
            · exact ⟨b0, b1, b2⟩
            clear hK K
            try simp only [Act.put]
            try simp only [List.setIfInBounds_toArray]
            try simp only [List.set_cons_succ]
            try simp only [List.set_cons_zero]
            have HM2 := heap_setCell_same wn M 0 _ 27 (.pointer q) HM
            have HD2 := AtO.keep (nodes_set HM (by decide) 0 (.pointer q)) HD
            have HR2 := reads_set (q := q) (show Reads2 wn (.slice A3 (wantL (Nd.oL t) a).length c3) (wantL (Nd.oL t) a) from ⟨A3, c3, rfl, HWR⟩) HM
            have HW2 := (Below.heap_setCell wn ⟨M, 0, none⟩ (.pointer q) (M + 1) (show M + 1 ≠ M by omega)).trans HW
            have HX2 := HX.setCell (p := ⟨M, 0, none⟩) hM0 (.pointer q)
            refine wpAnyH_ready (rs := [6]) (by kernel_rfl) (by simp) ?_
            refine AllReadyH.cons rfl (fun K hK => ?_) AllReadyH.nil
            go_simp
            refine hK.out _ _ ?_ (fun hHeld => ?_)
            · refine ⟨?_, ?_, ?_⟩ <;> (rw [World.cell?_setCell_other _ _ _ _ (by intro e; cases e <;> omega)]; assumption)
            clear hK K
            try simp only [Act.put]
            try simp only [List.setIfInBounds_toArray]
            try simp only [List.set_cons_succ]
            try simp only [List.set_cons_zero]
            clear m1 m2 v1 v2 b0 b1 b2 HM HD HW HX HWR
            generalize wn.setCell ⟨M, 0, none⟩ (.pointer q) = wm at *
            have v1 := (show Boxed _ _ _ _ from HW2).cell
            have v2 := (show Boxed _ _ _ _ from HW2).frozen
            obtain ⟨b0, b1, b2⟩ := hHeld
            have HB9 : Both9 w1 M (M + 1) (doO t a) (wm.setCell ⟨M + 1, 0, none⟩ (.slice A3 (wantL (Nd.oL t) a).length c3)) := by
              refine ⟨q, _, ?_, heap_setCell_same wm (M + 1) 0 _ 28 _ HW2, hM0, rfl, ?_, ?_, HX2.setCell (p := ⟨M + 1, 0, none⟩) (by have := hM0; show w1.heap.size ≤ M + 1; omega) _⟩
              · exact (Below.heap_setCell wm ⟨M + 1, 0, none⟩ _ M (show M ≠ M + 1 by omega)).trans HM2
              · exact AtO.keep (nodes_set HW2 (by decide) 0 _) HD2
              · rw [(doO_ok hk hwf).2]; exact reads_set28 HR2 HW2
            refine wpAnyH_ready (rs := [7]) (by kernel_rfl) (by simp) ?_
            refine AllReadyH.cons rfl (fun K hK => ?_) AllReadyH.nil
            go_simp
            refine hK.out _ _ ?_ (fun hHeld => ?_)
            · refine ⟨?_, ?_, ?_⟩ <;> (rw [World.cell?_setCell_other _ _ _ _ (by intro e; cases e <;> omega)]; assumption)
            clear hK K
            try simp only [Act.put]
            try simp only [List.setIfInBounds_toArray]
            try simp only [List.set_cons_succ]
            try simp only [List.set_cons_zero]
            refine wpAnyH_done (by kernel_rfl) ?_ _
            refine noPanic_intro ?_
            go_wp2_with fail
            go_roundw
            case rel => exact ⟨n + 1, by omega, by go_num, by rw [HS.out]; exact HB9⟩
            case measure => simp [intOf] <;> omega
          · go_simp
            refine hK.out _ _ ?_ (fun hHeld => ?_)
            · exact ⟨b0, b1, b2⟩
            clear hK K
            try simp only [Act.put]
            try simp only [List.setIfInBounds_toArray]
            try simp only [List.set_cons_succ]
            try simp only [List.set_cons_zero]
            refine wpAnyH_ready (rs := [2]) (by kernel_rfl) (by simp) ?_
            refine AllReadyH.cons rfl (fun K hK => ?_) AllReadyH.nil
            go_simp
            refine (do_lit p t a _ ⟨AT, hwf, by omega⟩ hk).mono ?_
            rintro e wn ⟨q, rfl, HD, hx⟩
            replace RD := RD.ext hx
            clear AT
            replace HM := hx.block HM
            replace HW := hx.block HW
            replace b0 := hx.cell b0
            replace b1 := hx.cell b1
            replace b2 := hx.cell b2
            replace HX := HX.trans hx
            clear m1 m2 v1 v2
            have m1 := (cell_ptr HM).1
            have m2 := (cell_ptr HM).2
            have v1 := (show Boxed _ _ _ _ from HW).cell
            have v2 := (show Boxed _ _ _ _ from HW).frozen
            go_wp2_with fail
            refine hK.out _ _ ?_ (fun hHeld => ?_)
            · exact ⟨b0, b1, b2⟩
            clear hK K
            try simp only [Act.put]
            try simp only [List.setIfInBounds_toArray]
            try simp only [List.set_cons_succ]
            try simp only [List.set_cons_zero]
            refine wpAnyH_ready (rs := [5]) (by kernel_rfl) (by simp) ?_
            refine AllReadyH.cons rfl (fun K hK => ?_) AllReadyH.nil
            go_simp
            refine (want_lit A2 c2 _ a _ RD (by omega)).mono ?_
            clear RD
            rintro e wn ⟨v, rfl, HWL, hx⟩
            replace HD := HD.ext hx
            obtain ⟨A3, c3, rfl, HWR⟩ := HWL
            replace HM := hx.block HM
            replace HW := hx.block HW
            replace b0 := hx.cell b0
            replace b1 := hx.cell b1
            replace b2 := hx.cell b2
            replace HX := HX.trans hx
            clear m1 m2 v1 v2
            have m1 := (cell_ptr HM).1
            have m2 := (cell_ptr HM).2
            have v1 := (show Boxed _ _ _ _ from HW).cell
            have v2 := (show Boxed _ _ _ _ from HW).frozen
            go_wp2_with fail
            refine hK.out _ _ ?_ (fun hHeld => ?_)
            · exact ⟨b0, b1, b2⟩
            clear hK K
            try simp only [Act.put]
            try simp only [List.setIfInBounds_toArray]
            try simp only [List.set_cons_succ]
            try simp only [List.set_cons_zero]
            have HM2 := heap_setCell_same wn M 0 _ 27 (.pointer q) HM
            have HD2 := AtO.keep (nodes_set HM (by decide) 0 (.pointer q)) HD
            have HR2 := reads_set (q := q) (show Reads2 wn (.slice A3 (wantL (Nd.oL t) a).length c3) (wantL (Nd.oL t) a) from ⟨A3, c3, rfl, HWR⟩) HM
            have HW2 := (Below.heap_setCell wn ⟨M, 0, none⟩ (.pointer q) (M + 1) (show M + 1 ≠ M by omega)).trans HW
            have HX2 := HX.setCell (p := ⟨M, 0, none⟩) hM0 (.pointer q)
            refine wpAnyH_ready (rs := [6]) (by kernel_rfl) (by simp) ?_
            refine AllReadyH.cons rfl (fun K hK => ?_) AllReadyH.nil
            go_simp
            refine hK.out _ _ ?_ (fun hHeld => ?_)
            · refine ⟨?_, ?_, ?_⟩ <;> (rw [World.cell?_setCell_other _ _ _ _ (by intro e; cases e <;> omega)]; assumption)
            clear hK K
            try simp only [Act.put]
            try simp only [List.setIfInBounds_toArray]
            try simp only [List.set_cons_succ]
            try simp only [List.set_cons_zero]
            clear m1 m2 v1 v2 b0 b1 b2 HM HD HW HX HWR
            generalize wn.setCell ⟨M, 0, none⟩ (.pointer q) = wm at *
            have v1 := (show Boxed _ _ _ _ from HW2).cell
            have v2 := (show Boxed _ _ _ _ from HW2).frozen
            obtain ⟨b0, b1, b2⟩ := hHeld
            have HB9 : Both9 w1 M (M + 1) (doO t a) (wm.setCell ⟨M + 1, 0, none⟩ (.slice A3 (wantL (Nd.oL t) a).length c3)) := by
              refine ⟨q, _, ?_, heap_setCell_same wm (M + 1) 0 _ 28 _ HW2, hM0, rfl, ?_, ?_, HX2.setCell (p := ⟨M + 1, 0, none⟩) (by have := hM0; show w1.heap.size ≤ M + 1; omega) _⟩
              · exact (Below.heap_setCell wm ⟨M + 1, 0, none⟩ _ M (show M ≠ M + 1 by omega)).trans HM2
              · exact AtO.keep (nodes_set HW2 (by decide) 0 _) HD2
              · rw [(doO_ok hk hwf).2]; exact reads_set28 HR2 HW2
            refine wpAnyH_ready (rs := [7]) (by kernel_rfl) (by simp) ?_
            refine AllReadyH.cons rfl (fun K hK => ?_) AllReadyH.nil
            go_simp
            refine hK.out _ _ ?_ (fun hHeld => ?_)
            · refine ⟨?_, ?_, ?_⟩ <;> (rw [World.cell?_setCell_other _ _ _ _ (by intro e; cases e <;> omega)]; assumption)
            clear hK K
            try simp only [Act.put]
            try simp only [List.setIfInBounds_toArray]
            try simp only [List.set_cons_succ]
            try simp only [List.set_cons_zero]
            refine wpAnyH_done (by kernel_rfl) ?_ _
            refine noPanic_intro ?_
            go_wp2_with fail
            go_roundw
            case rel => exact ⟨n + 1, by omega, by go_num, by rw [HS.out]; exact HB9⟩
            case measure => simp [intOf] <;> omega
        · go_simp
          refine hK.out _ _ ?_ (fun hHeld => ?_)
          · exact ⟨b0, b1, b2⟩
          clear hK K
          try simp only [Act.put]
          try simp only [List.setIfInBounds_toArray]
          try simp only [List.set_cons_succ]
          try simp only [List.set_cons_zero]
          refine wpAnyH_ready (rs := [0]) (by kernel_rfl) (by simp) ?_
          refine AllReadyH.cons rfl (fun K hK => ?_) AllReadyH.nil
          go_simp
          refine hK.out _ _ ?_ (fun hHeld => ?_)
          · exact ⟨b0, b1, b2⟩
          clear hK K
          try simp only [Act.put]
          try simp only [List.setIfInBounds_toArray]
          try simp only [List.set_cons_succ]
          try simp only [List.set_cons_zero]
          refine wpAnyH_ready (rs := [2]) (by kernel_rfl) (by simp) ?_
          refine AllReadyH.cons rfl (fun K hK => ?_) AllReadyH.nil
          go_simp
          refine (do_lit p t a _ ⟨AT, hwf, by omega⟩ hk).mono ?_
          rintro e wn ⟨q, rfl, HD, hx⟩
          replace RD := RD.ext hx
          clear AT
          replace HM := hx.block HM
          replace HW := hx.block HW
          replace b0 := hx.cell b0
          replace b1 := hx.cell b1
          replace b2 := hx.cell b2
          replace HX := HX.trans hx
          clear m1 m2 v1 v2
          have m1 := (cell_ptr HM).1
          have m2 := (cell_ptr HM).2
          have v1 := (show Boxed _ _ _ _ from HW).cell
          have v2 := (show Boxed _ _ _ _ from HW).frozen
          go_wp2_with fail
          refine hK.out _ _ ?_ (fun hHeld => ?_)
          · exact ⟨b0, b1, b2⟩
          clear hK K
          try simp only [Act.put]
          try simp only [List.setIfInBounds_toArray]
          try simp only [List.set_cons_succ]
          try simp only [List.set_cons_zero]
          refine wpAnyH_ready (rs := [5]) (by kernel_rfl) (by simp) ?_
          refine AllReadyH.cons rfl (fun K hK => ?_) AllReadyH.nil
          go_simp
          refine (want_lit A2 c2 _ a _ RD (by omega)).mono ?_
          clear RD
          rintro e wn ⟨v, rfl, HWL, hx⟩
          replace HD := HD.ext hx
          obtain ⟨A3, c3, rfl, HWR⟩ := HWL
          replace HM := hx.block HM
          replace HW := hx.block HW
          replace b0 := hx.cell b0
          replace b1 := hx.cell b1
          replace b2 := hx.cell b2
          replace HX := HX.trans hx
          clear m1 m2 v1 v2
          have m1 := (cell_ptr HM).1
          have m2 := (cell_ptr HM).2
          have v1 := (show Boxed _ _ _ _ from HW).cell
          have v2 := (show Boxed _ _ _ _ from HW).frozen
          go_wp2_with fail
          refine hK.out _ _ ?_ (fun hHeld => ?_)
          · exact ⟨b0, b1, b2⟩
          clear hK K
          try simp only [Act.put]
          try simp only [List.setIfInBounds_toArray]
          try simp only [List.set_cons_succ]
          try simp only [List.set_cons_zero]
          have HM2 := heap_setCell_same wn M 0 _ 27 (.pointer q) HM
          have HD2 := AtO.keep (nodes_set HM (by decide) 0 (.pointer q)) HD
          have HR2 := reads_set (q := q) (show Reads2 wn (.slice A3 (wantL (Nd.oL t) a).length c3) (wantL (Nd.oL t) a) from ⟨A3, c3, rfl, HWR⟩) HM
          have HW2 := (Below.heap_setCell wn ⟨M, 0, none⟩ (.pointer q) (M + 1) (show M + 1 ≠ M by omega)).trans HW
          have HX2 := HX.setCell (p := ⟨M, 0, none⟩) hM0 (.pointer q)
          refine wpAnyH_ready (rs := [6]) (by kernel_rfl) (by simp) ?_
          refine AllReadyH.cons rfl (fun K hK => ?_) AllReadyH.nil
          go_simp
          refine hK.out _ _ ?_ (fun hHeld => ?_)
          · refine ⟨?_, ?_, ?_⟩ <;> (rw [World.cell?_setCell_other _ _ _ _ (by intro e; cases e <;> omega)]; assumption)
          clear hK K
          try simp only [Act.put]
          try simp only [List.setIfInBounds_toArray]
          try simp only [List.set_cons_succ]
          try simp only [List.set_cons_zero]
          clear m1 m2 v1 v2 b0 b1 b2 HM HD HW HX HWR
          generalize wn.setCell ⟨M, 0, none⟩ (.pointer q) = wm at *
          have v1 := (show Boxed _ _ _ _ from HW2).cell
          have v2 := (show Boxed _ _ _ _ from HW2).frozen
          obtain ⟨b0, b1, b2⟩ := hHeld
          have HB9 : Both9 w1 M (M + 1) (doO t a) (wm.setCell ⟨M + 1, 0, none⟩ (.slice A3 (wantL (Nd.oL t) a).length c3)) := by
            refine ⟨q, _, ?_, heap_setCell_same wm (M + 1) 0 _ 28 _ HW2, hM0, rfl, ?_, ?_, HX2.setCell (p := ⟨M + 1, 0, none⟩) (by have := hM0; show w1.heap.size ≤ M + 1; omega) _⟩
            · exact (Below.heap_setCell wm ⟨M + 1, 0, none⟩ _ M (show M ≠ M + 1 by omega)).trans HM2
            · exact AtO.keep (nodes_set HW2 (by decide) 0 _) HD2
            · rw [(doO_ok hk hwf).2]; exact reads_set28 HR2 HW2
          refine wpAnyH_ready (rs := [7]) (by kernel_rfl) (by simp) ?_
          refine AllReadyH.cons rfl (fun K hK => ?_) AllReadyH.nil
          go_simp
          refine hK.out _ _ ?_ (fun hHeld => ?_)
          · refine ⟨?_, ?_, ?_⟩ <;> (rw [World.cell?_setCell_other _ _ _ _ (by intro e; cases e <;> omega)]; assumption)
          clear hK K
          try simp only [Act.put]
          try simp only [List.setIfInBounds_toArray]
          try simp only [List.set_cons_succ]
          try simp only [List.set_cons_zero]
          refine wpAnyH_done (by kernel_rfl) ?_ _
          refine noPanic_intro ?_
          go_wp2_with fail
          go_roundw
          case rel => exact ⟨n + 1, by omega, by go_num, by rw [HS.out]; exact HB9⟩
          case measure => simp [intOf] <;> omega
      · obtain rfl : n = l.length := by omega
        obtain ⟨p, wv, hM, hW, hM0, hWB, hat, hrd, hx1⟩ := hB'
        rw [List.take_length] at hat hrd
        have hwf := runO_wf hlow
        have hln := runO_len hlow
        generalize runO l = t at *
        obtain ⟨A2, c2, rfl, hrow⟩ := hrd
        have hfe : fromO 0 t = Nd.oL t := by
          rw [from_okO hwf]; unfold fromL; rw [List.filter_eq_self]; intro a _; simp
        generalize hL : Nd.oL t = L at *
        have HFE := Lib.hid hfe
        replace br := show Boxed wr _ _ _ from hx1.block br
        replace bs := show Boxed wr _ _ _ from hx1.block bs
        replace hx := hx.trans hx1
        have bw := show Boxed wr WB 28 (.slice A2 L.length c2) from hW
        have m1 := (cell_ptr hM).1
        clear hfe hL hx1 hM
        obtain ⟨w2, rfl⟩ : ∃ w2 : World, w2 = wr := ⟨_, rfl⟩
        go_wp2_with fail
        refine (all_calls p _).mono ?_
        rintro e w3 ⟨v3, rfl, ⟨bm, bk, rfl, h1, h2⟩, hx3⟩
        replace br := show Boxed w3 _ _ _ from hx3.block br
        replace bs := show Boxed w3 _ _ _ from hx3.block bs
        replace bw := show Boxed w3 _ _ _ from hx3.block bw
        replace hx := hx.trans hx3
        replace hat := hat.ext hx3
        replace hrow := hrow.ext hx3
        clear hx3 m1 hW
        go_wp2_with fail
        refine wp_loop_rounds 3 ?_
        rw [rounds_succ]
        go_wp2_with fail
        subst hWB
        have hcm : (s : Int) % 20 = ((s % 20 : Nat) : Int) := by simp
        generalize s % 20 = cnt at *
        have hw3 := hx.size
        have xn : Ext w3 (w3.alloc (.cells #[.int .i64 0] 3)) := (Ext.refl _).alloc _
        have hrn0 := br.lt
        have hwn0 := bw.lt
        refine (wpIn_wide (n := 5)).1 ?_
        refine wpIn_rangeFunc_ownF rfl (by omega) (gf := 34) (lb := #[.pointer (some ⟨bm, 0, none⟩), .pointer (some ⟨bk, 0, none⟩)]) rfl trivial (enters_of Try.func34 (by kernel_rfl) rfl)
          (from_stops 0 w3 t p hat hwf bm bk _ _ xn (xn.block h1) (xn.block h2)) belowK_t (belowK_b (by simp)) (Below.refl _ _) (fun _ => rfl)
          (Ie L cnt w3) (Ixe L cnt w3)
          (fun s A B row hs hg hr => ⟨hs.1, hs.2.1, boxed_keep hs.2.2.1 hg hr, ownFrom_below (β := Unit) (Nat.le_refl _) (by simp) () A B row hs.2.2.2 hg hr⟩)
          (fun c s A B row hs hg hr => hs.imp id (fun hs => ⟨hs.1, hs.2.1, boxed_keep hs.2.2.1 hg hr, ownFrom_below (β := Unit) (Nat.le_refl _) (by simp) () A B row hs.2.2.2 hg hr⟩))
          ⟨List.nil_prefix, Nat.zero_le _, Boxed.new w3 3 (.int .i64 0), xn⟩
          (fun x => { tmps := #[.slice A l.length c, .int .u8 ↑s, undef, .pointer (some ⟨w.heap.size, 0, none⟩), .pointer (some ⟨w.heap.size + 1, 0, none⟩), .pointer (some ⟨M, 0, none⟩), .pointer (some ⟨M + 1, 0, none⟩), undef, u8, .func (.func 34) #[] #[.pointer (some ⟨bm, 0, none⟩), .pointer (some ⟨bk, 0, none⟩)], .pointer (some ⟨w3.heap.size, 0, none⟩), .int .u64 (x.k : Int), .int .i64 x.v, .bool true, .bool false, .bool false, .slice A l.length c, .int .i64 ↑l.length, .bool (decide ((60 : Int) < (l.length : Int))), .bool (decide ((60 : Int) < (l.length : Int))), undef, .slice A l.length c, .int .i64 ↑l.length, .int .i64 ↑l.length, .bool false, u25, u26, u27, u28, u29, u30, u31, u32, u33, .agg #[.pointer p], .func (.func 34) #[] #[.pointer (some ⟨bm, 0, none⟩), .pointer (some ⟨bk, 0, none⟩)], .func (.func 34) #[] #[.pointer (some ⟨bm, 0, none⟩), .pointer (some ⟨bk, 0, none⟩)], .bool false, .int .i64 0, .bool true, .func (.func 34) #[] #[.pointer (some ⟨bm, 0, none⟩), .pointer (some ⟨bk, 0, none⟩)], .int .u64 (x.k : Int), .int .i64 x.v, undef, undef, undef, undef, undef, undef, undef, undef, undef, undef, undef, undef, undef, undef, undef, undef, undef, undef, undef, undef, undef, undef, undef, undef, undef, undef, undef, undef, undef, undef, undef, undef, undef, undef, undef, undef, undef, undef, undef], defers := [] }) ?assign0 ?body0 ?done0 ?stop0
        case assign0 =>
          intro l1 x W K hK
          gi_wp2
          exact hK
        case body0 =>
          rintro l1 pre x W ⟨hpre, hcl, hn, hB⟩ _
          have hpl := hpre.length_le
          have hnl := hn.lt
          have br2 := show Boxed W _ _ _ from Ext.block hB br
          have bs2 := show Boxed W _ _ _ from Ext.block hB bs
          have bw2 := show Boxed W _ _ _ from Ext.block hB bw
          have hrow2 := hrow.ext hB
          have n0 := hn.cell
          have n1 := hn.frozen
          have r0 := br2.cell
          have r1 := br2.frozen
          have s0 := bs2.cell
          have u0 := bw2.cell
          have hrl2 := br2.lt
          have hsl2 := bs2.lt
          have hwl2 := bw2.lt
          have hsl := bs.lt
          have HI := Lib.hid (And.intro hpre (And.intro hn hB))
          clear xn h1 h2 br bs bw hrow hat hn hB br2 bs2 bw2 hpre
          by_cases hlen : pre.length < L.length
          · have hiff := pre_step (x := x) HI.out.1 hlen
            obtain ⟨b, rfl, p0, p1⟩ := hrow2 pre.length hlen
            generalize L[pre.length] = y at *
            have HF := Lib.hid hiff
            have hd1 : decide (L.length ≤ pre.length) = false := by simp; omega
            clear hiff
            by_cases exy : x = y
            · subst exy
              have HE : Hid (pre ++ [x] <+: L) := HF.out.2 rfl
              by_cases hc : pre.length + 1 ≤ cnt
              · have hd2 : decide (cnt < pre.length + 1) = false := by simp; omega
                gi_wp2
                obtain ⟨hpre, hn, hB⟩ := HI.out
                exact ⟨KeepsOthers.setCell _ _ _, (Below.refl w3.heap.size W).setCell (p := ⟨w3.heap.size, 0, none⟩) (Nat.le_refl _) _, HE.out, by simpa using hc, by simpa using hn.set (.int .i64 ((pre.length : Int) + 1)), hB.setCell (p := ⟨w3.heap.size, 0, none⟩) (Nat.le_refl _) _⟩
              · have hd2 : decide (cnt < pre.length + 1) = true := by simp; omega
                have HCE : Hid (cnt = pre.length) := (by omega : cnt = pre.length)
                gi_wp2
                obtain ⟨hpre, hn, hB⟩ := HI.out
                exact ⟨KeepsOthers.setCell _ _ _, .inr ⟨rfl, by have := HCE.out; omega, by have h := HCE.out; rw [h]; exact hn.set _, hB.setCell (p := ⟨w3.heap.size, 0, none⟩) (Nat.le_refl _) _⟩⟩
            · have HE : Hid (¬ (pre ++ [x] <+: L)) := fun h => exy (HF.out.1 h)
              have hkv : x.k ≠ y.k ∨ (x.k = y.k ∧ x.v ≠ y.v) := by
                by_cases ek : x.k = y.k
                · exact .inr ⟨ek, fun ev => exy ((Pr.beq_iff x y).2 ⟨ek, ev⟩)⟩
                · exact .inl ek
              clear exy
              rcases hkv with ek | ⟨ek, ev⟩
              · have e1 : ((x.k : Int) == (y.k : Int)) = false := by simp; omega
                have e3 : ((x.k : Int) != (y.k : Int)) = true := by simp; omega
                have e4 : ¬ (x.k : Int) = (y.k : Int) := by omega
                clear ek
                gi_wp2
                exact ⟨KeepsOthers.setCell _ _ _, .inl ⟨rfl, HE.out⟩⟩
              · rw [← ek] at p0
                have e1 : (x.v == y.v) = false := by simp [ev]
                have e3 : (x.v != y.v) = true := by simp [ev]
                clear ek
                gi_wp2
                exact ⟨KeepsOthers.setCell _ _ _, .inl ⟨rfl, HE.out⟩⟩
          · have hd1 : decide (L.length ≤ pre.length) = true := by simp; omega
            have HE : Hid (¬ (pre ++ [x] <+: L)) := fun h => by have := h.length_le; simp at this; omega
            gi_wp2
            exact ⟨KeepsOthers.setCell _ _ _, .inl ⟨rfl, HE.out⟩⟩
        case done0 =>
          rintro D0 ys W0 hD0 rfl ⟨_, hcl, hn, hB⟩ hK0
          rw [HFE.out] at hcl hn
          have hmn : min (L.length : Int) ((cnt : Int) + 1) = (L.length : Int) := by omega
          simp only [World.size_alloc] at hD0
          have hDl0 : D0 < W0.heap.size := (Array.getElem?_eq_some_iff.1 hK0).1
          replace br := show Boxed W0 _ _ _ from Ext.block hB br
          replace bs := show Boxed W0 _ _ _ from Ext.block hB bs
          replace bw := show Boxed W0 _ _ _ from Ext.block hB bw
          replace h1 := Ext.block hB h1
          replace h2 := Ext.block hB h2
          replace hx := Ext.trans hx hB
          replace hat := hat.ext hB
          replace hrow := hrow.ext hB
          have n0 := hn.cell
          have s0 := bs.cell
          have u0 := bw.cell
          clear hn hB xn hcl
          go_wp2_with fail
          rw [rounds_succ]
          clear n0 s0 u0 hmn
          go_wp2_with fail
          have xn : Ext W0 (W0.alloc (.cells #[.int .i64 0] 3)) := (Ext.refl _).alloc _
          have hrn1 := br.lt
          have hwn1 := bw.lt
          refine (wpIn_wide (n := 5)).1 ?_
          refine wpIn_rangeFunc_ownF rfl (by omega) (gf := 34) (lb := #[.pointer (some ⟨bm, 0, none⟩), .pointer (some ⟨bk, 0, none⟩)]) rfl trivial (enters_of Try.func34 (by kernel_rfl) rfl)
            (from_stops 0 W0 t p hat hwf bm bk _ _ xn (xn.block h1) (xn.block h2)) belowK_t (belowK_b (by simp)) (Below.refl _ _) (fun _ => rfl)
            (Ie L cnt W0) (Ixe L cnt W0)
            (fun s A B row hs hg hr => ⟨hs.1, hs.2.1, boxed_keep hs.2.2.1 hg hr, ownFrom_below (β := Unit) (Nat.le_refl _) (by simp) () A B row hs.2.2.2 hg hr⟩)
            (fun c s A B row hs hg hr => hs.imp id (fun hs => ⟨hs.1, hs.2.1, boxed_keep hs.2.2.1 hg hr, ownFrom_below (β := Unit) (Nat.le_refl _) (by simp) () A B row hs.2.2.2 hg hr⟩))
            ⟨List.nil_prefix, Nat.zero_le _, Boxed.new W0 3 (.int .i64 0), xn⟩
            (fun x => { tmps := #[.slice A l.length c, .int .u8 ↑s, undef, .pointer (some ⟨w.heap.size, 0, none⟩), .pointer (some ⟨w.heap.size + 1, 0, none⟩), .pointer (some ⟨M, 0, none⟩), .pointer (some ⟨M + 1, 0, none⟩), undef, u8, .func (.func 34) #[] #[.pointer (some ⟨bm, 0, none⟩), .pointer (some ⟨bk, 0, none⟩)], .pointer (some ⟨W0.heap.size, 0, none⟩), .int .u64 (x.k : Int), .int .i64 x.v, .bool true, .bool false, .bool false, .slice A l.length c, .int .i64 ↑l.length, .bool (decide ((60 : Int) < (l.length : Int))), .bool (decide ((60 : Int) < (l.length : Int))), undef, .slice A l.length c, .int .i64 ↑l.length, .int .i64 ↑l.length, .bool false, u25, u26, u27, u28, u29, u30, u31, u32, u33, .agg #[.pointer p], .func (.func 34) #[] #[.pointer (some ⟨bm, 0, none⟩), .pointer (some ⟨bk, 0, none⟩)], .func (.func 34) #[] #[.pointer (some ⟨bm, 0, none⟩), .pointer (some ⟨bk, 0, none⟩)], .bool false, .int .i64 1, .bool true, .func (.func 34) #[] #[.pointer (some ⟨bm, 0, none⟩), .pointer (some ⟨bk, 0, none⟩)], .int .u64 (x.k : Int), .int .i64 x.v, undef, undef, undef, undef, undef, undef, undef, undef, undef, undef, undef, undef, undef, undef, undef, undef, undef, undef, undef, undef, undef, undef, undef, undef, undef, undef, undef, undef, undef, .int .i64 ↑L.length, .slice A2 L.length c2, .int .i64 ↑L.length, .int .u8 ↑s, .int .i64 ↑s, .int .i64 ↑cnt, .int .i64 (↑cnt + 1), .int .i64 ↑L.length, .bool false, .int .i64 1], defers := [] }) ?assign1 ?body1 ?done1 ?stop1
          case assign1 =>
            intro l1 x W K hK
            gi_wp2
            exact hK
          case body1 =>
            rintro l1 pre x W ⟨hpre, hcl, hn, hB⟩ _
            have hpl := hpre.length_le
            have hnl := hn.lt
            have br2 := show Boxed W _ _ _ from Ext.block hB br
            have bs2 := show Boxed W _ _ _ from Ext.block hB bs
            have bw2 := show Boxed W _ _ _ from Ext.block hB bw
            have hrow2 := hrow.ext hB
            have n0 := hn.cell
            have n1 := hn.frozen
            have r0 := br2.cell
            have r1 := br2.frozen
            have s0 := bs2.cell
            have u0 := bw2.cell
            have hrl2 := br2.lt
            have hsl2 := bs2.lt
            have hwl2 := bw2.lt
            have hsl := bs.lt
            have HI := Lib.hid (And.intro hpre (And.intro hn hB))
            clear xn h1 h2 br bs bw hrow hat hn hB br2 bs2 bw2 hpre
            by_cases hlen : pre.length < L.length
            · have hiff := pre_step (x := x) HI.out.1 hlen
              obtain ⟨b, rfl, p0, p1⟩ := hrow2 pre.length hlen
              generalize L[pre.length] = y at *
              have HF := Lib.hid hiff
              have hd1 : decide (L.length ≤ pre.length) = false := by simp; omega
              clear hiff
              by_cases exy : x = y
              · subst exy
                have HE : Hid (pre ++ [x] <+: L) := HF.out.2 rfl
                by_cases hc : pre.length + 1 ≤ cnt
                · have hd2 : decide (cnt < pre.length + 1) = false := by simp; omega
                  gi_wp2
                  obtain ⟨hpre, hn, hB⟩ := HI.out
                  exact ⟨KeepsOthers.setCell _ _ _, (Below.refl W0.heap.size W).setCell (p := ⟨W0.heap.size, 0, none⟩) (Nat.le_refl _) _, HE.out, by simpa using hc, by simpa using hn.set (.int .i64 ((pre.length : Int) + 1)), hB.setCell (p := ⟨W0.heap.size, 0, none⟩) (Nat.le_refl _) _⟩
                · have hd2 : decide (cnt < pre.length + 1) = true := by simp; omega
                  have HCE : Hid (cnt = pre.length) := (by omega : cnt = pre.length)
                  gi_wp2
                  obtain ⟨hpre, hn, hB⟩ := HI.out
                  exact ⟨KeepsOthers.setCell _ _ _, .inr ⟨rfl, by have := HCE.out; omega, by have h := HCE.out; rw [h]; exact hn.set _, hB.setCell (p := ⟨W0.heap.size, 0, none⟩) (Nat.le_refl _) _⟩⟩
              · have HE : Hid (¬ (pre ++ [x] <+: L)) := fun h => exy (HF.out.1 h)
                have hkv : x.k ≠ y.k ∨ (x.k = y.k ∧ x.v ≠ y.v) := by
                  by_cases ek : x.k = y.k
                  · exact .inr ⟨ek, fun ev => exy ((Pr.beq_iff x y).2 ⟨ek, ev⟩)⟩
                  · exact .inl ek
                clear exy
                rcases hkv with ek | ⟨ek, ev⟩
                · have e1 : ((x.k : Int) == (y.k : Int)) = false := by simp; omega
                  have e3 : ((x.k : Int) != (y.k : Int)) = true := by simp; omega
                  have e4 : ¬ (x.k : Int) = (y.k : Int) := by omega
                  clear ek
                  gi_wp2
                  exact ⟨KeepsOthers.setCell _ _ _, .inl ⟨rfl, HE.out⟩⟩
                · rw [← ek] at p0
                  have e1 : (x.v == y.v) = false := by simp [ev]
                  have e3 : (x.v != y.v) = true := by simp [ev]
                  clear ek
                  gi_wp2
                  exact ⟨KeepsOthers.setCell _ _ _, .inl ⟨rfl, HE.out⟩⟩
            · have hd1 : decide (L.length ≤ pre.length) = true := by simp; omega
              have HE : Hid (¬ (pre ++ [x] <+: L)) := fun h => by have := h.length_le; simp at this; omega
              gi_wp2
              exact ⟨KeepsOthers.setCell _ _ _, .inl ⟨rfl, HE.out⟩⟩
          case done1 =>
            rintro D1 ys W1 hD1 rfl ⟨_, hcl, hn, hB⟩ hK1
            rw [HFE.out] at hcl hn
            have hmn : min (L.length : Int) ((cnt : Int) + 1) = (L.length : Int) := by omega
            replace hK0 := (Below.block hB D0 (by have := (Array.getElem?_eq_some_iff.1 hK0).1; omega)).trans hK0
            simp only [World.size_alloc] at hD1
            have hDl1 : D1 < W1.heap.size := (Array.getElem?_eq_some_iff.1 hK1).1
            replace br := show Boxed W1 _ _ _ from Ext.block hB br
            replace bs := show Boxed W1 _ _ _ from Ext.block hB bs
            replace bw := show Boxed W1 _ _ _ from Ext.block hB bw
            replace h1 := Ext.block hB h1
            replace h2 := Ext.block hB h2
            replace hx := Ext.trans hx hB
            replace hat := hat.ext hB
            replace hrow := hrow.ext hB
            have n0 := hn.cell
            have s0 := bs.cell
            have u0 := bw.cell
            clear hn hB xn hcl
            go_wp2_with fail
            rw [rounds_succ]
            have q0 := br.cell
            have q1 := br.frozen
            clear n0 s0 u0 hmn
            go_wp2
            have hne01 : D0 ≠ D1 := by omega
            have hA1 := (KeepsOthers.setCell W1 ⟨w.heap.size + 1, 0, none⟩ (.bool true)).same D1 _ hK1 rfl
            have hA0 := (KeepsOthers.setCell W1 ⟨w.heap.size + 1, 0, none⟩ (.bool true)).same D0 _ hK0 rfl
            have hA0' := (World.putObj_heap_other (o := .deferred none) hne01).trans hA0
            refine ⟨by simp, .inl ⟨_, _, rfl, run_takeDeferred hA1, by simp, .inl ⟨_, _, rfl, run_takeDeferred hA0', ?_⟩⟩⟩
            have u := (boxed_put (boxed_put (br.set (.bool true)) hA1) hA0').cell
            refine ⟨.bool true, by simp [results, Try.f9, go_sem, u], rfl, ?_⟩
            have h9 : Ext w (W1.setCell ⟨w.heap.size + 1, 0, none⟩ (.bool true)) := hx.setCell (p := ⟨w.heap.size + 1, 0, none⟩) (by simp) _
            refine Below.trans h9 (Below.trans (belowK_b (w := w) (n₀ := w.heap.size) (Nat.le_refl _) _ D1 _ _ (by omega) hA1 rfl rfl) (belowK_b (w := w) (n₀ := w.heap.size) (Nat.le_refl _) _ D0 _ _ (by omega) hA0' rfl rfl))
          case stop1 =>
            rintro D1 cc pre W1 hD1 hpre hix hK1
            rcases hix with ⟨rfl, hne⟩ | ⟨rfl, hcl, hn, hB⟩
            · rw [HFE.out] at hpre; exact absurd hpre hne
            have hmn : min (L.length : Int) ((cnt : Int) + 1) = (cnt : Int) + 1 := by omega
            refine (wpIn_wide (n := 5)).2 ?_
            replace hK0 := (Below.block hB D0 (by have := (Array.getElem?_eq_some_iff.1 hK0).1; omega)).trans hK0
            simp only [World.size_alloc] at hD1
            have hDl1 : D1 < W1.heap.size := (Array.getElem?_eq_some_iff.1 hK1).1
            replace br := show Boxed W1 _ _ _ from Ext.block hB br
            replace bs := show Boxed W1 _ _ _ from Ext.block hB bs
            replace bw := show Boxed W1 _ _ _ from Ext.block hB bw
            replace h1 := Ext.block hB h1
            replace h2 := Ext.block hB h2
            replace hx := Ext.trans hx hB
            replace hat := hat.ext hB
            replace hrow := hrow.ext hB
            have n0 := hn.cell
            have s0 := bs.cell
            have u0 := bw.cell
            clear hn hB xn hcl
            go_wp2_with fail
            rw [rounds_succ]
            have q0 := br.cell
            have q1 := br.frozen
            clear n0 s0 u0 hmn
            go_wp2
            have hne01 : D0 ≠ D1 := by omega
            have hA1 := (KeepsOthers.setCell W1 ⟨w.heap.size + 1, 0, none⟩ (.bool true)).same D1 _ hK1 rfl
            have hA0 := (KeepsOthers.setCell W1 ⟨w.heap.size + 1, 0, none⟩ (.bool true)).same D0 _ hK0 rfl
            have hA0' := (World.putObj_heap_other (o := .deferred none) hne01).trans hA0
            refine ⟨by simp, .inl ⟨_, _, rfl, run_takeDeferred hA1, by simp, .inl ⟨_, _, rfl, run_takeDeferred hA0', ?_⟩⟩⟩
            have u := (boxed_put (boxed_put (br.set (.bool true)) hA1) hA0').cell
            refine ⟨.bool true, by simp [results, Try.f9, go_sem, u], rfl, ?_⟩
            have h9 : Ext w (W1.setCell ⟨w.heap.size + 1, 0, none⟩ (.bool true)) := hx.setCell (p := ⟨w.heap.size + 1, 0, none⟩) (by simp) _
            refine Below.trans h9 (Below.trans (belowK_b (w := w) (n₀ := w.heap.size) (Nat.le_refl _) _ D1 _ _ (by omega) hA1 rfl rfl) (belowK_b (w := w) (n₀ := w.heap.size) (Nat.le_refl _) _ D0 _ _ (by omega) hA0' rfl rfl))
        case stop0 =>
          rintro D0 cc pre W0 hD0 hpre hix hK0
          rcases hix with ⟨rfl, hne⟩ | ⟨rfl, hcl, hn, hB⟩
          · rw [HFE.out] at hpre; exact absurd hpre hne
          have hmn : min (L.length : Int) ((cnt : Int) + 1) = (cnt : Int) + 1 := by omega
          refine (wpIn_wide (n := 5)).2 ?_
          simp only [World.size_alloc] at hD0
          have hDl0 : D0 < W0.heap.size := (Array.getElem?_eq_some_iff.1 hK0).1
          replace br := show Boxed W0 _ _ _ from Ext.block hB br
          replace bs := show Boxed W0 _ _ _ from Ext.block hB bs
          replace bw := show Boxed W0 _ _ _ from Ext.block hB bw
          replace h1 := Ext.block hB h1
          replace h2 := Ext.block hB h2
          replace hx := Ext.trans hx hB
          replace hat := hat.ext hB
          replace hrow := hrow.ext hB
          have n0 := hn.cell
          have s0 := bs.cell
          have u0 := bw.cell
          clear hn hB xn hcl
          go_wp2_with fail
          rw [rounds_succ]
          clear n0 s0 u0 hmn
          go_wp2_with fail
          have xn : Ext W0 (W0.alloc (.cells #[.int .i64 0] 3)) := (Ext.refl _).alloc _
          have hrn1 := br.lt
          have hwn1 := bw.lt
          refine (wpIn_wide (n := 5)).1 ?_
          refine wpIn_rangeFunc_ownF rfl (by omega) (gf := 34) (lb := #[.pointer (some ⟨bm, 0, none⟩), .pointer (some ⟨bk, 0, none⟩)]) rfl trivial (enters_of Try.func34 (by kernel_rfl) rfl)
            (from_stops 0 W0 t p hat hwf bm bk _ _ xn (xn.block h1) (xn.block h2)) belowK_t (belowK_b (by simp)) (Below.refl _ _) (fun _ => rfl)
            (Ie L cnt W0) (Ixe L cnt W0)
            (fun s A B row hs hg hr => ⟨hs.1, hs.2.1, boxed_keep hs.2.2.1 hg hr, ownFrom_below (β := Unit) (Nat.le_refl _) (by simp) () A B row hs.2.2.2 hg hr⟩)
            (fun c s A B row hs hg hr => hs.imp id (fun hs => ⟨hs.1, hs.2.1, boxed_keep hs.2.2.1 hg hr, ownFrom_below (β := Unit) (Nat.le_refl _) (by simp) () A B row hs.2.2.2 hg hr⟩))
            ⟨List.nil_prefix, Nat.zero_le _, Boxed.new W0 3 (.int .i64 0), xn⟩
            (fun x => { tmps := #[.slice A l.length c, .int .u8 ↑s, undef, .pointer (some ⟨w.heap.size, 0, none⟩), .pointer (some ⟨w.heap.size + 1, 0, none⟩), .pointer (some ⟨M, 0, none⟩), .pointer (some ⟨M + 1, 0, none⟩), undef, u8, .func (.func 34) #[] #[.pointer (some ⟨bm, 0, none⟩), .pointer (some ⟨bk, 0, none⟩)], .pointer (some ⟨W0.heap.size, 0, none⟩), .int .u64 (x.k : Int), .int .i64 x.v, .bool true, .bool false, .bool false, .slice A l.length c, .int .i64 ↑l.length, .bool (decide ((60 : Int) < (l.length : Int))), .bool (decide ((60 : Int) < (l.length : Int))), undef, .slice A l.length c, .int .i64 ↑l.length, .int .i64 ↑l.length, .bool false, u25, u26, u27, u28, u29, u30, u31, u32, u33, .agg #[.pointer p], .func (.func 34) #[] #[.pointer (some ⟨bm, 0, none⟩), .pointer (some ⟨bk, 0, none⟩)], .func (.func 34) #[] #[.pointer (some ⟨bm, 0, none⟩), .pointer (some ⟨bk, 0, none⟩)], .bool false, .int .i64 1, .bool true, .func (.func 34) #[] #[.pointer (some ⟨bm, 0, none⟩), .pointer (some ⟨bk, 0, none⟩)], .int .u64 (x.k : Int), .int .i64 x.v, undef, undef, undef, undef, undef, undef, undef, undef, undef, undef, undef, undef, undef, undef, undef, undef, undef, undef, undef, undef, undef, undef, undef, undef, undef, undef, undef, undef, undef, .int .i64 (↑cnt + 1), .slice A2 L.length c2, .int .i64 ↑L.length, .int .u8 ↑s, .int .i64 ↑s, .int .i64 ↑cnt, .int .i64 (↑cnt + 1), .int .i64 (↑cnt + 1), .bool false, .int .i64 1], defers := [] }) ?assign1 ?body1 ?done1 ?stop1
          case assign1 =>
            intro l1 x W K hK
            gi_wp2
            exact hK
          case body1 =>
            rintro l1 pre x W ⟨hpre, hcl, hn, hB⟩ _
            have hpl := hpre.length_le
            have hnl := hn.lt
            have br2 := show Boxed W _ _ _ from Ext.block hB br
            have bs2 := show Boxed W _ _ _ from Ext.block hB bs
            have bw2 := show Boxed W _ _ _ from Ext.block hB bw
            have hrow2 := hrow.ext hB
            have n0 := hn.cell
            have n1 := hn.frozen
            have r0 := br2.cell
            have r1 := br2.frozen
            have s0 := bs2.cell
            have u0 := bw2.cell
            have hrl2 := br2.lt
            have hsl2 := bs2.lt
            have hwl2 := bw2.lt
            have hsl := bs.lt
            have HI := Lib.hid (And.intro hpre (And.intro hn hB))
            clear xn h1 h2 br bs bw hrow hat hn hB br2 bs2 bw2 hpre
            by_cases hlen : pre.length < L.length
            · have hiff := pre_step (x := x) HI.out.1 hlen
              obtain ⟨b, rfl, p0, p1⟩ := hrow2 pre.length hlen
              generalize L[pre.length] = y at *
              have HF := Lib.hid hiff
              have hd1 : decide (L.length ≤ pre.length) = false := by simp; omega
              clear hiff
              by_cases exy : x = y
              · subst exy
                have HE : Hid (pre ++ [x] <+: L) := HF.out.2 rfl
                by_cases hc : pre.length + 1 ≤ cnt
                · have hd2 : decide (cnt < pre.length + 1) = false := by simp; omega
                  gi_wp2
                  obtain ⟨hpre, hn, hB⟩ := HI.out
                  exact ⟨KeepsOthers.setCell _ _ _, (Below.refl W0.heap.size W).setCell (p := ⟨W0.heap.size, 0, none⟩) (Nat.le_refl _) _, HE.out, by simpa using hc, by simpa using hn.set (.int .i64 ((pre.length : Int) + 1)), hB.setCell (p := ⟨W0.heap.size, 0, none⟩) (Nat.le_refl _) _⟩
                · have hd2 : decide (cnt < pre.length + 1) = true := by simp; omega
                  have HCE : Hid (cnt = pre.length) := (by omega : cnt = pre.length)
                  gi_wp2
                  obtain ⟨hpre, hn, hB⟩ := HI.out
                  exact ⟨KeepsOthers.setCell _ _ _, .inr ⟨rfl, by have := HCE.out; omega, by have h := HCE.out; rw [h]; exact hn.set _, hB.setCell (p := ⟨W0.heap.size, 0, none⟩) (Nat.le_refl _) _⟩⟩
              · have HE : Hid (¬ (pre ++ [x] <+: L)) := fun h => exy (HF.out.1 h)
                have hkv : x.k ≠ y.k ∨ (x.k = y.k ∧ x.v ≠ y.v) := by
                  by_cases ek : x.k = y.k
                  · exact .inr ⟨ek, fun ev => exy ((Pr.beq_iff x y).2 ⟨ek, ev⟩)⟩
                  · exact .inl ek
                clear exy
                rcases hkv with ek | ⟨ek, ev⟩
                · have e1 : ((x.k : Int) == (y.k : Int)) = false := by simp; omega
                  have e3 : ((x.k : Int) != (y.k : Int)) = true := by simp; omega
                  have e4 : ¬ (x.k : Int) = (y.k : Int) := by omega
                  clear ek
                  gi_wp2
                  exact ⟨KeepsOthers.setCell _ _ _, .inl ⟨rfl, HE.out⟩⟩
                · rw [← ek] at p0
                  have e1 : (x.v == y.v) = false := by simp [ev]
                  have e3 : (x.v != y.v) = true := by simp [ev]
                  clear ek
                  gi_wp2
                  exact ⟨KeepsOthers.setCell _ _ _, .inl ⟨rfl, HE.out⟩⟩
            · have hd1 : decide (L.length ≤ pre.length) = true := by simp; omega
              have HE : Hid (¬ (pre ++ [x] <+: L)) := fun h => by have := h.length_le; simp at this; omega
              gi_wp2
              exact ⟨KeepsOthers.setCell _ _ _, .inl ⟨rfl, HE.out⟩⟩
          case done1 =>
            rintro D1 ys W1 hD1 rfl ⟨_, hcl, hn, hB⟩ hK1
            rw [HFE.out] at hcl hn
            have hmn : min (L.length : Int) ((cnt : Int) + 1) = (L.length : Int) := by omega
            replace hK0 := (Below.block hB D0 (by have := (Array.getElem?_eq_some_iff.1 hK0).1; omega)).trans hK0
            simp only [World.size_alloc] at hD1
            have hDl1 : D1 < W1.heap.size := (Array.getElem?_eq_some_iff.1 hK1).1
            replace br := show Boxed W1 _ _ _ from Ext.block hB br
            replace bs := show Boxed W1 _ _ _ from Ext.block hB bs
            replace bw := show Boxed W1 _ _ _ from Ext.block hB bw
            replace h1 := Ext.block hB h1
            replace h2 := Ext.block hB h2
            replace hx := Ext.trans hx hB
            replace hat := hat.ext hB
            replace hrow := hrow.ext hB
            have n0 := hn.cell
            have s0 := bs.cell
            have u0 := bw.cell
            clear hn hB xn hcl
            go_wp2_with fail
            rw [rounds_succ]
            have q0 := br.cell
            have q1 := br.frozen
            clear n0 s0 u0 hmn
            go_wp2
            have hne01 : D0 ≠ D1 := by omega
            have hA1 := (KeepsOthers.setCell W1 ⟨w.heap.size + 1, 0, none⟩ (.bool true)).same D1 _ hK1 rfl
            have hA0 := (KeepsOthers.setCell W1 ⟨w.heap.size + 1, 0, none⟩ (.bool true)).same D0 _ hK0 rfl
            have hA0' := (World.putObj_heap_other (o := .deferred none) hne01).trans hA0
            refine ⟨by simp, .inl ⟨_, _, rfl, run_takeDeferred hA1, by simp, .inl ⟨_, _, rfl, run_takeDeferred hA0', ?_⟩⟩⟩
            have u := (boxed_put (boxed_put (br.set (.bool true)) hA1) hA0').cell
            refine ⟨.bool true, by simp [results, Try.f9, go_sem, u], rfl, ?_⟩
            have h9 : Ext w (W1.setCell ⟨w.heap.size + 1, 0, none⟩ (.bool true)) := hx.setCell (p := ⟨w.heap.size + 1, 0, none⟩) (by simp) _
            refine Below.trans h9 (Below.trans (belowK_b (w := w) (n₀ := w.heap.size) (Nat.le_refl _) _ D1 _ _ (by omega) hA1 rfl rfl) (belowK_b (w := w) (n₀ := w.heap.size) (Nat.le_refl _) _ D0 _ _ (by omega) hA0' rfl rfl))
          case stop1 =>
            rintro D1 cc pre W1 hD1 hpre hix hK1
            rcases hix with ⟨rfl, hne⟩ | ⟨rfl, hcl, hn, hB⟩
            · rw [HFE.out] at hpre; exact absurd hpre hne
            have hmn : min (L.length : Int) ((cnt : Int) + 1) = (cnt : Int) + 1 := by omega
            refine (wpIn_wide (n := 5)).2 ?_
            replace hK0 := (Below.block hB D0 (by have := (Array.getElem?_eq_some_iff.1 hK0).1; omega)).trans hK0
            simp only [World.size_alloc] at hD1
            have hDl1 : D1 < W1.heap.size := (Array.getElem?_eq_some_iff.1 hK1).1
            replace br := show Boxed W1 _ _ _ from Ext.block hB br
            replace bs := show Boxed W1 _ _ _ from Ext.block hB bs
            replace bw := show Boxed W1 _ _ _ from Ext.block hB bw
            replace h1 := Ext.block hB h1
            replace h2 := Ext.block hB h2
            replace hx := Ext.trans hx hB
            replace hat := hat.ext hB
            replace hrow := hrow.ext hB
            have n0 := hn.cell
            have s0 := bs.cell
            have u0 := bw.cell
            clear hn hB xn hcl
            go_wp2_with fail
            rw [rounds_succ]
            have q0 := br.cell
            have q1 := br.frozen
            clear n0 s0 u0 hmn
            go_wp2
            have hne01 : D0 ≠ D1 := by omega
            have hA1 := (KeepsOthers.setCell W1 ⟨w.heap.size + 1, 0, none⟩ (.bool true)).same D1 _ hK1 rfl
            have hA0 := (KeepsOthers.setCell W1 ⟨w.heap.size + 1, 0, none⟩ (.bool true)).same D0 _ hK0 rfl
            have hA0' := (World.putObj_heap_other (o := .deferred none) hne01).trans hA0
            refine ⟨by simp, .inl ⟨_, _, rfl, run_takeDeferred hA1, by simp, .inl ⟨_, _, rfl, run_takeDeferred hA0', ?_⟩⟩⟩
            have u := (boxed_put (boxed_put (br.set (.bool true)) hA1) hA0').cell
            refine ⟨.bool true, by simp [results, Try.f9, go_sem, u], rfl, ?_⟩
            have h9 : Ext w (W1.setCell ⟨w.heap.size + 1, 0, none⟩ (.bool true)) := hx.setCell (p := ⟨w.heap.size + 1, 0, none⟩) (by simp) _
            refine Below.trans h9 (Below.trans (belowK_b (w := w) (n₀ := w.heap.size) (Nat.le_refl _) _ D1 _ _ (by omega) hA1 rfl rfl) (belowK_b (w := w) (n₀ := w.heap.size) (Nat.le_refl _) _ D0 _ _ (by omega) hA0' rfl rfl))
end Go.Proofs.Ytcdjhoejnjbgkaa
