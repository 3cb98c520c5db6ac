/- RadixSame: the walk. -/
import Derived.Test.YtcdjhoejnjbgkaaTurnL
import Derived.Deep.RegionHeld3
namespace Go.Proofs.Ytcdjhoejnjbgkaa
open Go.RowKit

set_option maxHeartbeats 4000000 in
set_option maxRecDepth 100000 in
theorem lawSame_calls (A : Option Addr) (c : Nat) (l : List Ac) (s : Nat) (hs : s ≤ 255) (w : World) (ha : Acts w A l) :
    Calls Try.prog 8 #[.slice A l.length c, .int .u8 s] w fun e w' => e = .returned (.bool true) ∧ Ext w w' := by
  have hlow := ha.low
  go_enter Try.func8, Try.ntmps8
  go_wp2_with fail
  refine (St.awake_calls _).mono ?_
  rintro e w1 ⟨rfl, hx⟩
  replace ha := ha.ext hx
  by_cases hl : 60 < l.length
  · go_wp2_with fail
    refine (St.awake_calls _).mono ?_
    rintro e w2 ⟨rfl, hx2⟩
    go_wp2
    go_ret
    exact ⟨rfl, hx.trans hx2⟩
  · have hB : Both w1 w1.heap.size none (.slice none 0 0) ((w1.alloc (.cells #[.pointer none] 27)).alloc (.cells #[.pointer none] 27)) :=
      ⟨none, ((Ext.refl _).alloc _).block (heap_alloc_new w1 _), Nat.le_refl _, rfl, ⟨none, 0, rfl, fun k hk => by simp [Nd.oL] at hk⟩, ((Ext.refl _).alloc _).alloc _⟩
    have HN0 : ((w1.alloc (.cells #[.pointer none] 27)).alloc (.cells #[.pointer none] 27)).heap[w1.heap.size + 1]? = some (.cells #[.pointer none] 27 (0, 0)) := by
      have := heap_alloc_new (w1.alloc (.cells #[.pointer none] 27)) (.cells #[.pointer none] 27)
      simpa using this
    go_wp2
    generalize hM : w1.heap.size = M at *
    generalize (w1.alloc (.cells #[.pointer none] 27)).alloc (.cells #[.pointer none] 27) = wi at *
    have HMM := Lib.hid hM
    clear hM
    have hNM : M + 1 ≠ M := by omega
    go_loopw [7, 22] (fun v i wr => ∃ n : Nat, n ≤ l.length ∧ i = .int .i64 n ∧ Both w1 M (runO (l.take n)) v wr ∧ wr.heap[M + 1]? = some (.cells #[.pointer none] 27 (0, 0))) (fun _ i _ => l.length - (intOf i).toNat)
    case atStart => exact ⟨0, Nat.zero_le _, rfl, hB, HN0⟩
    case round =>
      clear hB HN0
      obtain ⟨n, hn, rfl, hB', HN⟩ := hrel
      by_cases hlt : n < l.length
      · obtain ⟨p, hM, hM0, hat, hrd, hx1⟩ := hB'
        obtain ⟨ab, ao, rfl, a0, a1, a2, hk⟩ := ha.ext hx1 n hlt
        have hwf := runO_wf (low_take hlow n)
        have hln := runO_len (low_take hlow n)
        have hlen : (l.take n).length ≤ n := List.length_take_le _ _
        have hst := runO_take hlt
        generalize l[n] = a at *
        generalize runO (l.take n) = t at *
        obtain ⟨A2, c2, rfl, hrow⟩ := hrd
        have m0 : wr.cell? ⟨M, 0, none⟩ = some (.pointer p) := by rw [cell_of_row _ _ 0 _ _ _ hM]; rfl
        have hMl := (Array.getElem?_eq_some_iff.1 hM).1
        have HS := Lib.hid hst
        clear hst
        go_upto_region 8 with (fail)
        have hxb : Ext wr (wr.alloc (.cells #[.int .i64 a.kind, .int .u64 (a.k : Int), .int .i64 a.v] 30)) := (Ext.refl _).alloc _
        have hab := heap_alloc_new wr (.cells #[.int .i64 a.kind, .int .u64 (a.k : Int), .int .i64 a.v] 30)
        generalize wr.heap.size = ah at *
        generalize wr.alloc (.cells #[.int .i64 a.kind, .int .u64 (a.k : Int), .int .i64 a.v] 30) = wb at *
        have hdr := hxb.trans (show Ext wb wb.drew from (Ext.refl _).drew)
        have HM := hdr.block hM
        have AT := hat.ext hdr
        have RD := hrow.ext hdr
        have HX := hx1.trans hdr
        have HN := hdr.block HN
        have b0 : wb.drew.cell? ⟨ah, 0, none⟩ = some (.int .i64 a.kind) := by rw [cell_of_row wb.drew ah 0 _ _ _ hab]; rfl
        have b1 : wb.drew.cell? ⟨ah, 1, none⟩ = some (.int .u64 (a.k : Int)) := by rw [cell_of_row wb.drew ah 1 _ _ _ hab]; rfl
        have b2 : wb.drew.cell? ⟨ah, 2, none⟩ = some (.int .i64 a.v) := by rw [cell_of_row wb.drew ah 2 _ _ _ hab]; rfl
        have m1 := (cell_ptr HM).1
        have m2 := (cell_ptr HM).2
        clear hM hat hrow hx1 hab hdr hxb a0 a1 a2 m0 ha
        go_region_with (first
          | (go_at_call 11
             refine (do_lit p t a _ ⟨AT, hwf, by omega⟩ hk).mono ?_
             rintro e wn ⟨q, rfl, HD, hx⟩
             replace RD := RD.ext hx
             replace HX := HX.trans hx
             replace HM := hx.block HM
             replace HN := hx.block HN
             replace b0 := hx.cell b0
             replace b1 := hx.cell b1
             replace b2 := hx.cell b2
             clear hx AT m1 m2)
          | (go_at_call 12
             refine (want_lit A2 c2 _ a _ RD (by omega)).mono ?_
             rintro e wn ⟨v, rfl, HW, hx⟩
             replace HD := HD.ext hx
             replace HX := HX.trans hx
             replace HM := hx.block HM
             replace HN := hx.block HN
             replace b0 := hx.cell b0
             replace b1 := hx.cell b1
             replace b2 := hx.cell b2
             have m1 := (cell_ptr HM).1
             have m2 := (cell_ptr HM).2
             clear hx RD))
        all_goals
          go_wp2_with fail
          go_roundw
          case rel => exact ⟨n + 1, by omega, by go_num, by rw [HS.out]; exact both_set HM hM0 HD (by rw [(doO_ok hk hwf).2]; exact HW) HX, (Below.heap_setCell _ ⟨M, 0, none⟩ _ (M + 1) hNM).trans HN⟩
          case measure => simp [intOf] <;> omega
      · obtain rfl : n = l.length := by omega
        obtain ⟨p, hM, hM0, hat, hrd, hx1⟩ := hB'
        rw [List.take_length] at hat hrd
        have hwf := runO_wf hlow
        have hln := runO_len hlow
        generalize runO l = t at *
        obtain ⟨A2, c2, rfl, hrow⟩ := hrd
        have hup := upO hwf
        have hH : Hold w1 M p t (.slice A2 (Nd.oL t).length c2) (Nd.oL t) wr := ⟨hM, hat, ⟨A2, c2, rfl, hrow⟩, hx1⟩
        generalize hL : Nd.oL t = L at *
        have HL := Lib.hid hL
        have HU := Lib.hid hup
        have hM1 : w1.heap.size ≤ M + 1 := by have := HMM.out; omega
        have hMN : M ≠ M + 1 := by omega
        have hV : Var (M + 1) (turned (fun x => IntKind.i64.wrap (x.v + 1)) L s 0) wr := ⟨none, HN, rfl⟩
        clear hup hL hM hat hrow hx1 HN
        go_wp2_with fail
        go_loopw [35] (fun i wr => ∃ j : Nat, j ≤ L.length ∧ i = .int .i64 j ∧ Var (M + 1) (turned (fun x => IntKind.i64.wrap (x.v + 1)) L s j) wr ∧ Hold w1 M p t (.slice A2 L.length c2) L wr) (fun i _ => L.length - (intOf i).toNat)
        case atStart => exact ⟨0, Nat.zero_le _, rfl, hV, hH⟩
        case round =>
          clear hV hH
          obtain ⟨j, hj, rfl, hV, hH⟩ := hrel
          by_cases hjl : j < L.length
          · have hjj : (j + s) % L.length < L.length := Nat.mod_lt _ (by omega)
            have hem : ((j : Int) + (s : Int)) % (L.length : Int) = (((j + s) % L.length : Nat) : Int) := by simp
            have hst := turned_succ (u := fun x => IntKind.i64.wrap (x.v + 1)) hjj
            obtain ⟨q, HN, HT⟩ := hV
            have hok := (turned_ok (u := fun x => IntKind.i64.wrap (x.v + 1)) HU.out.1 HU.out.2 s (by omega) j).1
            have hlj := turned_len (u := fun x => IntKind.i64.wrap (x.v + 1)) HU.out.1 HU.out.2 s j
            have hk := HU.out.2 _ (List.getElem_mem hjj)
            obtain ⟨A9, c9, e9, hrow⟩ := hH.2.2.1
            cases e9
            obtain ⟨b, rfl, p0, pp1⟩ := hrow _ hjj
            generalize turned (fun x => IntKind.i64.wrap (x.v + 1)) L s j = tn at *
            generalize L[(j + s) % L.length] = x at *
            generalize (j + s) % L.length = jj at *
            have HS := Lib.hid hst
            have hL0 : (L.length : Int) ≠ 0 := by omega
            have hL1 : (0 : Int) < (L.length : Int) := by omega
            have HEM := hem
            clear hst hrow
            go_upto_region 14 with (fail)
            have hxb : Ext wr (wr.alloc (.cells #[.int .u64 (x.k : Int), .int .i64 x.v] 37)) := (Ext.refl _).alloc _
            have hab := heap_alloc_new wr (.cells #[.int .u64 (x.k : Int), .int .i64 x.v] 37)
            have hNl := (Array.getElem?_eq_some_iff.1 HN).1
            generalize wr.heap.size = ph at *
            generalize wr.alloc (.cells #[.int .u64 (x.k : Int), .int .i64 x.v] 37) = wb at *
            have hdr := hxb.trans (show Ext wb wb.drew from (Ext.refl _).drew)
            replace HN := hdr.block HN
            replace hH := hH.ext hdr
            replace HT := HT.ext hdr
            have c0 : wb.drew.cell? ⟨ph, 0, none⟩ = some (.int .u64 (x.k : Int)) := by rw [cell_of_row wb.drew ph 0 _ _ _ hab]; rfl
            have c1 : wb.drew.cell? ⟨ph, 1, none⟩ = some (.int .i64 x.v) := by rw [cell_of_row wb.drew ph 1 _ _ _ hab]; rfl
            have n1 := (cell_ptr HN).1
            have n2 := (cell_ptr HN).2
            obtain ⟨o1, o2⟩ := putO_ok (v := IntKind.i64.wrap (x.v + 1)) hk hok
            obtain ⟨o3, o4⟩ := dropO_ok (k := x.k) (t := some (putO x.k (IntKind.i64.wrap (x.v + 1)) tn)) o1
            have o5 := wantL_length (Nd.oL tn) ⟨1, x.k, IntKind.i64.wrap (x.v + 1)⟩
            have o6 := dropL_length x.k (putL x.k (IntKind.i64.wrap (x.v + 1)) (Nd.oL tn))
            simp only [wantL, if_true] at o5
            rw [← o2] at o5 o6
            have o7 : Nd.oL (some (putO x.k (IntKind.i64.wrap (x.v + 1)) tn)) = (putO x.k (IntKind.i64.wrap (x.v + 1)) tn).toL := rfl
            rw [← o7] at o5 o6
            rw [← o4] at o6
            have HS2 : Hid (turned (fun x => IntKind.i64.wrap (x.v + 1)) L s (j + 1) = some (putO x.k x.v (dropO x.k (some (putO x.k (IntKind.i64.wrap (x.v + 1)) tn))))) := HS
            have k1 := hide (fun W (h : AtO W q tn) => mput_calls q tn x.k (IntKind.i64.wrap (x.v + 1)) W ⟨h, hok, by omega⟩ hk)
            generalize hu : IntKind.i64.wrap (x.v + 1) = u at *
            generalize hp1 : putO x.k u tn = p1 at *
            generalize hp2 : dropO x.k (some p1) = p2 at *
            have k2 := hide (fun W r (h : AtO W r (some p1)) => hp2 ▸ mdrop_calls r (some p1) x.k W ⟨h, o1, by omega⟩ hk)
            have k3 := hide (fun W r (h : AtO W r p2) => mput_calls r p2 x.k x.v W ⟨h, o3, by omega⟩ hk)
            have HU1 := Lib.hid hp1
            clear hp1 hp2 o2 o4 o5 o6 o7 hab hdr hxb p0 pp1
            refine wp_region_held_drew (S := fun w' => w'.cell? ⟨ph, 0, none⟩ = some (.int .u64 (x.k : Int)) ∧ w'.cell? ⟨ph, 1, none⟩ = some (.int .i64 x.v)) (by kernel_rfl) ⟨c0, c1⟩ (fun hHeld => ?_)
            try dsimp only at hHeld
            refine wpAnyH_take (i := 1) (v := ?_) rfl (by kernel_rfl) (by kernel_rfl) (by kernel_rfl) (fun _ _ _ h => h) (Or.inl ⟨by rfl, ?_⟩) (by assumption) ?_
            rotate_left
            · intro w hSw
              try dsimp only at hSw
              go_simp
              try with_reducible rfl
            try simp only [Act.put]
            try simp only [List.setIfInBounds_toArray]
            try simp only [List.set_cons_succ]
            try simp only [List.set_cons_zero]
            refine wpAnyH_take (i := 2) (v := ?_) rfl (by kernel_rfl) (by kernel_rfl) (by kernel_rfl) (fun _ _ _ h => h) (Or.inl ⟨by rfl, ?_⟩) (by assumption) ?_
            rotate_left
            · intro w hSw
              try dsimp only at hSw
              go_simp
              try with_reducible rfl
            try simp only [Act.put]
            try simp only [List.setIfInBounds_toArray]
            try simp only [List.set_cons_succ]
            try simp only [List.set_cons_zero]
            refine wpAnyH_take (i := 3) (v := ?_) rfl (by kernel_rfl) (by kernel_rfl) (by kernel_rfl) (fun _ _ _ h => h) (Or.inl ⟨by rfl, ?_⟩) (by assumption) ?_
            rotate_left
            · intro w hSw
              try dsimp only at hSw
              go_simp
              try with_reducible rfl
            try simp only [Act.put]
            try simp only [List.setIfInBounds_toArray]
            try simp only [List.set_cons_succ]
            try simp only [List.set_cons_zero]
            refine wpAnyH_take (i := 4) (v := ?_) rfl (by kernel_rfl) (by kernel_rfl) (by kernel_rfl) (fun _ _ _ h => h) (Or.inl ⟨by rfl, ?_⟩) (by assumption) ?_
            rotate_left
            · intro w hSw
              try dsimp only at hSw
              go_simp
              try with_reducible rfl
            try simp only [Act.put]
            try simp only [List.setIfInBounds_toArray]
            try simp only [List.set_cons_succ]
            try simp only [List.set_cons_zero]
            refine wpAnyH_take (i := 5) (v := ?_) rfl (by kernel_rfl) (by kernel_rfl) (by kernel_rfl) (fun _ _ _ h => h) (Or.inl ⟨by rfl, ?_⟩) (by assumption) ?_
            rotate_left
            · intro w hSw
              try dsimp only at hSw
              go_simp
              try with_reducible rfl
            try simp only [Act.put]
            try simp only [List.setIfInBounds_toArray]
            try simp only [List.set_cons_succ]
            try simp only [List.set_cons_zero]
            refine wpAnyH_take (i := 7) (v := ?_) rfl (by kernel_rfl) (by kernel_rfl) (by kernel_rfl) (fun _ _ _ h => h) (Or.inl ⟨by rfl, ?_⟩) (by assumption) ?_
            rotate_left
            · intro w hSw
              try dsimp only at hSw
              go_simp
              try with_reducible rfl
            try simp only [Act.put]
            try simp only [List.setIfInBounds_toArray]
            try simp only [List.set_cons_succ]
            try simp only [List.set_cons_zero]
            refine wpAnyH_take (i := 8) (v := ?_) rfl (by kernel_rfl) (by kernel_rfl) (by kernel_rfl) (fun _ _ _ h => h) (Or.inl ⟨by rfl, ?_⟩) (by assumption) ?_
            rotate_left
            · intro w hSw
              try dsimp only at hSw
              go_simp
              try with_reducible rfl
            try simp only [Act.put]
            try simp only [List.setIfInBounds_toArray]
            try simp only [List.set_cons_succ]
            try simp only [List.set_cons_zero]
            refine wpAnyH_take (i := 10) (v := ?_) rfl (by kernel_rfl) (by kernel_rfl) (by kernel_rfl) (fun _ _ _ h => h) (Or.inl ⟨by rfl, ?_⟩) (by assumption) ?_
            rotate_left
            · intro w hSw
              try dsimp only at hSw
              go_simp
              try with_reducible rfl
            try simp only [Act.put]
            try simp only [List.setIfInBounds_toArray]
            try simp only [List.set_cons_succ]
            try simp only [List.set_cons_zero]
            refine wpAnyH_take (i := 11) (v := ?_) rfl (by kernel_rfl) (by kernel_rfl) (by kernel_rfl) (fun _ _ _ h => h) (Or.inl ⟨by rfl, ?_⟩) (by assumption) ?_
            rotate_left
            · intro w hSw
              try dsimp only at hSw
              go_simp
              try with_reducible rfl
            try simp only [Act.put]
            try simp only [List.setIfInBounds_toArray]
            try simp only [List.set_cons_succ]
            try simp only [List.set_cons_zero]
            refine wpAnyH_take (i := 12) (v := ?_) rfl (by kernel_rfl) (by kernel_rfl) (by kernel_rfl) (fun _ _ _ h => h) (Or.inl ⟨by rfl, ?_⟩) (by assumption) ?_
            rotate_left
            · intro w hSw
              try dsimp only at hSw
              go_simp
              try with_reducible rfl
            try simp only [Act.put]
            try simp only [List.setIfInBounds_toArray]
            try simp only [List.set_cons_succ]
            try simp only [List.set_cons_zero]
            refine wpAnyH_take (i := 13) (v := ?_) rfl (by kernel_rfl) (by kernel_rfl) (by kernel_rfl) (fun _ _ _ h => h) (Or.inl ⟨by rfl, ?_⟩) (by assumption) ?_
            rotate_left
            · intro w hSw
              try dsimp only at hSw
              go_simp
              try with_reducible rfl
            try simp only [Act.put]
            try simp only [List.setIfInBounds_toArray]
            try simp only [List.set_cons_succ]
            try simp only [List.set_cons_zero]
            refine wpAnyH_ready (rs := [0]) (by kernel_rfl) (by simp) ?_
            refine AllReadyH.cons rfl (fun K hK => ?_) AllReadyH.nil
            go_simp
            refine hK.out _ _ ?_ (fun hHeld => ?_)
            · exact ⟨c0, c1⟩
            clear hK K
            try simp only [Act.put]
            try simp only [List.setIfInBounds_toArray]
            try simp only [List.set_cons_succ]
            try simp only [List.set_cons_zero]
            refine wpAnyH_ready (rs := [6]) (by kernel_rfl) (by simp) ?_
            refine AllReadyH.cons rfl (fun K hK => ?_) AllReadyH.nil
            go_simp
            refine (unhide k1 _ HT).mono ?_
            rintro e wn ⟨r1, rfl, HT, hx⟩
            clear n1 n2
            replace HN := hx.block HN
            replace hH := hH.ext hx
            replace c0 := hx.cell c0
            replace c1 := hx.cell c1
            have n1 := (cell_ptr HN).1
            have n2 := (cell_ptr HN).2
            clear hx
            go_wp2_with fail
            refine hK.out _ _ ?_ (fun hHeld => ?_)
            · exact ⟨c0, c1⟩
            clear hK K
            try simp only [Act.put]
            try simp only [List.setIfInBounds_toArray]
            try simp only [List.set_cons_succ]
            try simp only [List.set_cons_zero]
            refine wpAnyH_ready (rs := [9]) (by kernel_rfl) (by simp) ?_
            refine AllReadyH.cons rfl (fun K hK => ?_) AllReadyH.nil
            go_simp
            refine (unhide k2 _ _ HT).mono ?_
            clear HT
            rintro e wn ⟨r2, rfl, HT, hx⟩
            clear n1 n2
            replace HN := hx.block HN
            replace hH := hH.ext hx
            replace c0 := hx.cell c0
            replace c1 := hx.cell c1
            have n1 := (cell_ptr HN).1
            have n2 := (cell_ptr HN).2
            clear hx
            go_wp2_with fail
            refine hK.out _ _ ?_ (fun hHeld => ?_)
            · exact ⟨c0, c1⟩
            clear hK K
            try simp only [Act.put]
            try simp only [List.setIfInBounds_toArray]
            try simp only [List.set_cons_succ]
            try simp only [List.set_cons_zero]
            refine wpAnyH_ready (rs := [14]) (by kernel_rfl) (by simp) ?_
            refine AllReadyH.cons rfl (fun K hK => ?_) AllReadyH.nil
            go_simp
            refine (unhide k3 _ _ HT).mono ?_
            clear HT
            rintro e wn ⟨r3, rfl, HT, hx⟩
            clear n1 n2
            replace HN := hx.block HN
            replace hH := hH.ext hx
            replace c0 := hx.cell c0
            replace c1 := hx.cell c1
            have n1 := (cell_ptr HN).1
            have n2 := (cell_ptr HN).2
            clear hx
            go_wp2_with fail
            refine hK.out _ _ ?_ (fun hHeld => ?_)
            · exact ⟨c0, c1⟩
            clear hK K
            try simp only [Act.put]
            try simp only [List.setIfInBounds_toArray]
            try simp only [List.set_cons_succ]
            try simp only [List.set_cons_zero]
            have hVn := Var.set HN HT
            have hHn := hH.other (q := r3) HN hM1 hMN
            refine wpAnyH_ready (rs := [15]) (by kernel_rfl) (by simp) ?_
            refine AllReadyH.cons rfl (fun K hK => ?_) AllReadyH.nil
            go_simp
            refine hK.out _ _ ?_ (fun hHeld => ?_)
            · refine ⟨?_, ?_⟩ <;> (rw [World.cell?_setCell_other _ _ _ _ (by intro e; cases e <;> omega)]; assumption)
            clear hK K
            try simp only [Act.put]
            try simp only [List.setIfInBounds_toArray]
            try simp only [List.set_cons_succ]
            try simp only [List.set_cons_zero]
            refine wpAnyH_done (by kernel_rfl) ?_ _
            go_wp2_with fail
            go_roundw
            case rel => exact ⟨j + 1, by omega, by go_num, by rw [HS2.out]; exact hVn, hHn⟩
            case measure => simp [intOf] <;> omega
          · obtain rfl : j = L.length := by omega
            obtain ⟨q, HN, HT⟩ := hV
            obtain ⟨wF, eF⟩ := turned_all (u := fun x => IntKind.i64.wrap (x.v + 1)) HU.out.1 HU.out.2 s
            generalize turned (fun x => IntKind.i64.wrap (x.v + 1)) L s L.length = tF at *
            have fF : fromO 0 tF = L := by
              rw [from_okO wF, eF]; unfold fromL; rw [List.filter_eq_self]; intro a _; simp
            have ft : fromO 0 t = L := by
              rw [from_okO hwf, HL.out]; unfold fromL; rw [List.filter_eq_self]; intro a _; simp
            have hdp : depthO tF = depthO t := by rw [← depth_ok wF, ← depth_ok hwf, eF, HL.out]
            have P1 := hide (fun W (h : AtO W q tF) => pairs_calls q tF W h wF (by rw [fF]; omega))
            have P2 := hide (fun W (h : AtO W p t) => pairs_calls p t W h hwf (by rw [ft]; omega))
            have D1 := hide (fun W (h : AtO W q tF) => mdepth_calls q tF W h)
            have D2 := hide (fun W (h : AtO W p t) => mdepth_calls p t W h)
            have L1 := hide (fun W (h : AtO W q tF) => mlen_calls q tF W h)
            have L2 := hide (fun W (h : AtO W p t) => mlen_calls p t W h)
            rw [fF] at P1
            rw [ft] at P2
            rw [hdp] at D1
            rw [eF] at L1
            rw [HL.out] at L2
            clear fF ft hdp eF
            go_upto_region 16 with (fail)
            have hdr : Ext wr wr.drew := (Ext.refl _).drew
            replace HN := hdr.block HN
            replace HT := HT.ext hdr
            replace hH := hH.ext hdr
            have HP := hH.2.1
            have n0 := (cell_ptr HN).1
            have m0 := (cell_ptr hH.1).1
            have hxw := hH.2.2.2
            clear hH HN hdr
            go_region_held3 (fun w' => w'.cell? ⟨M, 0, none⟩ = some (.pointer p) ∧ w'.cell? ⟨M + 1, 0, none⟩ = some (.pointer q)) (exact ⟨m0, n0⟩)
              (first
                | (go_at_call 14
                   refine (unhide P1 _ HT).mono ?_
                   rintro e wn ⟨v1, rfl, hown1, hx2⟩
                   obtain ⟨A1, d1, rfl, _⟩ := own_shape hown1
                   have r1 := rowP_own hown1
                   replace HT := HT.ext hx2
                   replace HP := HP.ext hx2
                   replace n0 := hx2.cell n0
                   replace m0 := hx2.cell m0
                   replace hxw := hxw.trans hx2
                   clear P1 hown1 hx2)
                | (go_at_call 14
                   refine (unhide P2 _ HP).mono ?_
                   rintro e wn ⟨v2, rfl, hown2, hx2⟩
                   obtain ⟨A2', d2, rfl, _⟩ := own_shape hown2
                   have r2 := rowP_own hown2
                   replace r1 := r1.ext hx2
                   replace HT := HT.ext hx2
                   replace HP := HP.ext hx2
                   replace n0 := hx2.cell n0
                   replace m0 := hx2.cell m0
                   replace hxw := hxw.trans hx2
                   clear P2 hown2 hx2)
                | (go_at_call 13
                   refine (same_calls A1 A2' d1 d2 _ _ _ r1 r2 (by omega)).mono ?_
                   rintro e wn ⟨rfl, hx2⟩
                   replace HT := HT.ext hx2
                   replace HP := HP.ext hx2
                   replace n0 := hx2.cell n0
                   replace m0 := hx2.cell m0
                   replace hxw := hxw.trans hx2
                   have hde : decide (L = L) = true := by simp
                   rw [hde]
                   clear r1 r2 hx2 hde)
                | (go_at_call 20
                   refine (unhide D1 _ HT).mono ?_
                   rintro e wn ⟨rfl, hx2⟩
                   replace HT := HT.ext hx2
                   replace HP := HP.ext hx2
                   replace n0 := hx2.cell n0
                   replace m0 := hx2.cell m0
                   replace hxw := hxw.trans hx2
                   clear D1 hx2)
                | (go_at_call 20
                   refine (unhide D2 _ HP).mono ?_
                   rintro e wn ⟨rfl, hx2⟩
                   replace HT := HT.ext hx2
                   replace HP := HP.ext hx2
                   replace n0 := hx2.cell n0
                   replace m0 := hx2.cell m0
                   replace hxw := hxw.trans hx2
                   clear D2 hx2)
                | (go_at_call 15
                   refine (unhide L1 _ HT).mono ?_
                   rintro e wn ⟨rfl, hx2⟩
                   replace HT := HT.ext hx2
                   replace HP := HP.ext hx2
                   replace n0 := hx2.cell n0
                   replace m0 := hx2.cell m0
                   replace hxw := hxw.trans hx2
                   clear L1 hx2)
                | (go_at_call 15
                   refine (unhide L2 _ HP).mono ?_
                   rintro e wn ⟨rfl, hx2⟩
                   replace HT := HT.ext hx2
                   replace HP := HP.ext hx2
                   replace n0 := hx2.cell n0
                   replace m0 := hx2.cell m0
                   replace hxw := hxw.trans hx2
                   clear L2 hx2))
            all_goals
              go_wp2
              go_ret
              exact ⟨by simp, hx.trans hxw⟩
end Go.Proofs.Ytcdjhoejnjbgkaa
