/- The contract of List.Touch. -/
import Derived.Test.YtmcddajniiaieaaDoorLs
namespace Go.Proofs.YtmcddajniiaieaaDoor
open Go.RowKit

/-- The bytes of the kept part, off memory. -/
def kSum (lb : Nat) (w : World) : Nat := match w.cell? ⟨lb, 7, none⟩ with
  | some (.int _ n) => n.toNat
  | _ => 0
theorem kSum_core {w : World} {lb : Nat} {most : Int} {m : Option Nat} {T K : List Nd} (h : Core w lb most m T K) : kSum lb w = (sumN K).toNat := by
  unfold kSum
  rw [blk_cell h.blk 7 rfl]
  rfl
/-- The blocks of a list. -/
def lsS (lb : Nat) (L : List Nd) : List Nat := lb :: L.map Nd.b
theorem lsS_perm {lb : Nat} {L L' : List Nd} (h : L.Perm L') : ∀ g ∈ lsS lb L, g ∈ lsS lb L' := fun g hg => by
  rcases List.mem_cons.1 hg with rfl | hg
  · exact List.mem_cons_self ..
  · exact List.mem_cons_of_mem _ ((h.map Nd.b).mem_iff.1 hg)
theorem LsAt.may {w : World} {B lb c : Nat} {s : Ls} (h : LsAt w B lb c s) (M : List Nat) : ∀ g ∈ lsS lb s.all, g < w.heap.size → B ≤ g ∧ May lsTs M w g := fun g hg _ => by
  rcases List.mem_cons.1 hg with rfl | hg
  · exact ⟨h.lb, .inl ⟨_, _, _, h.core.blk, by decide⟩⟩
  · obtain ⟨x, hx, rfl⟩ := List.mem_map.1 hg
    obtain ⟨kp, p, q, hp, _⟩ := h.node hx
    exact ⟨h.own x hx, .inl ⟨_, _, _, hp, by decide⟩⟩
/-- The list's parts have turned: the same things lie in them. -/
def TouchPost (w : World) (B lb c : Nat) (s : Ls) (e : Ending) (w' : World) : Prop := ∃ b s', e = .returned (.bool b) ∧ LsAt w' B lb c s' ∧ s'.m = s.m ∧ s'.most = s.most ∧ s'.all.Perm s.all ∧ Kp B lsTs [] w w'
theorem LsAt.moved {w w' : World} {B lb c : Nat} {s : Ls} (h : LsAt w B lb c s) {T K : List Nd} (hc : Core w' lb s.most s.m T K) (hp : (T ++ K).Perm s.all) (hch : Ch (lsS lb s.all) w w') : LsAt w' B lb c ⟨s.most, s.m, T, K⟩ ∧ Kp B lsTs [] w w' := by
  have hk : Kp B lsTs [] w w' := hch.toKp (h.may [])
  have hm : ∀ x, x ∈ s.all ↔ x ∈ T ++ K := fun x => hp.mem_iff.symm
  refine ⟨⟨hc, h.lb, fun x hx => h.own x ((hm x).2 hx), ((hp.map Nd.k).nodup_iff).2 h.kd, fun x hx => h.keys x ((hm x).2 hx), by rw [show (Ls.all ⟨s.most, s.m, T, K⟩).length = s.all.length from hp.length_eq]; exact h.len, h.most0, ?_⟩, hk⟩
  rcases h.map with ⟨h1, h2⟩ | ⟨m, h1, h2, h3⟩
  · refine .inl ⟨h1, ?_⟩
    show T ++ K = []
    rw [h2] at hp
    exact hp.eq_nil
  · exact .inr ⟨m, h1, h2, (h3.keep fun es cl ho => hk.maps ho (by simp)).perm hm⟩

/-- What the loop goes by. -/
def TRel (w : World) (lb : Nat) (s : Ls) (wr : World) : Prop := ∃ T K, Core wr lb s.most s.m T K ∧ (T ++ K).Perm s.all ∧ Ch (lsS lb s.all) w wr

theorem pull_any {w : World} {B lb c : Nat} {s : Ls} {x : Nd} {kp : Bool} (h : LsAt w B lb c s) (hT : kp = false → x ∈ s.T) (hK : kp = true → x ∈ s.K) :
    Calls Tryd.prog 42 #[.pointer (some ⟨lb, if kp then 5 else 2, none⟩), .pointer x.ptr] w fun e w' => e = .returned (.tuple #[]) ∧ ∃ T K, Core w' lb s.most s.m T K ∧ (x :: (T ++ K)).Perm s.all ∧ (∃ p q, x.At 108 w' kp p q) ∧ Ch (lsS lb (T ++ K)) w w' ∧ ∀ y ∈ T ++ K, y.b ≠ x.b := by
  cases kp
  · obtain ⟨A, D, hT⟩ := List.append_of_mem (hT rfl)
    have hc := h.core
    rw [hT] at hc
    refine (pullT_core hc).mono fun e w' ⟨he, h1, h2, h3, h4⟩ => ⟨he, A ++ D, s.K, h1, ?_, h2, h3.mono fun g hg => ?_, h4⟩
    · show (x :: (A ++ D ++ s.K)).Perm (s.T ++ s.K)
      rw [hT, List.append_assoc, List.append_assoc, List.cons_append]
      exact List.perm_middle.symm
    · rcases List.mem_cons.1 hg with rfl | hg
      · exact List.mem_cons_self ..
      · exact List.mem_cons_of_mem _ (by rw [List.map_append]; exact List.mem_append_left _ hg)
  · obtain ⟨A, D, hK⟩ := List.append_of_mem (hK rfl)
    have hc := h.core
    rw [hK] at hc
    refine (pullK_core hc).mono fun e w' ⟨he, h1, h2, h3, h4⟩ => ⟨he, s.T, A ++ D, h1, ?_, h2, h3.mono fun g hg => ?_, h4⟩
    · show (x :: (s.T ++ (A ++ D))).Perm (s.T ++ s.K)
      rw [hK, ← List.append_assoc, ← List.append_assoc]
      exact List.perm_middle.symm
    · rcases List.mem_cons.1 hg with rfl | hg
      · exact List.mem_cons_self ..
      · exact List.mem_cons_of_mem _ (by rw [List.map_append]; exact List.mem_append_right _ hg)
theorem At.set2 {w : World} {x : Nd} {kp : Bool} {p q : Option Addr} (h : x.At 108 w kp p q) (kp' : Bool) : x.At 108 (w.setCell ⟨x.b, 2, none⟩ (.bool kp')) kp' p q := (set_blk h (.bool kp')).trans rfl
theorem Core.setN {w : World} {lb : Nat} {most : Int} {m : Option Nat} {T K : List Nd} (h : Core w lb most m T K) {x : Nd} {kp : Bool} {p q : Option Addr} (hx : x.At 108 w kp p q) (hn : ∀ y ∈ T ++ K, y.b ≠ x.b) (j : Nat) (v : Value) : Core (w.setCell ⟨x.b, j, none⟩ v) lb most m T K :=
  h.far (S := [x.b]) ((Ch.refl _ _).set (by simp) _ _) (by simpa using ne_of_ty h.blk hx (by decide)) fun y hy => by simpa using hn y hy

set_option maxHeartbeats 2000000 in
set_option maxRecDepth 100000 in
theorem touch_calls (B lb c : Nat) (s : Ls) (k : Int) (w : World) (h : LsAt w B lb c s) (hk : I64 k) :
    Calls Tryd.prog 20 #[.pointer (some ⟨lb, 0, none⟩), .int .i64 k] w (TouchPost w B lb c s) := by
  have l1 : w.cell? ⟨lb, 1, none⟩ = some (.map s.m) := blk_cell h.core.blk 1 rfl
  have H := Lib.hid h
  rcases h.look hk with ⟨x, hx, hxk, hrun⟩ | ⟨hno, hrun⟩
  · obtain ⟨kp, p, q, hat, hT, hK⟩ := h.node hx
    have HOF := Lib.hid (lsof_calls lb x kp p q w hat)
    have HPL := Lib.hid (pull_any h hT hK)
    have HXS := Lib.hid (And.intro (h.core.small x hx) hx)
    obtain ⟨sm, hsm⟩ : ∃ m, s.m = m := ⟨_, rfl⟩
    rw [hsm] at l1 hrun HPL
    have HSM := Lib.hid hsm
    obtain ⟨mo, hmo⟩ : ∃ m, s.most = m := ⟨_, rfl⟩
    rw [hmo] at HPL
    have HMO := Lib.hid hmo
    have hm0 := h.most0
    rw [hmo] at hm0
    clear h hT hK hx hxk hsm hmo hat
    unfold Nd.ptr at hrun HOF HPL
    obtain ⟨ro, hro⟩ : ∃ o, (if kp = true then 5 else 2 : Nat) = o := ⟨_, rfl⟩
    rw [hro] at HOF HPL
    clear hro
    go_enter Tryd.func20, Tryd.ntmps20
    go_wp2_with fail
    refine HOF.out.mono ?_
    rintro e w1 ⟨rfl, rfl⟩
    go_wp2_with fail
    refine HPL.out.mono ?_
    rintro e w2 ⟨rfl, T, K, hc, hp, ⟨p2, q2, hat⟩, hch, hne⟩
    have fx := blk_frozen hat 2
    have x2 : w2.cell? ⟨x.b, 2, none⟩ = some (.bool kp) := blk_cell hat 2 rfl
    have hc2 := hc.setN hat hne 2 (.bool true)
    have hat2 := At.set2 hat true
    have hl : (T ++ K).length < 1000 := by have := hp.length_eq; have := H.out.core.len; unfold Ls.all at *; simp at *; omega
    have HCH := Lib.hid (show Ch (lsS lb s.all) w1 (w2.setCell ⟨x.b, 2, none⟩ (.bool true)) from (hch.mono fun g hg => lsS_perm hp g (by
      rcases List.mem_cons.1 hg with rfl | hg
      · exact List.mem_cons_self ..
      · exact List.mem_cons_of_mem _ (List.mem_cons_of_mem _ hg))).set (lsS_perm hp _ (by simp [lsS])) _ _)
    have HPU := Lib.hid (pushK_core hc2 hat2 hne HXS.out.1 hl)
    have HPM := Lib.hid hp
    unfold Nd.ptr at HPU
    clear hc hc2 hat2 hch hat hne hp hl
    go_wp2_with fail
    refine HPU.out.mono ?_
    rintro e w3 ⟨rfl, hc3, hch3⟩
    have hrel0 : TRel w1 lb s w3 := by
      refine ⟨T, K ++ [x], by rw [HSM.out, HMO.out]; exact hc3, ?_, HCH.out.trans (hch3.mono fun g hg => lsS_perm HPM.out g ?_)⟩
      · rw [← List.append_assoc]
        exact (List.perm_append_singleton _ _).trans HPM.out
      · simp only [List.mem_cons, List.mem_map] at hg
        rcases hg with rfl | rfl | ⟨z, hz, rfl⟩
        · simp [lsS]
        · simp [lsS]
        · simp only [lsS, List.mem_cons, List.mem_map]
          exact .inr ⟨z, .inr (List.mem_append_right _ hz), rfl⟩
    clear hc3 hch3 HCH HPU HPM HPL HOF fx x2 l1 hrun
    go_wp2
    go_loopw [7] (fun _ wr => TRel w1 lb s wr) (fun _ wr => kSum lb wr)
    case atStart => exact hrel0
    case round =>
      obtain ⟨T', K', hc', hp', hch'⟩ := hrel
      rw [HSM.out, HMO.out] at hc'
      have c7 : wr.cell? ⟨lb, 7, none⟩ = some (.int .i64 (sumN K')) := blk_cell hc'.blk 7 rfl
      have c0 : wr.cell? ⟨lb, 0, none⟩ = some (.int .i64 mo) := blk_cell hc'.blk 0 rfl
      have hks := kSum_core hc'
      by_cases hgt : mo < sumN K'
      · cases K' with
        | nil => exact absurd hgt (by simp [sumN]; omega)
        | cons y K2 =>
          have c6 : wr.cell? ⟨lb, 6, none⟩ = some (.pointer (some ⟨y.b, 0, none⟩)) := blk_cell hc'.blk 6 rfl
          obtain ⟨s7, hs7⟩ : ∃ n, sumN (y :: K2) = n := ⟨_, rfl⟩
          rw [hs7] at c7 hgt hks
          have hpk := fun W (hx : Ext wr W) => pullK_core (A := []) (B := K2) (x := y) (hc'.ext hx)
          unfold Nd.ptr at hpk
          have HPK := Lib.hid hpk
          have HY := Lib.hid (hc'.small y (by simp))
          have HPM := Lib.hid hp'
          have HCH := Lib.hid hch'
          have HKS := Lib.hid (show kSum lb wr = (y.n + sumN K2).toNat by rw [hks, ← hs7, sumN_cons])
          have HLN := Lib.hid hc'.len
          have HBK := Lib.hid (sumN_bound (L := K2) fun z hz => hc'.small z (by simp [hz]))
          clear hpk hp' hch' hks hs7 hc' hrel0
          go_wp2
          go_quiet (fail)
          go_wp2_with fail
          refine (HPK.out _ ((Ext.refl wr).drewN _)).mono ?_
          rintro e w4 ⟨rfl, hc4, ⟨p4, q4, hat4⟩, hch4, hne4⟩
          have fy := blk_frozen hat4 2
          have y2 : w4.cell? ⟨y.b, 2, none⟩ = some (.bool true) := blk_cell hat4 2 rfl
          have hc5 := hc4.setN hat4 hne4 2 (.bool false)
          have hat5 := At.set2 hat4 false
          have hpu := pushT_core hc5 hat5 hne4 HY.out (by have := HLN.out; simp at this ⊢; omega)
          unfold Nd.ptr at hpu
          have HPU2 := Lib.hid hpu
          have HC5 := Lib.hid (show Ch (lsS lb s.all) wr (w4.setCell ⟨y.b, 2, none⟩ (.bool false)) from ((Ch.of_ext ((Ext.refl wr).drewN _)).trans hch4).mono (fun g hg => lsS_perm HPM.out g (by
            simp only [List.nil_append, List.mem_cons, List.mem_map] at hg
            simp only [lsS, List.mem_cons, List.mem_map, List.mem_append]
            rcases hg with rfl | ⟨z, hz, rfl⟩
            · exact .inl rfl
            · exact .inr ⟨z, .inr (.inr hz), rfl⟩)) |>.set (lsS_perm HPM.out _ (by simp [lsS])) _ _)
          clear hpu hc5 hat5 hc4 hat4 hch4 hne4
          go_wp2_with fail
          refine HPU2.out.mono ?_
          rintro e w6 ⟨rfl, hc6, hch6⟩
          have hrel1 : TRel w1 lb s w6 := by
            refine ⟨T' ++ [y], K2, by rw [HSM.out, HMO.out]; exact hc6, ?_, (HCH.out.trans HC5.out).trans (hch6.mono fun g hg => lsS_perm HPM.out g ?_)⟩
            · rw [List.append_assoc]
              exact HPM.out
            · simp only [List.mem_cons, List.mem_map] at hg
              simp only [lsS, List.mem_cons, List.mem_map, List.mem_append]
              rcases hg with rfl | rfl | ⟨z, hz, rfl⟩
              · exact .inl rfl
              · exact .inr ⟨y, .inr (.inl rfl), rfl⟩
              · exact .inr ⟨z, .inl hz, rfl⟩
          have hlt : kSum lb w6 < kSum lb wr := by
            rw [kSum_core hc6, HKS.out]
            show (sumN K2).toNat < _
            have := HBK.out
            have := HY.out
            omega
          clear hc6 hch6 HPU2 HC5
          go_wp2
          go_roundw
          case rel => exact hrel1
          case measure => exact hlt
      · obtain ⟨s7, hs7⟩ : ∃ n, sumN K' = n := ⟨_, rfl⟩
        rw [hs7] at c7 hgt
        have hmv := H.out.moved (T := T') (K := K') (by rw [HSM.out, HMO.out]; exact hc') hp' hch'
        have HMV := Lib.hid hmv
        have HPM := Lib.hid hp'
        clear hmv hp' hch' hks hs7 hc' hrel0
        go_wp2
        go_quiet (fail)
        go_wp2
        go_ret
        exact ⟨true, _, rfl, HMV.out.1.ext ((Ext.refl _).drewN _), rfl, rfl, HPM.out, HMV.out.2.ext ((Ext.refl _).drewN _)⟩
  · obtain ⟨sm, hsm⟩ : ∃ m, s.m = m := ⟨_, rfl⟩
    rw [hsm] at l1 hrun
    clear h
    go_enter Tryd.func20, Tryd.ntmps20
    go_wp2
    go_ret
    exact ⟨false, s, rfl, H.out, rfl, rfl, List.Perm.refl _, Kp.refl _ _ _ _⟩
end Go.Proofs.YtmcddajniiaieaaDoor
