/- The contracts of List.Add and lru.New. -/
import Derived.Test.YtmcddajniiaieaaDoorLdrop
namespace Go.Proofs.YtmcddajniiaieaaDoor
open Go.RowKit

def AddPost (w : World) (B lb c : Nat) (s : Ls) (k n : Int) (e : Ending) (w' : World) : Prop := ∃ s' x, e = .returned (.int .i64 0) ∧ LsAt w' B lb (c + 1) s' ∧ (s'.m = s.m ∨ (s.m = none ∧ ∃ m, s'.m = some m ∧ w.heap.size ≤ m)) ∧ s'.most = s.most ∧ x.k = k ∧ (∀ y, y ∈ s'.all ↔ y ∈ s.all ∨ y = x) ∧ Kp B lsTs s.m.toList w w'
theorem lnew_calls (n : Int) (B : Nat) (w : World) (h0 : 0 ≤ n) (h1 : n ≤ 1152921504606846976) (hB : B ≤ w.heap.size) : Calls Tryd.prog 16 #[.int .i64 n] w fun e w' => ∃ lb, e = .returned (.tuple #[.pointer (some ⟨lb, 0, none⟩), .int .i64 0]) ∧ LsAt w' B lb 0 ⟨n, none, [], []⟩ ∧ Ext w w' := by
  go_enter Tryd.func16, Tryd.ntmps16
  go_wp2
  refine bodyPost_ret (v := .tuple #[.pointer (some ⟨w.heap.size, 0, none⟩), .int .i64 0]) (by simp [results, Tryd.results16, go_sem]) rfl ?_
  refine ⟨w.heap.size, rfl, ⟨⟨heap_alloc_new w _, trivial, trivial, by simp, by simp, by simp⟩, hB, by simp [Ls.all], by simp [Ls.all], by simp [Ls.all], by simp [Ls.all], h0, .inl ⟨rfl, rfl⟩⟩, (Ext.refl w).alloc _⟩

theorem mapNil (w : World) : (binOp .eql 92 (.map none) (.map none)).run Tryd.prog w = .ok (.bool true) w := by kernel_rfl
theorem mapSome (m : Nat) (w : World) : (binOp .eql 92 (.map (some m)) (.map none)).run Tryd.prog w = .ok (.bool false) w := by kernel_rfl
/-- The end of Add, once the map is there. -/
theorem add_end {w w0 : World} {B lb c m n : Nat} {s : Ls} {k b : Int} {x : Nd} {f : Lit → Option Value} {e : Ending} {w' : World} (h : LsAt w0 B lb c s) (hk : I64 k) (hno : ∀ y ∈ s.all, y.k ≠ k) (hx : x.k = k) (hxB : B ≤ x.b)
    (hm : MapV Tryd.prog 2 w' m n f) (hn : n ≤ c + 1) (hmB : B ≤ m) (hf : ∀ y, y ∈ s.all ∨ y = x → f (kI y.k) = some (.pointer y.ptr)) (hf2 : ∀ kl v, f kl = some v → ∃ y, (y ∈ s.all ∨ y = x) ∧ kl = kI y.k)
    (hc : Core w' lb s.most (some m) (s.T ++ [x]) s.K) : LsAt w' B lb (c + 1) ⟨s.most, some m, s.T ++ [x], s.K⟩ ∧ ∀ y, y ∈ (Ls.mk s.most (some m) (s.T ++ [x]) s.K).all ↔ y ∈ s.all ∨ y = x := by
  have hmem : ∀ y, y ∈ (Ls.mk s.most (some m) (s.T ++ [x]) s.K).all ↔ y ∈ s.all ∨ y = x := fun y => by
    show y ∈ (s.T ++ [x]) ++ s.K ↔ y ∈ s.T ++ s.K ∨ y = x
    simp only [List.mem_append, List.mem_singleton]
    constructor
    · rintro ((h | h) | h)
      · exact .inl (.inl h)
      · exact .inr h
      · exact .inl (.inr h)
    · rintro ((h | h) | h)
      · exact .inl (.inl h)
      · exact .inr h
      · exact .inl (.inr h)
  have hp : ((s.T ++ [x]) ++ s.K).Perm (x :: s.all) := by
    rw [List.append_assoc]
    exact List.perm_middle
  refine ⟨⟨hc, h.lb, fun y hy => ?_, ((hp.map Nd.k).nodup_iff).2 ?_, fun y hy => ?_, ?_, h.most0, .inr ⟨m, rfl, hmB, f, hm.mono hn, fun y hy => hf y ((hmem y).1 hy), fun kl v hv => ?_⟩⟩, hmem⟩
  · rcases (hmem y).1 hy with hy | rfl
    · exact h.own y hy
    · exact hxB
  · rw [List.map_cons, List.nodup_cons]
    refine ⟨fun hmm => ?_, h.kd⟩
    obtain ⟨y, hy, e⟩ := List.mem_map.1 hmm
    exact hno y hy (e.trans hx)
  · rcases (hmem y).1 hy with hy | rfl
    · exact h.keys y hy
    · rw [hx]; exact hk
  · have := hp.length_eq
    have := h.len
    show ((s.T ++ [x]) ++ s.K).length ≤ c + 1
    simp only [List.length_cons] at *
    omega
  · obtain ⟨y, hy, e⟩ := hf2 kl v hv
    exact ⟨y, (hmem y).2 hy, e⟩

theorem Core.setMap {w : World} {lb : Nat} {most : Int} {m : Option Nat} {T K : List Nd} (h : Core w lb most m T K) (m' : Option Nat) : Core (w.setCell ⟨lb, 1, none⟩ (.map m')) lb most m' T K :=
  have hc : Ch [lb] w (w.setCell ⟨lb, 1, none⟩ (.map m')) := (Ch.refl _ _).set (by simp) _ _
  ⟨(set_blk h.blk _).trans rfl, h.seT.far hc (fun x hx => by simpa using h.neT x hx), h.seK.far hc (fun x hx => by simpa using h.neK x hx), h.nd, h.small, h.len⟩

set_option maxHeartbeats 2000000 in
set_option maxRecDepth 100000 in
theorem ladd_calls (B lb c : Nat) (s : Ls) (k n : Int) (w : World) (h : LsAt w B lb c s) (hk : I64 k) (hn : 1 ≤ n ∧ n ≤ 1099511627776) (hno : ∀ x ∈ s.all, x.k ≠ k) (hc : c < 900) (hB : B ≤ w.heap.size) :
    Calls Tryd.prog 26 #[.pointer (some ⟨lb, 0, none⟩), .int .i64 k, .int .i64 n] w (AddPost w B lb c s k n) := by
  have l1 : w.cell? ⟨lb, 1, none⟩ = some (.map s.m) := blk_cell h.core.blk 1 rfl
  have f1 : w.frozen? ⟨lb, 1, none⟩ = false := blk_frozen h.core.blk 1
  have H := Lib.hid h
  have hmm := @run_makeMap Tryd.prog
  have hm0 := mapNil
  have hm1 := mapSome
  have HN := Lib.hid (And.intro hno hB)
  have HI := Lib.hid hk
  have hlt : lb < w.heap.size := (Array.getElem?_eq_some_iff.1 h.core.blk).1
  obtain ⟨hn0, hn1⟩ := hn
  rcases h.look hk with ⟨x, hx, hxk, hrun⟩ | ⟨_, hrun⟩
  · exact absurd hxk (hno x hx)
  rcases h.map with ⟨hm, ha⟩ | ⟨m, hm, hmB, f, hf1, hf2, hf3⟩
  · rw [hm] at l1 hrun
    have HM := Lib.hid hm
    have HA := Lib.hid ha
    clear h hno hm ha hk hB
    go_enter Tryd.func26, Tryd.ntmps26
    go_upto_region 9 with (fail)
    have c0 : Core (w.setCell ⟨lb, 1, none⟩ (.map (some w.heap.size))) lb s.most (some w.heap.size) s.T s.K := H.out.core.setMap _
    have m0 : MapV Tryd.prog 2 ((w.setCell ⟨lb, 1, none⟩ (.map (some w.heap.size))).alloc (.map #[] 0)) w.heap.size 0 (fun _ => none) := by simpa [World.setCell] using MapV.made Tryd.prog 2 (w.setCell ⟨lb, 1, none⟩ (.map (some w.heap.size)))
    have hx1 : Ext (w.setCell ⟨lb, 1, none⟩ (.map (some w.heap.size))) ((w.setCell ⟨lb, 1, none⟩ (.map (some w.heap.size))).alloc (.map #[] 0)) := (Ext.refl _).alloc _
    have hx2 : Ext ((w.setCell ⟨lb, 1, none⟩ (.map (some w.heap.size))).alloc (.map #[] 0)) (((w.setCell ⟨lb, 1, none⟩ (.map (some w.heap.size))).alloc (.map #[] 0)).alloc (.cells #[.int .i64 k, .int .i64 n, .bool false, .pointer none, .pointer none] 108)) := (Ext.refl _).alloc _
    have hat9 : (((w.setCell ⟨lb, 1, none⟩ (.map (some w.heap.size))).alloc (.map #[] 0)).alloc (.cells #[.int .i64 k, .int .i64 n, .bool false, .pointer none, .pointer none] 108)).heap[w.heap.size + 1]? = some (.cells #[.int .i64 k, .int .i64 n, .bool false, .pointer none, .pointer none] 108 (0, 0)) := by
      have := heap_alloc_new ((w.setCell ⟨lb, 1, none⟩ (.map (some w.heap.size))).alloc (.map #[] 0)) (.cells #[.int .i64 k, .int .i64 n, .bool false, .pointer none, .pointer none] 108)
      simpa [World.setCell] using this
    have hkp9 : Kp B lsTs s.m.toList w (((w.setCell ⟨lb, 1, none⟩ (.map (some w.heap.size))).alloc (.map #[] 0)).alloc (.cells #[.int .i64 k, .int .i64 n, .bool false, .pointer none, .pointer none] 108)) := (((Kp.refl _ _ _ _).set H.out.core.blk (by decide) H.out.lb _ _).ext hx1).ext hx2
    have hc9 := (c0.ext hx1).ext hx2
    have hmap9 := (m0.ext hx2).mono (Nat.zero_le c)
    generalize (((w.setCell ⟨lb, 1, none⟩ (.map (some w.heap.size))).alloc (.map #[] 0)).alloc (.cells #[.int .i64 k, .int .i64 n, .bool false, .pointer none, .pointer none] 108)) = W9 at *
    obtain ⟨nb, hnb⟩ : ∃ nb, w.heap.size + 1 = nb := ⟨_, rfl⟩
    obtain ⟨m, hmw⟩ : ∃ m, w.heap.size = m := ⟨_, rfl⟩
    rw [hnb] at hat9
    rw [hnb]
    rw [hmw] at hmap9 hc9
    rw [hmw]
    have HMB : Hid (B ≤ m) := Lib.hid (by have := HN.out.2; omega)
    have HNB : Hid (B ≤ nb) := Lib.hid (by have := HN.out.2; omega)
    have hne9 : ∀ y ∈ s.T ++ s.K, y.b ≠ nb := fun y hy => by
      rw [show s.T ++ s.K = [] from HA.out] at hy; cases hy
    obtain ⟨f, hf⟩ : ∃ f : Lit → Option Value, (fun _ => none) = f := ⟨_, rfl⟩
    rw [hf] at hmap9
    have F1 : ∀ y ∈ s.all, f (kI y.k) = some (.pointer y.ptr) := fun y hy => by rw [HA.out] at hy; cases hy
    have F2 : ∀ kl v, f kl = some v → ∃ y ∈ s.all, kl = kI y.k := fun kl v hv => by rw [← hf] at hv; cases hv
    have HMW := Lib.hid hmw
    clear hf hnb hmw c0 m0 hx1 hx2
    have HC9 := Lib.hid hc9
    have HAT9 := Lib.hid hat9
    have HM9 := Lib.hid hmap9
    have HNE9 := Lib.hid hne9
    have HKP9 := Lib.hid hkp9
    have HFF := Lib.hid (And.intro F1 F2)
    have l1' : W9.cell? ⟨lb, 1, none⟩ = some (.map (some m)) := blk_cell hc9.blk 1 rfl
    clear hc9 hat9 hne9 hkp9 F1 F2 hmm hm0 hm1 l1 f1
    go_wp2_with (at_mapUpdate; refine wpList_store rfl _ _ _ 92 rfl _ _ (Maps.int_keyed Tryd.underlying2) Tryd.underlying92 m c f rfl hmap9 (by simp [maxLen]; omega) _ _ _ rfl rfl (key_mk HI.out) ?_; intro w3 hmap3 hg3)
    obtain ⟨es, cl, hb⟩ := HM9.out.blk
    have hc3 := HC9.out.grown hb hg3
    have hat3 : (⟨nb, k, n⟩ : Nd).At 108 w3 false none none := (hg3.block nb (Array.getElem?_eq_some_iff.1 HAT9.out).1 (fun e => by
      have e : nb = m := by simpa using e
      have := (show W9.heap[nb]? = _ from HAT9.out)
      rw [e, hb] at this
      cases this)).trans HAT9.out
    have hpu := pushT_core hc3 hat3 HNE9.out ⟨hn0, hn1⟩ (by have := H.out.len; unfold Ls.all at this; omega)
    unfold Nd.ptr at hpu
    have HPU := Lib.hid hpu
    have HM3 := Lib.hid hmap3
    have HKP3 := Lib.hid ((HKP9.out.mono (Nat.le_refl _) (fun t h => h) (M' := m :: s.m.toList) (fun g h => List.mem_cons_of_mem _ h)).map hb (by simp) HMB.out hg3)
    have HC3 := Lib.hid hc3
    have HAT3 := Lib.hid hat3
    clear hc3 hat3 hpu hmap3 hg3 hb hmap9
    refine HPU.out.mono ?_
    rintro e w4 ⟨rfl, hc4, hch4⟩
    have HC4 := Lib.hid hc4
    have HCH4 := Lib.hid hch4
    clear hc4 hch4
    go_wp2
    go_ret
    have hmm : MapV Tryd.prog 2 w4 m (c + 1) (upd f (kI k) (some (.pointer (some ⟨nb, 0, none⟩)))) := HM3.out.same fun es cl ho => HCH4.out.far ho fun hm => by
      simp only [List.mem_cons, List.mem_map] at hm
      rcases hm with e | e | ⟨z, hz, e⟩
      · have := HC3.out.blk
        rw [← e, ho] at this
        cases this
      · have := (show w3.heap[nb]? = _ from HAT3.out)
        rw [← e, ho] at this
        cases this
      · obtain ⟨p, q, hz⟩ := HC3.out.seT.mem hz
        have := (show w3.heap[z.b]? = _ from hz)
        rw [e, ho] at this
        cases this
    obtain ⟨r1, r2⟩ := add_end (x := ⟨nb, k, n⟩) (k := k) (b := 0) (e := .returned (.int .i64 0)) (w := w) H.out HI.out HN.out.1 rfl HNB.out hmm (Nat.le_refl _) HMB.out (fun y hy => by
        rcases hy with hy | rfl
        · rw [upd_other _ _ (fun e => HN.out.1 y hy (by unfold kI at e; cases e; rfl))]
          exact HFF.out.1 y hy
        · exact upd_same _ _ _) (fun kl v hv => by
        by_cases e : kl = kI k
        · exact ⟨_, .inr rfl, e⟩
        · rw [upd_other _ _ e] at hv
          obtain ⟨y, hy, e⟩ := HFF.out.2 kl v hv
          exact ⟨y, .inl hy, e⟩) HC4.out
    have hk4 : Kp B lsTs (m :: s.m.toList) w w4 := HKP3.out.trans (HCH4.out.toKp fun g hg _ => by
      simp only [List.mem_cons, List.mem_map] at hg
      rcases hg with rfl | rfl | ⟨z, hz, rfl⟩
      · exact ⟨H.out.lb, .inl ⟨_, _, _, HC3.out.blk, by decide⟩⟩
      · exact ⟨HNB.out, .inl ⟨_, _, _, HAT3.out, by decide⟩⟩
      · obtain ⟨p, q, hp⟩ := HC3.out.seT.mem hz
        exact ⟨H.out.own z (List.mem_append_left _ hz), .inl ⟨_, _, _, hp, by decide⟩⟩)
    exact ⟨_, ⟨nb, k, n⟩, rfl, r1, .inr ⟨HM.out, m, rfl, by have := HMW.out; omega⟩, rfl, rfl, r2, by
      rw [HM.out] at hk4 ⊢
      exact ⟨hk4.os, hk4.tape, hk4.output, hk4.size, fun g hg hn => hk4.block g hg (hn.imp id fun hn hm => hn (by
        rcases hm with h1 | ⟨es, cl, h1, h2⟩
        · exact .inl h1
        · have e : g = m := by simpa using h2
          have := HMW.out
          omega))⟩⟩
  · rw [hm] at l1 hrun
    have HM := Lib.hid hm
    have HMB := Lib.hid hmB
    have F1 := hf2
    have F2 := hf3
    clear h hno hm hk hB hf2 hf3 hmB
    go_enter Tryd.func26, Tryd.ntmps26
    go_upto_region 9 with (fail)
    have hx2 : Ext w (w.alloc (.cells #[.int .i64 k, .int .i64 n, .bool false, .pointer none, .pointer none] 108)) := (Ext.refl _).alloc _
    have hat9 : (w.alloc (.cells #[.int .i64 k, .int .i64 n, .bool false, .pointer none, .pointer none] 108)).heap[w.heap.size]? = some (.cells #[.int .i64 k, .int .i64 n, .bool false, .pointer none, .pointer none] 108 (0, 0)) := heap_alloc_new _ _
    have hkp9 : Kp B lsTs s.m.toList w (w.alloc (.cells #[.int .i64 k, .int .i64 n, .bool false, .pointer none, .pointer none] 108)) := (Kp.refl _ _ _ _).ext hx2
    have hc9 := H.out.core.ext hx2
    rw [HM.out] at hc9
    have hmap9 := hf1.ext hx2
    have hne9 : ∀ y ∈ s.T ++ s.K, y.b ≠ w.heap.size := fun y hy e => by
      obtain ⟨_, _, _, hp, _⟩ := H.out.node (x := y) hy
      have := (Array.getElem?_eq_some_iff.1 hp).1
      omega
    generalize (w.alloc (.cells #[.int .i64 k, .int .i64 n, .bool false, .pointer none, .pointer none] 108)) = W9 at *
    obtain ⟨nb, hnb⟩ : ∃ nb, w.heap.size = nb := ⟨_, rfl⟩
    rw [hnb] at hat9 hne9
    rw [hnb]
    have HNB : Hid (B ≤ nb) := Lib.hid (by have := HN.out.2; omega)
    clear hnb hx2 hf1
    have HC9 := Lib.hid hc9
    have HAT9 := Lib.hid hat9
    have HM9 := Lib.hid hmap9
    have HNE9 := Lib.hid hne9
    have HKP9 := Lib.hid hkp9
    have HFF := Lib.hid (And.intro F1 F2)
    have l1' : W9.cell? ⟨lb, 1, none⟩ = some (.map (some m)) := blk_cell hc9.blk 1 rfl
    clear hc9 hat9 hne9 hkp9 F1 F2 hmm hm0 hm1 l1 f1
    go_wp2_with (at_mapUpdate; refine wpList_store rfl _ _ _ 92 rfl _ _ (Maps.int_keyed Tryd.underlying2) Tryd.underlying92 m c f rfl hmap9 (by simp [maxLen]; omega) _ _ _ rfl rfl (key_mk HI.out) ?_; intro w3 hmap3 hg3)
    obtain ⟨es, cl, hb⟩ := HM9.out.blk
    have hc3 := HC9.out.grown hb hg3
    have hat3 : (⟨nb, k, n⟩ : Nd).At 108 w3 false none none := (hg3.block nb (Array.getElem?_eq_some_iff.1 HAT9.out).1 (fun e => by
      have e : nb = m := by simpa using e
      have := (show W9.heap[nb]? = _ from HAT9.out)
      rw [e, hb] at this
      cases this)).trans HAT9.out
    have hpu := pushT_core hc3 hat3 HNE9.out ⟨hn0, hn1⟩ (by have := H.out.len; unfold Ls.all at this; omega)
    unfold Nd.ptr at hpu
    have HPU := Lib.hid hpu
    have HM3 := Lib.hid hmap3
    have HKP3 := Lib.hid ((HKP9.out.mono (Nat.le_refl _) (fun t h => h) (M' := m :: s.m.toList) (fun g h => List.mem_cons_of_mem _ h)).map hb (by simp) HMB.out hg3)
    have HC3 := Lib.hid hc3
    have HAT3 := Lib.hid hat3
    clear hc3 hat3 hpu hmap3 hg3 hb hmap9
    refine HPU.out.mono ?_
    rintro e w4 ⟨rfl, hc4, hch4⟩
    have HC4 := Lib.hid hc4
    have HCH4 := Lib.hid hch4
    clear hc4 hch4
    go_wp2
    go_ret
    have hmm : MapV Tryd.prog 2 w4 m (c + 1) (upd f (kI k) (some (.pointer (some ⟨nb, 0, none⟩)))) := HM3.out.same fun es cl ho => HCH4.out.far ho fun hm => by
      simp only [List.mem_cons, List.mem_map] at hm
      rcases hm with e | e | ⟨z, hz, e⟩
      · have := HC3.out.blk
        rw [← e, ho] at this
        cases this
      · have := (show w3.heap[nb]? = _ from HAT3.out)
        rw [← e, ho] at this
        cases this
      · obtain ⟨p, q, hz⟩ := HC3.out.seT.mem hz
        have := (show w3.heap[z.b]? = _ from hz)
        rw [e, ho] at this
        cases this
    obtain ⟨r1, r2⟩ := add_end (x := ⟨nb, k, n⟩) (k := k) (b := 0) (e := .returned (.int .i64 0)) (w := w) H.out HI.out HN.out.1 rfl HNB.out hmm (Nat.le_refl _) HMB.out (fun y hy => by
        rcases hy with hy | rfl
        · rw [upd_other _ _ (fun e => HN.out.1 y hy (by unfold kI at e; cases e; rfl))]
          exact HFF.out.1 y hy
        · exact upd_same _ _ _) (fun kl v hv => by
        by_cases e : kl = kI k
        · exact ⟨_, .inr rfl, e⟩
        · rw [upd_other _ _ e] at hv
          obtain ⟨y, hy, e⟩ := HFF.out.2 kl v hv
          exact ⟨y, .inl hy, e⟩) HC4.out
    have hk4 : Kp B lsTs (m :: s.m.toList) w w4 := HKP3.out.trans (HCH4.out.toKp fun g hg _ => by
      simp only [List.mem_cons, List.mem_map] at hg
      rcases hg with rfl | rfl | ⟨z, hz, rfl⟩
      · exact ⟨H.out.lb, .inl ⟨_, _, _, HC3.out.blk, by decide⟩⟩
      · exact ⟨HNB.out, .inl ⟨_, _, _, HAT3.out, by decide⟩⟩
      · obtain ⟨p, q, hp⟩ := HC3.out.seT.mem hz
        exact ⟨H.out.own z (List.mem_append_left _ hz), .inl ⟨_, _, _, hp, by decide⟩⟩)
    exact ⟨_, ⟨nb, k, n⟩, rfl, r1, .inl (by rw [HM.out]), rfl, rfl, r2, by
      rw [HM.out] at hk4 ⊢
      exact hk4.mono (Nat.le_refl _) (fun t h => h) (fun g h => by simpa using h)⟩
end Go.Proofs.YtmcddajniiaieaaDoor
