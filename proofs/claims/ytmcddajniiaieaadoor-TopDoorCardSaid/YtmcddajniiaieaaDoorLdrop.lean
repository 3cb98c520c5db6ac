/- The contracts of List.Drop, List.Add and lru.New. -/
import Derived.Test.YtmcddajniiaieaaDoorTouch
namespace Go.Proofs.YtmcddajniiaieaaDoor
open Go.RowKit

theorem Core.grown {w w' : World} {lb : Nat} {most : Int} {m : Option Nat} {T K : List Nd} (h : Core w lb most m T K) {b : Nat} {es : Array MapEntry} {cl : Nat} (hb : w.heap[b]? = some (.map es cl)) (hg : w.grownBy w' (some b)) : Core w' lb most m T K := by
  have hc : Ch [b] w w' := ⟨hg.os, hg.tape, hg.output, hg.size, fun g hlt hn => hg.block g hlt (fun e => hn (by cases e; simp))⟩
  refine h.far hc (fun hm => ?_) fun x hx hm => ?_
  · have e : lb = b := by simpa using hm
    have := h.blk
    rw [e, hb] at this
    cases this
  · have e : x.b = b := by simpa using hm
    rcases List.mem_append.1 hx with hx | hx
    · obtain ⟨p, q, hp⟩ := h.seT.mem hx
      have := (show w.heap[x.b]? = _ from hp)
      rw [e, hb] at this
      cases this
    · obtain ⟨p, q, hp⟩ := h.seK.mem hx
      have := (show w.heap[x.b]? = _ from hp)
      rw [e, hb] at this
      cases this
theorem delU (w : World) : True := trivial
def DropPost (w : World) (B lb c : Nat) (s : Ls) (k : Int) (e : Ending) (w' : World) : Prop := ∃ b s', e = .returned (.bool b) ∧ LsAt w' B lb c s' ∧ s'.m = s.m ∧ s'.most = s.most ∧ (∀ x, x ∈ s'.all ↔ x ∈ s.all ∧ x.k ≠ k) ∧ Kp B lsTs s.m.toList w w'

set_option maxHeartbeats 2000000 in
set_option maxRecDepth 100000 in
theorem ldrop_calls (B lb c : Nat) (s : Ls) (k : Int) (w : World) (h : LsAt w B lb c s) (hk : I64 k) :
    Calls Tryd.prog 45 #[.pointer (some ⟨lb, 0, none⟩), .int .i64 k] w (DropPost w B lb c s k) := by
  have l1 : w.cell? ⟨lb, 1, none⟩ = some (.map s.m) := blk_cell h.core.blk 1 rfl
  have H := Lib.hid h
  rcases h.look hk with ⟨x, hx, hxk, hrun⟩ | ⟨hno, hrun⟩
  · obtain ⟨kp, p, q, hat, hT, hK⟩ := h.node hx
    have HOF := Lib.hid (lsof_calls lb x kp p q w hat)
    have HPL := Lib.hid (pull_any h hT hK)
    rcases h.map with ⟨hm, ha⟩ | ⟨m, hm, hmB, f, hf1, hf2, hf3⟩
    · rw [ha] at hx; cases hx
    have HXK := Lib.hid (And.intro hxk hx)
    have HF := Lib.hid (And.intro hf2 hf3)
    have HM := Lib.hid hm
    have HMB := Lib.hid hmB
    have HF1 := Lib.hid hf1
    rw [hm] at l1 hrun HPL
    clear h hT hK hx hxk hm hat hf1 hf2 hf3 hmB
    unfold Nd.ptr at hrun HOF HPL
    obtain ⟨ro, hro⟩ : ∃ o, (if kp = true then 5 else 2 : Nat) = o := ⟨_, rfl⟩
    rw [hro] at HOF HPL
    clear hro
    go_enter Tryd.func45, Tryd.ntmps45
    go_wp2_with fail
    refine HOF.out.mono ?_
    rintro e w1 ⟨rfl, rfl⟩
    go_wp2_with fail
    refine HPL.out.mono ?_
    rintro e w2 ⟨rfl, T, K, hc, hp, ⟨p2, q2, hat⟩, hch, hne⟩
    have l1' : w2.cell? ⟨lb, 1, none⟩ = some (.map (some m)) := blk_cell hc.blk 1 rfl
    have hmap2 : MapV Tryd.prog 2 w2 m c f := HF1.out.same fun es cl ho => hch.far ho fun hm => by
      rcases List.mem_cons.1 hm with e | hm
      · have := H.out.core.blk
        rw [← e, ho] at this
        cases this
      · obtain ⟨z, hz, e⟩ := List.mem_map.1 hm
        obtain ⟨_, _, _, hz, _⟩ := H.out.node (x := z) (hp.mem_iff.1 (List.mem_cons_of_mem _ hz))
        have := (show w1.heap[z.b]? = _ from hz)
        rw [e, ho] at this
        cases this
    have HC := Lib.hid hc
    have HPM := Lib.hid hp
    have HCH := Lib.hid hch
    have HI := Lib.hid hk
    clear hc hp hch hne hat hk
    go_wp2_with (at_delete; refine wpList_strike rfl _ _ 92 2 rfl _ (Maps.int_keyed Tryd.underlying2) Tryd.underlying92 m c f rfl hmap2 _ _ rfl (key_mk HI.out) ?_; intro w3 hmap3 hg3)
    go_ret
    obtain ⟨es, cl, hb⟩ := hmap2.blk
    have hc3 := HC.out.grown hb hg3
    have hkp : Kp B lsTs [m] w1 w3 := ((HCH.out.mono fun g hg => lsS_perm HPM.out g (by
      simp only [lsS, List.mem_cons, List.mem_map] at hg ⊢
      rcases hg with rfl | ⟨z, hz, rfl⟩
      · exact .inl rfl
      · exact .inr ⟨z, .inr hz, rfl⟩)).toKp (H.out.may [m])).map hb (by simp) HMB.out hg3
    have hkd := ((HPM.out.map Nd.k).nodup_iff).2 H.out.kd
    rw [List.map_cons, List.nodup_cons] at hkd
    have hmem : ∀ z, z ∈ T ++ K ↔ z ∈ s.all ∧ z.k ≠ k := fun z => by
      rw [← HPM.out.mem_iff]
      constructor
      · intro hz
        refine ⟨List.mem_cons_of_mem _ hz, fun e => hkd.1 ?_⟩
        rw [HXK.out.1, ← e]
        exact List.mem_map_of_mem hz
      · rintro ⟨hz, hk⟩
        rcases List.mem_cons.1 hz with rfl | hz
        · exact absurd HXK.out.1 hk
        · exact hz
    refine ⟨true, ⟨s.most, s.m, T, K⟩, rfl, ⟨by show Core w3 lb s.most s.m T K; rw [HM.out]; exact hc3, H.out.lb, fun z hz => H.out.own z ((hmem z).1 hz).1, hkd.2, fun z hz => H.out.keys z ((hmem z).1 hz).1, ?_, H.out.most0, .inr ⟨m, HM.out, HMB.out, _, hmap3, fun z hz => ?_, fun kl v hv => ?_⟩⟩, rfl, rfl, hmem, by rw [HM.out]; exact hkp⟩
    · have h1 := HPM.out.length_eq
      have h2 := H.out.len
      simp only [List.length_cons] at h1
      show (T ++ K).length ≤ c
      omega
    · have hz' := (hmem z).1 hz
      rw [upd_other _ _ (fun e => hz'.2 (by unfold kI at e; cases e; rfl))]
      exact HF.out.1 z hz'.1
    · by_cases e : kl = kI k
      · rw [e, upd_same] at hv; cases hv
      · rw [upd_other _ _ e] at hv
        obtain ⟨z, hz, rfl⟩ := HF.out.2 kl v hv
        exact ⟨z, (hmem z).2 ⟨hz, fun e2 => e (by rw [e2])⟩, rfl⟩
  · obtain ⟨sm, hsm⟩ : ∃ m, s.m = m := ⟨_, rfl⟩
    rw [hsm] at l1 hrun
    clear h
    go_enter Tryd.func45, Tryd.ntmps45
    go_wp2
    go_ret
    exact ⟨false, s, rfl, H.out, rfl, rfl, fun x => ⟨fun hx => ⟨hx, hno x hx⟩, fun hx => hx.1⟩, Kp.refl _ _ _ _⟩
end Go.Proofs.YtmcddajniiaieaaDoor
