/- The walk of AssembleWhole. -/
import Derived.Test.YtcdokpkffbigdaaJoinp
import Derived.Test.YtcdokpkffbigdaaLawSeals
import Derived.Test.YtcdokpkffbigdaaOr
import Derived.Deep.Cut
import Derived.Deep.LoopGhost
namespace Go.Proofs.Ytcdokpkffbigdaa
open Go.RowKit

theorem own_chg {lo hi : Nat} {w w' : World} {base : Nat} {e : TypeId} {size : Nat} {v : Value} {n : Nat} {xs : List Value} (h : w.ownsRow base e size v n xs) (hc : Chg lo hi w w') (hb : hi ≤ base) : w'.ownsRow base e size v n xs := by
  refine ⟨h.1, ?_⟩
  rcases h.2 with h1 | ⟨g, cap, cur, hv, hg, hh, r⟩
  · exact .inl h1
  · exact .inr ⟨g, cap, cur, hv, hg, (hc.block g (Array.getElem?_eq_some_iff.1 hh).1 (.inr (Nat.le_trans hb hg))).trans hh, r⟩
theorem BodyAt.low {lo hi : Nat} {w w' : World} {pb : Nat} {L : List Pt} {n : Int} (h : BodyAt lo hi w pb L n) (hk : ∀ k, k < w.heap.size → k < hi → w'.heap[k]? = w.heap[k]?) : BodyAt lo hi w' pb L n := by
  obtain ⟨A, c, h1, h2, h3, h4, h5⟩ := h
  refine ⟨A, c, (hk pb (Array.getElem?_eq_some_iff.1 h1).1 h3).trans h1, h2, h3, h4, fun k hk' => ?_⟩
  obtain ⟨b, o, e, hb, hf, p0, p1, p2⟩ := h5 k hk'
  have hbw : b < w.heap.size := block_of_cell p0
  have hbb := hk b hbw hb.2.1
  exact ⟨b, o, e, hb, fun j => by rw [← hf j]; simp [World.frozen?, hbb], (World.cell?_of_block hbb).trans p0, (World.cell?_of_block hbb).trans p1, (World.cell?_of_block hbb).trans p2⟩
theorem next_size {L L' : List Pt} {q : Pt} {m most : Int} {S : List Sp} (h : ROk L) (hn : nextS L S most = some (q, L', m)) : q.s.length ≤ 500 ∧ (q.s = [] → q.t - q.f = m ∧ 0 ≤ q.f ∧ q.t ≤ 4611686018427387904) ∧ (q.s ≠ [] → (q.s.length : Int) = m) ∧ q.s.length + textS L' = textS L := by
  obtain ⟨_, hm, _, _⟩ := next_ok h hn
  rcases L with _ | ⟨p, l⟩
  · cases hn
  · simp only [nextS] at hn
    split at hn
    · cases hn
    · cases hn
      obtain ⟨h1, h2⟩ := h.each p (by simp)
      have hb := canS_bd (S := S) h2
      generalize hmm : min (canS p S) most = m at *
      have hb2 : m ≤ p.size := by omega
      unfold Pt.size at hb2
      by_cases hs : p.s = []
      · have hp := h2 hs
        rw [if_pos hs] at hb2
        unfold cutA cutB restS
        simp only [if_pos hs, Pt.isE]
        refine ⟨by simp, fun _ => by omega, fun h => absurd rfl h, ?_⟩
        by_cases he : p.f + m = p.t
        · simp [he, textS, hs]
        · simp [he, textS, hs]
      · rw [if_neg hs] at hb2
        have hl : p.s.length ≠ 0 := by simpa using hs
        unfold cutA cutB restS
        simp only [if_neg hs, Pt.isE]
        refine ⟨by simp; omega, fun h => ?_, fun _ => by simp; omega, ?_⟩
        · rcases List.take_eq_nil_iff.1 h with h | h
          · omega
          · exact absurd h hs
        · by_cases he : p.s.drop m.toNat = []
          · have : p.s.length ≤ m.toNat := by simpa using he
            simp [he, textS]; omega
          · have : ¬ p.s.length ≤ m.toNat := by simpa using he
            simp [he, textS]; omega
theorem next_noopen {L L' : List Pt} {q : Pt} {m most : Int} {S : List Sp} (h : ∀ p ∈ L, p.open_ = false) (hn : nextS L S most = some (q, L', m)) : ∀ p ∈ L', p.open_ = false := by
  rcases L with _ | ⟨p, l⟩
  · cases hn
  · simp only [nextS] at hn
    split at hn
    · cases hn
    · cases hn
      intro x hx
      unfold restS at hx
      split at hx
      · exact h x (by simp [hx])
      · rcases List.mem_cons.1 hx with rfl | hx
        · exact cutB_open (h p (by simp))
        · exact h x (by simp [hx])
theorem textS_bd {L : List Pt} (h : LOk L) : textS L ≤ 15000 := by
  have key : ∀ L : List Pt, (∀ p ∈ L, p.s.length ≤ 500) → textS L ≤ 500 * L.length := by
    intro L
    induction L with
    | nil => intro _; simp [textS]
    | cons p l ih =>
      intro h
      have h1 := h p (by simp)
      have h2 := ih (fun q hq => h q (by simp [hq]))
      unfold textS at h2 ⊢
      simp only [List.map_cons, List.sum_cons, List.length_cons]
      omega
  have := key L (fun p hp => (h.each p hp).1)
  have := h.len
  omega
theorem SAt.set_ {w : World} {A : Option Addr} {l : List Sp} (h : SAt w A l) {p : Addr} (hp : ∀ b o, A = some ⟨b, o, none⟩ → b ≠ p.block) (u : Value) : SAt (w.setCell p u) A l := fun k hk => by
  obtain ⟨b, o, e, p0, p1⟩ := h k hk
  have hne : ∀ j, p ≠ ⟨b, j, none⟩ := fun j e2 => hp b o e (by rw [e2])
  exact ⟨b, o, e, (World.cell?_setCell_other w _ _ u (hne _)).trans p0, (World.cell?_setCell_other w _ _ u (hne _)).trans p1⟩
theorem SAt.drew_ {w : World} {A : Option Addr} {l : List Sp} (h : SAt w A l) : SAt w.drew A l := h
/-- What was told and what is left, of a body and what there is. -/
def WhInv (lo hi : Nat) (wb : World) (pb m10 : Nat) (L : List Pt) (hv nt nm : Nat) (al fin : Prop) (v : Value) (wr : World) : Prop :=
  ∃ (R told : List Pt) (n : Int) (A A2 : Option Addr) (c c2 : Nat) (S : List Sp), BodyAt lo hi wr pb (R.map Pt.nz) n ∧ LOk R ∧ (0 ≤ n ∧ n + sumS R = sumS L) ∧ wr.heap[m10]? = some (.cells #[.slice A S.length c] 34 (0, 0)) ∧ SAt wr A S ∧ Norm S ∧ S.length ≤ hv ∧ OutA lo hi A ∧ (∀ b o, A = some ⟨b, o, none⟩ → b ≠ m10) ∧
    v = .slice A2 told.length c2 ∧ wr.ownsRow (m10 + 1) 40 3 v told.length (pts told) ∧ (nm ≤ told.length ∧ told.length ≤ nt) ∧ joinL (told ++ R) = joinL L ∧ (∀ p ∈ R, p.open_ = false) ∧ textS told + textS R = textS L ∧ (al → S = [⟨0, 4611686018427387904⟩]) ∧ (fin → R = [] ∨ 300 ≤ told.length) ∧ (0 < S.length → ∀ b o, A = some ⟨b, o, none⟩ → v.ownBlock ≠ some b) ∧ Chg lo hi wb wr
set_option maxHeartbeats 16000000 in
set_option maxRecDepth 100000 in
theorem lawWhole_calls (A : Option Addr) (c : Nat) (L : List Pt) (B : Option Addr) (d : Nat) (comes : List Sl) (D : Option Addr) (e1 : Nat) (most : List UInt8) (w : World) (hP : PartsIn w A c L) (hC : ComesAt w B comes ∧ comes.length ≤ d ∧ comes.length ≤ 9223372036854775807) (hM : U8At w D most ∧ most.length ≤ e1 ∧ most.length ≤ 9223372036854775807) :
    Calls Try.prog 3 #[.slice A L.length c, .slice B comes.length d, .slice D most.length e1] w fun e w' => e = .returned (.bool true) ∧ Ext w w' := by
  obtain ⟨hC1, hC2, hC3⟩ := hC
  obtain ⟨hM1, hM2, hM3⟩ := hM
  have HCM := Lib.hid hC1
  have HMO := Lib.hid hM1
  clear hC1 hC2 hM1 hM2
  obtain ⟨hP1, hPc, hP3, hP4⟩ := hP
  have HP := Lib.hid (fun W (hx : Ext w W) => hP1.ext hx)
  have HP3 := Lib.hid hP3
  have HP4 := Lib.hid hP4
  clear hP1 hP3 hP4
  go_enter Try.func3, Try.ntmps3
  go_wp2_with fail
  refine (alive_calls _).mono ?_
  rintro e w1 ⟨rfl, hx1⟩
  go_wp2_with fail
  refine (small_calls A c L _ (HP.out _ hx1) HP3.out HP4.out).mono ?_
  rintro e w2 ⟨rfl, hx⟩
  have hx2 := hx1.trans hx
  clear hx hx1 HP3 HP4
  cases hsm : smallB L
  case false =>
    go_wp2
    go_ret
    exact ⟨rfl, hx2⟩
  case true =>
  have hlen : L.length ≤ 30 := by
    unfold smallB at hsm
    simp only [Bool.and_eq_true, decide_eq_true_eq] at hsm
    exact hsm.2
  have HSM := Lib.hid hsm
  clear hsm
  cases hg0 : decide ((10 : Int) < comes.length)
  case true =>
    go_wp2
    go_ret
    exact ⟨rfl, hx2⟩
  case false =>
  have hb0 : comes.length ≤ 10 := by have := of_decide_eq_false hg0; omega
  cases hg1 : decide ((10 : Int) < most.length)
  case true =>
    go_wp2
    go_ret
    exact ⟨rfl, hx2⟩
  case false =>
  have hb1 : most.length ≤ 10 := by have := of_decide_eq_false hg1; omega
  have hown0 := World.ownsRow_lit (base := w2.heap.size) (size := 3) (e := 40) w2 #[] 0 (Nat.le_refl _) (by simp [maxLen]) rfl
  have hxa : Ext w2 (w2.alloc (.cells #[] 40)) := (Ext.refl w2).alloc _
  have hR := (HP.out _ (hx2.trans hxa)).reads
  go_wp2_with (at_builtin; refine wpList_append_src _ rfl _ _ 22 rfl w2.heap.size 40 _ 3 32 Try.underlying22 infoPart rfl (by omega) (.slice (some ⟨w2.heap.size, 0, none⟩) 0 0) 0 [] rfl hown0 _ _ _ _ _ rfl hR (pts_plain _) (by simp [maxLen]; omega) (by omega) hxa.size ?_; intro v3 wd hown hm3; have hx3 := ext_moved hxa hown0 hm3; rw [Nat.zero_add, List.nil_append] at hown; obtain ⟨A3, c3, rfl, _⟩ := own_shape hown)
  have hx02 := hx2.trans hx3
  have HNW := Lib.hid (new_calls A3 c3 L _ (pat_of_own hown) (by omega))
  have hwd := hx02.size
  clear hown0 hxa hR hown hm3 hx3 hx2
  refine HNW.out.mono ?_
  rintro e wb hNP
  unfold NewPost at hNP
  clear HNW
  cases hok : okL L
  case false =>
    rw [hok, if_neg (by simp)] at hNP
    obtain ⟨hxb, rfl⟩ := hNP
    have hx0 := hx02.trans hxb
    go_wp2
    go_ret
    exact ⟨rfl, hx0⟩
  case true =>
  rw [if_pos hok] at hNP
  obtain ⟨hxb, pb, rfl, hB0⟩ := hNP
  have HOK := Lib.hid (lok_of HSM.out hok)
  have HOL := Lib.hid hok
  have hx0 := hx02.trans hxb
  have hdb := hxb.size
  clear HSM hok hxb hx02
  have hlf := left_calls _ _ _ _ _ _ hB0.out HOK.out.map
  rw [leftS_nz] at hlf
  have HLF := Lib.hid hlf
  clear hlf
  go_wp2_with fail
  refine HLF.out.mono ?_
  rintro e w5 ⟨rfl, hx5⟩
  have hxw5 := hx0.trans hx5
  have hB5 := Lib.hid (hB0.out.ext hx5)
  clear HLF hB0
  cases ho : L.any Pt.open_
  case true =>
    have hl : leftS L = -1 := by unfold leftS; rw [if_pos ho]
    rw [hl]
    clear ho hl
    go_wp2
    go_ret
    exact ⟨rfl, hxw5⟩
  case false =>
  have hl : leftS L = sumS L := by unfold leftS; rw [if_neg (by rw [ho]; simp)]
  rw [hl]
  have hs0 := HOK.out.rok.sum
  have hlf := left_calls _ _ _ _ _ _ hB5.out HOK.out.map
  rw [leftS_nz, hl] at hlf
  have HLF := Lib.hid hlf
  have HO := Lib.hid ho
  clear ho hl hlf
  obtain ⟨tot, htot⟩ : ∃ tot, sumS L = tot := ⟨_, rfl⟩
  rw [htot] at hs0 HLF ⊢
  have htb : tot ≤ 6000000000000000000 := by rw [← htot]; exact lok_sum HOK.out
  have HT := Lib.hid htot
  clear htot
  go_wp2_with fail
  refine HLF.out.mono ?_
  rintro e w6 ⟨rfl, hx6⟩
  have hxw6 := hxw5.trans hx6
  have hxa : Ext w6 (w6.alloc (.cells #[.slice none 0 0] 34)) := (Ext.refl _).alloc _
  have hm := heap_alloc_new w6 (.cells #[.slice none 0 0] 34)
  have h6b : wb.heap.size ≤ w6.heap.size := by have := hx5.size; have := hx6.size; omega
  have hno : ∀ p ∈ L, p.open_ = false := fun p hp => by
    have := HO.out
    cases h : p.open_
    · rfl
    · rw [List.any_eq_true.2 ⟨p, hp, h⟩] at this
      cases this
  have HINV : Hid (WhInv wd.heap.size wb.heap.size wb pb w6.heap.size L 0 0 0 False False (.slice none 0 0) (w6.alloc (.cells #[.slice none 0 0] 34))) := Lib.hid ⟨L, [], 0, none, none, 0, 0, [], (hB5.out.ext hx6).ext hxa, HOK.out, ⟨Int.le_refl _, by omega⟩, hm, SAt.nil _ _, ⟨by simp, List.Pairwise.nil⟩, Nat.le_refl _, (fun b o e => by cases e), (fun b o e => by cases e), rfl, World.ownsRow_nil _ _ _ _, ⟨Nat.le_refl _, Nat.le_refl _⟩, rfl, hno, by simp [textS], fun h => h.elim, fun h => h.elim, fun h => absurd h (by simp), Chg.of_ext ((hx5.trans hx6).trans hxa)⟩
  have HX0 := Lib.hid hx0
  clear HLF hx5 hx6 hxw5 hxw6 hxa hm hno hB5 HOL HO hx0
  go_wp2_with fail
  generalize (w6.alloc (.cells #[.slice none 0 0] 34)) = w7 at *
  generalize w6.heap.size = m10 at *
  go_loopw [12, 11] (fun i v wr => ∃ k : Nat, k ≤ comes.length + 1 ∧ i = .int .i64 k ∧ Hid (WhInv wd.heap.size wb.heap.size wb pb m10 L (10 * k) (400 * k) 0 False (k = comes.length + 1) v wr)) (fun i _ _ => comes.length + 1 - (intOf i).toNat)
  case atStart => exact ⟨0, Nat.zero_le _, rfl, Lib.hid (by
    obtain ⟨R, told, n, A1, A2, c1, c2, S, h⟩ := HINV.out
    exact ⟨R, told, n, A1, A2, c1, c2, S, h.1, h.2.1, h.2.2.1, h.2.2.2.1, h.2.2.2.2.1, h.2.2.2.2.2.1, h.2.2.2.2.2.2.1, h.2.2.2.2.2.2.2.1, h.2.2.2.2.2.2.2.2.1, h.2.2.2.2.2.2.2.2.2.1, h.2.2.2.2.2.2.2.2.2.2.1, h.2.2.2.2.2.2.2.2.2.2.2.1, h.2.2.2.2.2.2.2.2.2.2.2.2.1, h.2.2.2.2.2.2.2.2.2.2.2.2.2.1, h.2.2.2.2.2.2.2.2.2.2.2.2.2.2.1, h.2.2.2.2.2.2.2.2.2.2.2.2.2.2.2.1, fun e => absurd e (by omega), h.2.2.2.2.2.2.2.2.2.2.2.2.2.2.2.2.2⟩)⟩
  case round =>
    clear HINV
    obtain ⟨k, hk, rfl, hinv⟩ := hrel
    by_cases hlt : k ≤ comes.length
    · obtain ⟨R, told, n, A1, A2, c1, c2, S, hB, hR, hn, hm, hS, hN, hSl, hO, hO2, rfl, hown, htl, hj, hno, htx, hal, hfin, hAO, hC⟩ := hinv.out
      have hlt2 : (k : Int) ≤ comes.length := by omega
      have hxw : Ext w wr := hC.ext HX0.out hwd
      have HB := Lib.hid hB
      have HR := Lib.hid hR
      have HN := Lib.hid hn
      have HM := Lib.hid hm
      have HS := Lib.hid hS
      have HNO := Lib.hid hN
      have HOO := Lib.hid (And.intro hO hO2)
      have HOW := Lib.hid hown
      have HRES := Lib.hid (And.intro htl (And.intro hj (And.intro hno htx)))
      have HC := Lib.hid hC
      have m0 : wr.cell? ⟨m10, 0, none⟩ = some (.slice A1 S.length c1) := by rw [cell_of_block hm]; rfl
      have mf : ∀ j, wr.frozen? ⟨m10, j, none⟩ = false := fun j => frozen_of_block hm j
      have hm10 : m10 < wr.heap.size := (Array.getElem?_eq_some_iff.1 hm).1
      clear hB hR hn hm hS hN hO hO2 hown htl hj hno htx hal hfin hAO hC hinv
      obtain ⟨be, hbe⟩ : ∃ be, ((k : Int) == (comes.length : Int)) = be := ⟨_, rfl⟩
      have hnb : (Value.slice A2 told.length c2).ownBlock ≠ some m10 := fun e => by
        have := own_base HOW.out e
        omega
      have HNB := Lib.hid hnb
      clear hnb
      go_upto_if 59 with (fail)
      have HBE := Lib.hid hbe
      clear hbe
      go_cut [] from 60 to 75 (fun wx => Hid (WhInv wd.heap.size wb.heap.size wb pb m10 L (10 * (k + 1)) (400 * k) 0 (k = comes.length) False (.slice A2 told.length c2) wx))
      case first =>
        cases be
        case true =>
          have hkc : k = comes.length := by have := HBE.out; simp at this; omega
          have HKC := Lib.hid hkc
          have hown1 := World.ownsRow_lit (base := wr.heap.size) (size := 2) (e := 37) wr #[.int .i64 0, .int .i64 4611686018427387904] 1 (Nat.le_refl _) (by simp [maxLen]) rfl
          have hSA : SAt (wr.alloc (.cells #[.int .i64 0, .int .i64 4611686018427387904] 37)) (some ⟨wr.heap.size, 0, none⟩) [⟨0, 4611686018427387904⟩] := sat_of_own hown1
          have HOF := Lib.hid (of_calls (some ⟨wr.heap.size, 0, none⟩) 1 [⟨0, 4611686018427387904⟩] _ hSA (by decide))
          have hx1 := (Ext.refl wr).alloc (.cells #[.int .i64 0, .int .i64 4611686018427387904] 37)
          clear hown1 hSA hkc
          go_wp2_with fail
          refine HOF.out.mono ?_
          rintro e w9 ⟨A5, c5, rfl, hS5, hN5, hx5⟩
          rw [all_of] at hS5
          have hl2 : (ofS [⟨0, 4611686018427387904⟩]).length = 1 := by rw [all_of]; rfl
          rw [hl2]
          have hxx := hx1.trans hx5
          have hm5 := hxx.block HM.out
          replace m0 := hxx.cell m0
          replace mf : ∀ j, w9.frozen? ⟨m10, j, none⟩ = false := fun j => frozen_of_block hm5 j
          have hne5 : ∀ b o, A5 = some ⟨b, o, none⟩ → b ≠ m10 := fun b o e => by have := hN5.out b o e; have := hx1.size; omega
          have OX : OutA wd.heap.size wb.heap.size A5 := fun b o e => .inr (by have := hN5.out b o e; have := hx1.size; omega)
          have hI : WhInv wd.heap.size wb.heap.size wb pb m10 L (10 * (k + 1)) (400 * k) 0 (k = comes.length) False (.slice A2 told.length c2) (w9.setCell ⟨m10, 0, none⟩ (.slice A5 1 c5)) := by
            refine ⟨R, told, n, A5, A2, c5, c2, [⟨0, 4611686018427387904⟩], ((HB.out.ext hxx).set_ h6b _), HR.out, HN.out, ?_, (hS5.out.set_ hne5 _), all_norm, by simp; omega, OX, hne5, rfl, own_set (ownsRow_ext HOW.out hxx) HNB.out _, HRES.out.1, HRES.out.2.1, HRES.out.2.2.1, HRES.out.2.2.2, fun _ => rfl, fun h => h.elim, fun _ b o e e2 => by have h1 := hN5.out b o e; have h2 := (own_lt HOW.out e2).2; have h3 := hx1.size; omega, (HC.out.trans (Chg.of_ext hxx)).set_ (.inr h6b) _⟩
            rw [heap_setCell_same _ _ _ _ _ _ hm5]; rfl
          have HI := Lib.hid hI
          clear hI HOF hS5 hN5 hx5 hx1 hl2 hxx hm5 hne5 OX
          go_wp2_with fail
          go_meet
          exact HI
        case false =>
          have hkc : k < comes.length := by have := HBE.out; simp at this; omega
          obtain ⟨b, o, rfl, q0, hcs, hcl⟩ := HCM.out k hkc
          replace q0 := hxw.cell q0
          replace hcs := hcs.ext hxw
          generalize comes[k] = cm at *
          rcases cm with ⟨cA, cc, cl⟩
          simp only at q0 hcs hcl
          have i0 : (0 : Int) ≤ (k : Int) := by omega
          have i1 : (k : Int) < (comes.length : Int) := by omega
          cases hg : decide ((10 : Int) < cl.length)
          case true =>
            go_wp2
            go_ret
            exact ⟨rfl, hxw⟩
          case false =>
          have hcl2 : cl.length ≤ 10 := by have := of_decide_eq_false hg; omega
          have hofl := of_length cl
          have HNC := Lib.hid (norm_of cl)
          have hk10 : k ≤ 10 := by omega
          go_upto_region 18 with (fail)
          have hdd : Ext wr wr.drew := (Ext.refl _).drew
          have HCS := Lib.hid (hcs.ext hdd)
          have HSD := Lib.hid (HS.out.ext hdd)
          have HMD := Lib.hid (hdd.block HM.out)
          have HXX := Lib.hid hdd
          replace q0 := hdd.cell q0
          replace m0 := hdd.cell m0
          clear hdd hcs mf hxw
          go_region_with (first
            | (go_at_call 13
               refine (of_calls cA cc cl _ HCS.out (by omega)).mono ?_
               rintro e w8 ⟨A5, c5, rfl, hS5, _, hx⟩
               replace m0 := hx.cell m0
               replace q0 := hx.cell q0
               replace HSD := Lib.hid (HSD.out.ext hx)
               replace HMD := Lib.hid (hx.block HMD.out)
               replace HXX := Lib.hid (HXX.out.trans hx)
               clear hx)
            | (go_at_call 14
               refine (or_calls A1 c1 S A5 c5 (ofS cl) _ HSD.out hS5.out HNO.out HNC.out (by omega) (by omega)).mono ?_
               rintro e w9 ⟨A6, c6, rfl, hS6, hN6, hx⟩
               have hN62 : ∀ b o, A6 = some ⟨b, o, none⟩ → wr.heap.size ≤ b := (fun b o e => by have := hN6.out b o e; have := HXX.out.size; omega)
               have HN6 := Lib.hid hN62
               replace m0 := hx.cell m0
               replace HMD := Lib.hid (hx.block HMD.out)
               replace HXX := Lib.hid (HXX.out.trans hx)
               have mf : ∀ j, w9.frozen? ⟨m10, j, none⟩ = false := (fun j => frozen_of_block HMD.out j)
               clear hx hN6 hN62))
          all_goals
            have hne6 : ∀ b o, A6 = some ⟨b, o, none⟩ → b ≠ m10 := fun b o e => by have := HN6.out b o e; omega
            have OX : OutA wd.heap.size wb.heap.size A6 := fun b o e => .inr (by have := HN6.out b o e; have := HC.out.size; omega)
            have hol : (orS S (ofS cl)).length ≤ 10 * (k + 1) := by
              have := of_length (S ++ ofS cl)
              rw [List.length_append] at this
              unfold orS
              omega
            have hI : WhInv wd.heap.size wb.heap.size wb pb m10 L (10 * (k + 1)) (400 * k) 0 (k = comes.length) False (.slice A2 told.length c2) (w9.setCell ⟨m10, 0, none⟩ (.slice A6 (orS S (ofS cl)).length c6)) := by
              refine ⟨R, told, n, A6, A2, c6, c2, orS S (ofS cl), ((HB.out.ext HXX.out).set_ h6b _), HR.out, HN.out, ?_, (hS6.out.set_ hne6 _), norm_of _, hol, OX, hne6, rfl, own_set (ownsRow_ext HOW.out HXX.out) HNB.out _, HRES.out.1, HRES.out.2.1, HRES.out.2.2.1, HRES.out.2.2.2, fun e => absurd e (by omega), fun h => h.elim, fun _ b o e e2 => by have h1 := HN6.out b o e; have h2 := (own_lt HOW.out e2).2; omega, (HC.out.trans (Chg.of_ext HXX.out)).set_ (.inr h6b) _⟩
              rw [heap_setCell_same _ _ _ _ _ _ HMD.out]; rfl
            have HI := Lib.hid hI
            clear hI hne6 OX hol
            go_wp2_with fail
            go_meet
            exact HI
      case rest =>
        have HIN : Hid (WhInv wd.heap.size wb.heap.size wb pb m10 L (10 * (k + 1)) (400 * k + 0) 0 (k = comes.length) False (.slice A2 told.length c2) wc) := hcut
        clear hcut HB HR HN HM HS HNO HOO HOW HRES HC m0 mf hxw HNB HBE hm10
        go_wp2_with fail
        go_loopw [13, 11] (fun i v wx => ∃ j : Nat, j ≤ 400 ∧ i = .int .i64 j ∧ Hid (WhInv wd.heap.size wb.heap.size wb pb m10 L (10 * (k + 1)) (400 * k + j) j (k = comes.length) False v wx)) (fun i _ _ => 400 - (intOf i).toNat)
        case atStart => exact ⟨0, by omega, rfl, HIN⟩
        case round =>
          clear HIN
          obtain ⟨j, hj4, rfl, hinv⟩ := hrel
          obtain ⟨R, told, n, A1, A2, c1, c2, S, hB, hR, hn, hm, hS, hN, hSl, hO, hO2, rfl, hown, htl, hj, hno, htx, hal, hfin, hAO, hC⟩ := hinv.out
          rcases Nat.lt_or_ge j 400 with hjlt | hjge
          · have hxw : Ext w wr := hC.ext HX0.out hwd
            have HB := Lib.hid hB
            have HR := Lib.hid hR
            have HN := Lib.hid hn
            have HM := Lib.hid hm
            have HS := Lib.hid hS
            have HNO := Lib.hid hN
            have HOO := Lib.hid (And.intro hO (And.intro hO2 hAO))
            have HOW := Lib.hid hown
            have HRES := Lib.hid (And.intro htl (And.intro hj (And.intro hno (And.intro htx hal))))
            have HC := Lib.hid hC
            have m0 : wr.cell? ⟨m10, 0, none⟩ = some (.slice A1 S.length c1) := by rw [cell_of_block hm]; rfl
            have hm10 : m10 < wr.heap.size := (Array.getElem?_eq_some_iff.1 hm).1
            have hwb : wb.heap.size ≤ wr.heap.size := hC.size
            have hS1 : S.length ≤ 1000 := by omega
            have hn0 : 0 ≤ n := hn.1
            have hn1 : n ≤ tot := by have := hR.rok.sum; have := HT.out; omega
            have htl2 : told.length ≤ 10000 := by omega
            have hj0 : (0 : Int) ≤ (j : Int) := by omega
            obtain ⟨mb, hmb⟩ : ∃ mb, decide (0 < most.length) = mb := ⟨_, rfl⟩
            have hmb2 : decide ((0 : Int) < (most.length : Int)) = mb := by rw [← hmb]; congr 1; apply propext; omega
            clear hB hR hn hm hS hN hO hO2 hown htl hj hno htx hal hfin hC hinv hAO
            go_upto_if 82 with (fail)
            have HMB := Lib.hid hmb
            clear hmb hmb2
            go_cut [14] from 83 to 92 (fun v wx => wx = wr ∧ ∃ N : Int, v = .int .i64 N ∧ 1 ≤ N ∧ N ≤ 2199023255552)
            case first =>
              cases mb
              · go_wp2_with fail
                go_meet
                exact ⟨rfl, _, rfl, by omega, by omega⟩
              · have hml : 0 < most.length := of_decide_eq_true HMB.out
                have hr0 : 0 ≤ (j : Int) % (most.length : Int) := Int.emod_nonneg _ (by omega)
                have hr1 : (j : Int) % (most.length : Int) < most.length := Int.emod_lt_of_pos _ (by omega)
                have hr2 : j % most.length < most.length := Nat.mod_lt _ hml
                obtain ⟨b, o, rfl, q0⟩ := HMO.out _ hr2
                replace q0 := hxw.cell q0
                have hu := (most[j % most.length]).toNat_lt
                generalize most[j % most.length] = ub at *
                have hu0 : (0 : Int) ≤ (ub.toNat : Int) := by omega
                have hu1 : (ub.toNat : Int) ≤ 255 := by omega
                go_wp2_with fail
                go_meet
                exact ⟨rfl, _, rfl, by omega, by omega⟩
            case rest =>
              obtain ⟨rfl, N, rfl, hN1, hN2⟩ := hcut
              have HXW := Lib.hid hxw
              clear hxw
              go_wp2_with fail
              refine (sent_calls _ _ _ _ _ _ HB.out).mono ?_
              rintro e w8 ⟨rfl, rfl⟩
              cases hns : nextS R S N with
              | none =>
                have HNX := Lib.hid (nx_calls wd.heap.size wb.heap.size pb R n A1 c1 S N _ HB.out HS.out HNO.out (by omega) HR.out.rok ⟨hn0, by have := HN.out.2; have := HT.out; omega⟩ hwb)
                rw [hns] at HNX
                have hfin : k = comes.length → R = [] := fun e => by
                  have := HRES.out.2.2.2.2 e
                  subst this
                  exact next_all HR.out.rok hN1 hns
                have HFIN := Lib.hid hfin
                clear hns hfin
                go_wp2_with fail
                refine HNX.out.mono ?_
                rintro e w9 h
                obtain ⟨rfl, hx⟩ : e = _ ∧ Ext _ w9 := h
                have hxx := hx.alloc (.cells #[.string ⟨#[]⟩, .int .i64 0, .int .i64 0] 40)
                have hI : WhInv wd.heap.size wb.heap.size wb pb m10 L (10 * (k + 1)) (400 * (k + 1)) 0 False (k + 1 = comes.length + 1) (.slice A2 told.length c2) (w9.alloc (.cells #[.string ⟨#[]⟩, .int .i64 0, .int .i64 0] 40)) :=
                  ⟨R, told, n, A1, A2, c1, c2, S, HB.out.ext hxx, HR.out, HN.out, hxx.block HM.out, HS.out.ext hxx, HNO.out, hSl, HOO.out.1, HOO.out.2.1, rfl, ownsRow_ext HOW.out hxx, ⟨Nat.zero_le _, by have := HRES.out.1.2; omega⟩, HRES.out.2.1, HRES.out.2.2.1, HRES.out.2.2.2.1, fun h => h.elim, fun e => .inl (HFIN.out (by omega)), HOO.out.2.2, HC.out.trans (Chg.of_ext hxx)⟩
                have HI := Lib.hid hI
                clear hI hx hxx HNX m0
                go_wp2
                go_roundw
                case rel => first | exact ⟨k + 1, by omega, by go_num, HI⟩ | ((repeat apply Exists.intro); exact ⟨⟨k + 1, by omega, by go_num, HI⟩, rfl⟩)
                case measure => simp [intOf]; omega
              | some x =>
                rcases x with ⟨⟨qs, qf, qt⟩, R2, m⟩
                obtain ⟨hok2, hm1, hm2, hsum⟩ := next_ok HR.out.rok hns
                have hlok2 := next_lok HR.out hns
                obtain ⟨hz1, hz2, hz3, hz4⟩ := next_size HR.out.rok hns
                have hno2 := next_noopen HRES.out.2.2.1 hns
                have hjn := join_next (a := told) HR.out.rok hns
                have hnm := hn0
                have hT := HT.out
                have hN' := HN.out.2
                have hs2 := hok2.sum
                have HNX := Lib.hid (nx_calls wd.heap.size wb.heap.size pb R n A1 c1 S N _ HB.out HS.out HNO.out (by omega) HR.out.rok ⟨hn0, by omega⟩ hwb)
                rw [hns] at HNX
                have hlf2 : leftS (R2.map Pt.nz) = tot - (n + m) := by
                  rw [leftS_nz]
                  unfold leftS
                  rw [if_neg (by intro h; obtain ⟨p, hp, h⟩ := List.any_eq_true.1 h; rw [hno2 p hp] at h; cases h)]
                  omega
                have HLF2 := Lib.hid hlf2
                have HF := Lib.hid (And.intro hlok2 (And.intro hno2 (And.intro hjn (And.intro hsum hz4))))
                have hnm1 : n + m ≤ tot := by omega
                have htot : tot ≤ 6000000000000000000 := htb
                simp only at hz1 hz2 hz3
                clear hns hlf2 hlok2 hno2 hjn hsum hz4 hok2 hT hN' hs2
                go_wp2_with fail
                refine HNX.out.mono ?_
                rintro e w9 h
                obtain ⟨rfl, hB9, hC9⟩ : e = _ ∧ Hid (BodyAt wd.heap.size wb.heap.size w9 pb (R2.map Pt.nz) (n + m)) ∧ Chg wd.heap.size wb.heap.size _ w9 := h
                have hx10 : Ext w9 (w9.alloc (.cells #[.string ⟨qs.toArray⟩, .int .i64 qf, .int .i64 qt] 40)) := (Ext.refl _).alloc _
                have hbq := heap_alloc_new w9 (.cells #[.string ⟨qs.toArray⟩, .int .i64 qf, .int .i64 qt] 40)
                have hown9 := own_chg HOW.out hC9 (by omega)
                have hown10 := ownsRow_ext hown9 hx10
                have hm9 := hx10.block ((hC9.block m10 hm10 (.inr h6b)).trans HM.out)
                have HS10 := Lib.hid ((HS.out.chg hC9 HOO.out.1).ext hx10)
                have HB10 := Lib.hid (hB9.out.ext hx10)
                have HC10 := Lib.hid ((HC.out.trans hC9).trans (Chg.of_ext hx10))
                have h9 := hC9.size
                have hrow : ∀ g, (Value.slice A2 told.length c2).ownBlock = some g → g < w9.heap.size := fun g e => by have := (own_lt HOW.out e).2; omega
                have HROW := Lib.hid hrow
                have hb2 : m10 + 1 ≤ (w9.alloc (.cells #[.string ⟨qs.toArray⟩, .int .i64 qf, .int .i64 qt] 40)).heap.size := by have := hx10.size; omega
                have hHS : 0 < S.length → ∀ b o, A1 = some ⟨b, o, none⟩ → b < w9.heap.size := fun h0 b o e => by
                  obtain ⟨b', o', e', p0, _⟩ := HS.out 0 h0
                  rw [e] at e'
                  cases e'
                  have := block_of_cell p0
                  simp only at this
                  omega
                have HHS := Lib.hid hHS
                clear HNX m0 hrow hB9 hC9 hown9 hHS
                cases e1q : (qs == [])
                · have hqs : qs ≠ [] := by simpa using e1q
                  obtain rfl : m = (qs.length : Int) := (hz3 hqs).symm
                  clear hz2 hz3 hqs
                  go_wp2_with (at_builtin; refine wpList_append_new _ rfl _ _ 22 rfl (m10 + 1) 40 _ 3 32 Try.underlying22 infoPart rfl (by omega) (.slice A2 told.length c2) told.length (pts told) rfl hown10 1 1 _ (by simp) _ rfl rfl (by simp [Value.oneCell']) (by simp [maxLen]; omega) (by omega) hb2 ?_; intro v5 w11 hown5 hm5; obtain ⟨A5, c5, rfl, _⟩ := own_shape hown5; have hbq5 := (hm5.1.block _ (Array.getElem?_eq_some_iff.1 hbq).1 (fun e => by have := HROW.out _ e.symm; omega)).trans hbq; have y0 : w11.cell? ⟨w9.heap.size, 0, none⟩ = some (.string ⟨qs.toArray⟩) := (by rw [cell_of_block hbq5]; rfl); have y1 : w11.cell? ⟨w9.heap.size, 1, none⟩ = some (.int .i64 qf) := (by rw [cell_of_block hbq5]; rfl); have y2 : w11.cell? ⟨w9.heap.size, 2, none⟩ = some (.int .i64 qt) := (by rw [cell_of_block hbq5]; rfl))
                  have hlow : ∀ k', k' < (w9.alloc (.cells #[.string ⟨qs.toArray⟩, .int .i64 qf, .int .i64 qt] 40)).heap.size → k' < wb.heap.size → w11.heap[k']? = (w9.alloc (.cells #[.string ⟨qs.toArray⟩, .int .i64 qf, .int .i64 qt] 40)).heap[k']? := fun k' hk1 hk2 => hm5.1.block k' hk1 (fun e => by have := own_base hown10 e.symm; omega)
                  have HB11 := Lib.hid (HB10.out.low hlow)
                  have hm11 := (hm5.1.block m10 (Array.getElem?_eq_some_iff.1 hm9).1 (fun e => by have := own_base hown10 e.symm; omega)).trans hm9
                  have HS11 : Hid (SAt w11 A1 S) := Lib.hid fun k' hk' => by
                    obtain ⟨b, o, e, p0, p1⟩ := HS10.out k' hk'
                    have hb := hm5.1.block b (block_of_cell p0) (fun e2 => HOO.out.2.2 (by omega) b o e e2.symm)
                    exact ⟨b, o, e, (World.cell?_of_block hb).trans p0, (World.cell?_of_block hb).trans p1⟩
                  have HC11 : Hid (Chg wd.heap.size wb.heap.size wb w11) := Lib.hid ⟨hm5.1.os.trans HC10.out.os, hm5.1.tape.trans HC10.out.tape, hm5.1.output.trans HC10.out.output, Nat.le_trans HC10.out.size hm5.1.size, fun k' hk1 hk2 => (hm5.1.block k' (Nat.lt_of_lt_of_le hk1 HC10.out.size) (fun e => by have := own_base hown10 e.symm; omega)).trans (HC10.out.block k' hk1 hk2)⟩
                  have hI : WhInv wd.heap.size wb.heap.size wb pb m10 L (10 * (k + 1)) (400 * k + (j + 1)) (j + 1) (k = comes.length) False (.slice A5 (told.length + 1) c5) w11 := by
                    have hr1 := HRES.out
                    have hf1 := HF.out
                    refine ⟨R2, told ++ [Pt.mk qs qf qt], n + (qs.length : Int), A1, A5, c1, c5, S, HB11.out, hf1.1, ⟨by omega, by have := hf1.2.2.2.1; have := HN.out.2; omega⟩, hm11, HS11.out, HNO.out, hSl, HOO.out.1, HOO.out.2.1, by simp, ?_, ?_, ?_, hf1.2.1, ?_, hr1.2.2.2.2, fun h => h.elim, ?_, HC11.out⟩
                    · rw [List.length_append, pts_append]; exact hown5
                    · rw [List.length_append, List.length_singleton]; have := hr1.1; omega
                    · rw [hf1.2.2.1]; exact hr1.2.1
                    · rw [textS_append, textS_one]; have := hf1.2.2.2.2; have := hr1.2.2.2.1; simp only at *; omega
                    · intro h0 b o e e2
                      rcases hm5.2 with hv | ⟨g, hg, hv⟩
                      · exact HOO.out.2.2 h0 b o e (hv ▸ e2)
                      · rw [hv] at e2
                        cases e2
                        have := HHS.out h0 _ o e
                        have := hx10.size
                        omega
                  have HI := Lib.hid hI
                  have HLF3 := Lib.hid (left_calls _ _ _ _ _ _ HB11.out HF.out.1.map)
                  rw [HLF2.out] at HLF3
                  clear hI hlow hm11 HS11 HC11 hm5 hown5 hown10 hm9 hbq hbq5 hx10 hb2
                  refine (sent_calls _ _ _ _ _ _ HB11.out).mono ?_
                  rintro e w12 ⟨rfl, rfl⟩
                  go_wp2_with fail
                  refine HLF3.out.mono ?_
                  rintro e w13 ⟨rfl, hx13⟩
                  have HB13 := Lib.hid (HB11.out.ext hx13)
                  have hI2 : WhInv wd.heap.size wb.heap.size wb pb m10 L (10 * (k + 1)) (400 * k + (j + 1)) (j + 1) (k = comes.length) False (.slice A5 (told.length + 1) c5) w13 := by
                    obtain ⟨R', told', n', A', A2', c', c2', S', a1, a2, a3, a4, a5, a6, a7, a8, a9, a10, a11, a12, a13, a14, a15, a16, a17, a18, a19⟩ := HI.out
                    exact ⟨R', told', n', A', A2', c', c2', S', a1.ext hx13, a2, a3, hx13.block a4, a5.ext hx13, a6, a7, a8, a9, a10, ownsRow_ext a11 hx13, a12, a13, a14, a15, a16, a17, a18, a19.trans (Chg.of_ext hx13)⟩
                  have HI2 := Lib.hid hI2
                  clear hI2 HI hx13 HLF3 y0 y1 y2
                  go_wp2_with fail
                  refine (sent_calls _ _ _ _ _ _ HB13.out).mono ?_
                  rintro e w14 ⟨rfl, rfl⟩
                  go_wp2
                  go_roundw
                  case rel => first | exact ⟨j + 1, by omega, by go_num, HI2⟩ | ((repeat apply Exists.intro); exact ⟨⟨j + 1, by omega, by go_num, HI2⟩, rfl⟩)
                  case measure => simp [intOf]; omega
                · have hqs : qs = [] := by simpa using e1q
                  obtain ⟨hz5, hz6, hz7⟩ := hz2 hqs
                  subst hqs
                  obtain rfl : m = qt - qf := hz5.symm
                  clear hz2 hz3 hz5
                  go_wp2_with (at_builtin; refine wpList_append_new _ rfl _ _ 22 rfl (m10 + 1) 40 _ 3 32 Try.underlying22 infoPart rfl (by omega) (.slice A2 told.length c2) told.length (pts told) rfl hown10 1 1 _ (by simp) _ rfl rfl (by simp [Value.oneCell']) (by simp [maxLen]; omega) (by omega) hb2 ?_; intro v5 w11 hown5 hm5; obtain ⟨A5, c5, rfl, _⟩ := own_shape hown5; have hbq5 := (hm5.1.block _ (Array.getElem?_eq_some_iff.1 hbq).1 (fun e => by have := HROW.out _ e.symm; omega)).trans hbq; have y0 : w11.cell? ⟨w9.heap.size, 0, none⟩ = some (.string ⟨#[]⟩) := (by rw [cell_of_block hbq5]; rfl); have y1 : w11.cell? ⟨w9.heap.size, 1, none⟩ = some (.int .i64 qf) := (by rw [cell_of_block hbq5]; rfl); have y2 : w11.cell? ⟨w9.heap.size, 2, none⟩ = some (.int .i64 qt) := (by rw [cell_of_block hbq5]; rfl))
                  have hlow : ∀ k', k' < (w9.alloc (.cells #[.string ⟨#[]⟩, .int .i64 qf, .int .i64 qt] 40)).heap.size → k' < wb.heap.size → w11.heap[k']? = (w9.alloc (.cells #[.string ⟨#[]⟩, .int .i64 qf, .int .i64 qt] 40)).heap[k']? := fun k' hk1 hk2 => hm5.1.block k' hk1 (fun e => by have := own_base hown10 e.symm; omega)
                  have HB11 := Lib.hid (HB10.out.low hlow)
                  have hm11 := (hm5.1.block m10 (Array.getElem?_eq_some_iff.1 hm9).1 (fun e => by have := own_base hown10 e.symm; omega)).trans hm9
                  have HS11 : Hid (SAt w11 A1 S) := Lib.hid fun k' hk' => by
                    obtain ⟨b, o, e, p0, p1⟩ := HS10.out k' hk'
                    have hb := hm5.1.block b (block_of_cell p0) (fun e2 => HOO.out.2.2 (by omega) b o e e2.symm)
                    exact ⟨b, o, e, (World.cell?_of_block hb).trans p0, (World.cell?_of_block hb).trans p1⟩
                  have HC11 : Hid (Chg wd.heap.size wb.heap.size wb w11) := Lib.hid ⟨hm5.1.os.trans HC10.out.os, hm5.1.tape.trans HC10.out.tape, hm5.1.output.trans HC10.out.output, Nat.le_trans HC10.out.size hm5.1.size, fun k' hk1 hk2 => (hm5.1.block k' (Nat.lt_of_lt_of_le hk1 HC10.out.size) (fun e => by have := own_base hown10 e.symm; omega)).trans (HC10.out.block k' hk1 hk2)⟩
                  have hI : WhInv wd.heap.size wb.heap.size wb pb m10 L (10 * (k + 1)) (400 * k + (j + 1)) (j + 1) (k = comes.length) False (.slice A5 (told.length + 1) c5) w11 := by
                    have hr1 := HRES.out
                    have hf1 := HF.out
                    refine ⟨R2, told ++ [Pt.mk [] qf qt], n + (qt - qf), A1, A5, c1, c5, S, HB11.out, hf1.1, ⟨by omega, by have := hf1.2.2.2.1; have := HN.out.2; omega⟩, hm11, HS11.out, HNO.out, hSl, HOO.out.1, HOO.out.2.1, by simp, ?_, ?_, ?_, hf1.2.1, ?_, hr1.2.2.2.2, fun h => h.elim, ?_, HC11.out⟩
                    · rw [List.length_append, pts_append]; exact hown5
                    · rw [List.length_append, List.length_singleton]; have := hr1.1; omega
                    · rw [hf1.2.2.1]; exact hr1.2.1
                    · rw [textS_append, textS_one]; have := hf1.2.2.2.2; have := hr1.2.2.2.1; simp only at *; omega
                    · intro h0 b o e e2
                      rcases hm5.2 with hv | ⟨g, hg, hv⟩
                      · exact HOO.out.2.2 h0 b o e (hv ▸ e2)
                      · rw [hv] at e2
                        cases e2
                        have := HHS.out h0 _ o e
                        have := hx10.size
                        omega
                  have HI := Lib.hid hI
                  have HLF3 := Lib.hid (left_calls _ _ _ _ _ _ HB11.out HF.out.1.map)
                  rw [HLF2.out] at HLF3
                  clear hI hlow hm11 HS11 HC11 hm5 hown5 hown10 hm9 hbq hbq5 hx10 hb2
                  refine (sent_calls _ _ _ _ _ _ HB11.out).mono ?_
                  rintro e w12 ⟨rfl, rfl⟩
                  go_wp2_with fail
                  refine HLF3.out.mono ?_
                  rintro e w13 ⟨rfl, hx13⟩
                  have HB13 := Lib.hid (HB11.out.ext hx13)
                  have hI2 : WhInv wd.heap.size wb.heap.size wb pb m10 L (10 * (k + 1)) (400 * k + (j + 1)) (j + 1) (k = comes.length) False (.slice A5 (told.length + 1) c5) w13 := by
                    obtain ⟨R', told', n', A', A2', c', c2', S', a1, a2, a3, a4, a5, a6, a7, a8, a9, a10, a11, a12, a13, a14, a15, a16, a17, a18, a19⟩ := HI.out
                    exact ⟨R', told', n', A', A2', c', c2', S', a1.ext hx13, a2, a3, hx13.block a4, a5.ext hx13, a6, a7, a8, a9, a10, ownsRow_ext a11 hx13, a12, a13, a14, a15, a16, a17, a18, a19.trans (Chg.of_ext hx13)⟩
                  have HI2 := Lib.hid hI2
                  clear hI2 HI hx13 HLF3 y0 y1 y2
                  go_wp2_with fail
                  refine (sent_calls _ _ _ _ _ _ HB13.out).mono ?_
                  rintro e w14 ⟨rfl, rfl⟩
                  go_wp2
                  go_roundw
                  case rel => first | exact ⟨j + 1, by omega, by go_num, HI2⟩ | ((repeat apply Exists.intro); exact ⟨⟨j + 1, by omega, by go_num, HI2⟩, rfl⟩)
                  case measure => simp [intOf]; omega
          · have hj400 : j = 400 := by omega
            have hI : WhInv wd.heap.size wb.heap.size wb pb m10 L (10 * (k + 1)) (400 * (k + 1)) 0 False (k + 1 = comes.length + 1) (.slice A2 told.length c2) wr :=
              ⟨R, told, n, A1, A2, c1, c2, S, hB, hR, hn, hm, hS, hN, hSl, hO, hO2, rfl, hown, ⟨Nat.zero_le _, by omega⟩, hj, hno, htx, fun h => h.elim, fun e => .inr (by omega), hAO, hC⟩
            have HI := Lib.hid hI
            subst hj400
            clear hI hB hR hn hm hS hN hO hO2 hown htl hj hno htx hal hfin hC hinv hAO
            go_wp2
            go_roundw
            case rel => first | exact ⟨k + 1, by omega, by go_num, HI⟩ | ((repeat apply Exists.intro); exact ⟨⟨k + 1, by omega, by go_num, HI⟩, rfl⟩)
            case measure => simp [intOf]; omega
    · have hk2 : k = comes.length + 1 := by omega
      obtain ⟨R, told, n, A1, A2, c1, c2, S, hB, hR, hn, hm, hS, hN, hSl, hO, hO2, rfl, hown, htl, hj, hno, htx, hal, hfin, hAO, hC⟩ := hinv.out
      have hxw : Ext w wr := hC.ext HX0.out hwd
      have hP := hfin hk2
      have hk3 : ¬ (k : Int) ≤ comes.length := by omega
      have htl2 : told.length ≤ 10000 := by omega
      have hHB := Lib.hid hB
      have hPT := Lib.hid (pat_of_own hown)
      have hdn := done_calls _ _ _ _ _ _ hB
      cases hRe : decide (R = [])
      · have hne : ¬ R = [] := of_decide_eq_false hRe
        have h300 : 300 ≤ told.length := by rcases hP with h | h; exact absurd h hne; exact h
        have h301 : (300 : Int) ≤ told.length := by omega
        have hd2 : decide (R.map Pt.nz = []) = false := by simp [hne]
        rw [hd2] at hdn
        have HDN := Lib.hid hdn
        clear hdn hd2 hne hP hB hR hn hm hS hN hO hO2 hown htl hj hno htx hal hfin hC hinv hAO hk2 hRe
        go_wp2_with fail
        refine HDN.out.mono ?_
        rintro e w8 ⟨rfl, rfl⟩
        go_wp2
        go_ret
        exact ⟨by first | rfl | simp [*], hxw⟩
      · have hRn : R = [] := of_decide_eq_true hRe
        subst hRn
        have hd2 : decide (([] : List Pt).map Pt.nz = []) = true := rfl
        rw [hd2] at hdn
        have HDN := Lib.hid hdn
        have hnt : n = tot := by have := hn.2; have := HT.out; simp [sumS] at this hn; omega
        have hjl : joinL told = joinL L := by rw [List.append_nil] at hj; exact hj
        have htb2 := textS_bd HOK.out
        have hte : textS told ≤ 15000 := by omega
        have HJL := Lib.hid hjl
        have hnn : n = tot := hnt
        subst hnn
        clear hdn hd2 hP hR hn hm hS hN hO hO2 hown htl hj hno htx hal hfin hinv hAO hk2 hRe hnt hjl
        go_wp2_with fail
        refine HDN.out.mono ?_
        rintro e w8 ⟨rfl, rfl⟩
        go_wp2_with fail
        refine (sent_calls _ _ _ _ _ _ hHB.out).mono ?_
        rintro e w9 ⟨rfl, rfl⟩
        go_wp2_with fail
        refine (joined_calls A2 c2 told _ hPT.out (by omega) (by omega)).mono ?_
        rintro e w10 ⟨v10, rfl, hown10, hx10⟩
        obtain ⟨A10, c10, rfl, _⟩ := own_shape hown10.out
        have hp10 := Lib.hid (pat_of_own hown10.out)
        rw [HJL.out] at hp10 ⊢
        have hxw10 := hxw.trans hx10
        clear hown10
        go_wp2_with fail
        refine (joined_calls A c L _ (HP.out _ hxw10) (by omega) (by omega)).mono ?_
        rintro e w11 ⟨v11, rfl, hown11, hx11⟩
        obtain ⟨A11, c11, rfl, _⟩ := own_shape hown11.out
        have hp11 := Lib.hid (pat_of_own hown11.out)
        have hp12 := Lib.hid (hp10.out.ext hx11)
        have hjlen := joinL_length L
        have hxw11 := hxw10.trans hx11
        clear hown11 hp10 hx10 hx11
        go_wp2_with fail
        refine (rsame_calls A10 A11 c10 c11 (joinL L) _ hp12.out hp11.out (by omega)).mono ?_
        rintro e w12 ⟨rfl, hx12⟩
        go_wp2
        go_ret
        exact ⟨by first | rfl | simp [*], hxw11.trans hx12⟩
end Go.Proofs.Ytcdokpkffbigdaa
