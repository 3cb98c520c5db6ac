/- The walk of AssemblePlays. -/
import Derived.Test.YtcdokpkffbigdaaPru
import Derived.Deep.Cut
namespace Go.Proofs.Ytcdokpkffbigdaa
open Go.RowKit

def NBox (lo hi : Nat) (w : World) (q : Pt) (pb : Nat) (R : List Pt) (n : Int) (v : Value) (wx : World) : Prop := ∃ xb, v = .pointer (some ⟨xb, 0, none⟩) ∧ w.heap.size ≤ xb ∧ Hid (wx.heap[xb]? = some (.cells #[.string ⟨q.s.toArray⟩, .int .i64 q.f, .int .i64 q.t] 40 (0, 0)) ∧ BodyAt lo hi wx pb (R.map Pt.nz) n ∧ Chg lo hi w wx)
theorem nbox_set {lo hi xb pb : Nat} {w w4 : World} {q : Pt} {R : List Pt} {n : Int} {x y z : Value} (hx : w.heap.size ≤ xb) (hh : hi ≤ w.heap.size) (bx : w4.heap[xb]? = some (.cells #[x, y, z] 40 (0, 0))) (hB : BodyAt lo hi w4 pb (R.map Pt.nz) n) (hC : Chg lo hi w w4) :
    NBox lo hi w q pb R n (.pointer (some ⟨xb, 0, none⟩)) (((w4.setCell ⟨xb, 0, none⟩ (.string ⟨q.s.toArray⟩)).setCell ⟨xb, 1, none⟩ (.int .i64 q.f)).setCell ⟨xb, 2, none⟩ (.int .i64 q.t)) :=
  ⟨xb, rfl, hx, Lib.hid ⟨part_fill bx, ((hB.set_ (Nat.le_trans hh hx) _).set_ (Nat.le_trans hh hx) _).set_ (Nat.le_trans hh hx) _, ((hC.set_ (.inr hx) _).set_ (.inr hx) _).set_ (.inr hx) _⟩⟩
theorem nbox_new {lo hi pb : Nat} {w w4 : World} {q : Pt} {R : List Pt} {n : Int} (_ : hi ≤ w.heap.size) (hB : BodyAt lo hi w4 pb (R.map Pt.nz) n) (hC : Chg lo hi w w4) :
    NBox lo hi w q pb R n (.pointer (some ⟨w4.heap.size, 0, none⟩)) (w4.alloc (.cells #[.string ⟨q.s.toArray⟩, .int .i64 q.f, .int .i64 q.t] 40)) :=
  ⟨_, rfl, hC.size, Lib.hid ⟨heap_alloc_new _ _, hB.ext ((Ext.refl w4).alloc _), hC.alloc_ _⟩⟩
/-- Both bodies, side by side. -/
def PlInv (lo hi : Nat) (wb : World) (pb m7 : Nat) (wr : World) : Prop :=
  ∃ (R : List Pt) (n : Int) (A : Option Addr) (c : Nat), BodyAt lo hi wr pb (R.map Pt.nz) n ∧ LOk R ∧ (0 ≤ n ∧ n + sumS R ≤ 9000000000000000000) ∧ PAt wr A R ∧ R.length ≤ c ∧
    wr.heap[m7]? = some (.cells #[.slice A R.length c, .int .i64 n] 51 (0, 0)) ∧ (0 < R.length → OutA lo hi A ∧ ∀ b o, A = some ⟨b, o, none⟩ → b ≠ m7) ∧ Chg lo hi wb wr

set_option maxHeartbeats 16000000 in
set_option maxRecDepth 100000 in
theorem lawPlays_calls (A : Option Addr) (c : Nat) (L : List Pt) (B : Option Addr) (d : Nat) (acts : List Ac) (w : World) (hP : PartsIn w A c L) (hA : ActsAt w B acts ∧ acts.length ≤ d ∧ acts.length ≤ 9223372036854775807) :
    Calls Try.prog 7 #[.slice A L.length c, .slice B acts.length d] w fun e w' => e = .returned (.bool true) ∧ Ext w w' := by
  obtain ⟨hA1, hA2, hA3⟩ := hA
  have HACT := Lib.hid hA1
  clear hA1 hA2
  obtain ⟨hP1, hPc, hP3, hP4⟩ := hP
  have HP := Lib.hid (fun W (hx : Ext w W) => hP1.ext hx)
  have HP3 := Lib.hid hP3
  have HP4 := Lib.hid hP4
  clear hP1 hP3 hP4
  go_enter Try.func7, Try.ntmps7
  go_wp2_with fail
  refine (alive_calls _).mono ?_
  rintro e w1 ⟨rfl, hx1⟩
  go_wp2_with fail
  refine (small_calls A c L _ (HP.out _ hx1) HP3.out HP4.out).mono ?_
  rintro e w2 ⟨rfl, hx⟩
  have hx2 := hx1.trans hx
  clear hx hx1 HP3 HP4
  cases hsm : smallB L
  case false =>
    go_wp2
    go_ret
    exact ⟨rfl, hx2⟩
  case true =>
  have hlen : L.length ≤ 30 := by
    unfold smallB at hsm
    simp only [Bool.and_eq_true, decide_eq_true_eq] at hsm
    exact hsm.2
  have HSM := Lib.hid hsm
  clear hsm
  cases hg0 : decide ((30 : Int) < acts.length)
  case true =>
    go_wp2
    go_ret
    exact ⟨rfl, hx2⟩
  case false =>
  have hb0 : acts.length ≤ 30 := by have := of_decide_eq_false hg0; omega
  have hown0 := World.ownsRow_lit (base := w2.heap.size) (size := 3) (e := 40) w2 #[] 0 (Nat.le_refl _) (by simp [maxLen]) rfl
  have hxa : Ext w2 (w2.alloc (.cells #[] 40)) := (Ext.refl w2).alloc _
  have hR := (HP.out _ (hx2.trans hxa)).reads
  go_wp2_with (at_builtin; refine wpList_append_src _ rfl _ _ 22 rfl w2.heap.size 40 _ 3 32 Try.underlying22 infoPart rfl (by omega) (.slice (some ⟨w2.heap.size, 0, none⟩) 0 0) 0 [] rfl hown0 _ _ _ _ _ rfl hR (pts_plain _) (by simp [maxLen]; omega) (by omega) hxa.size ?_; intro v3 wd hown hm3; have hx3 := ext_moved hxa hown0 hm3; rw [Nat.zero_add, List.nil_append] at hown; obtain ⟨A3, c3, rfl, _⟩ := own_shape hown)
  have hx02 := hx2.trans hx3
  have HNW := Lib.hid (new_calls A3 c3 L _ (pat_of_own hown) (by omega))
  have hwd := hx02.size
  clear hown0 hxa hR hown hm3 hx3 hx2
  refine HNW.out.mono ?_
  rintro e wb hNP
  unfold NewPost at hNP
  clear HNW
  cases hok : okL L
  case false =>
    rw [hok, if_neg (by simp)] at hNP
    obtain ⟨hxb, rfl⟩ := hNP
    have hx0 := hx02.trans hxb
    have HRN := Lib.hid (rnew_calls A c L _ (HP.out _ hx0) (by omega))
    clear HP
    go_wp2_with fail
    refine HRN.out.mono ?_
    rintro e w5 ⟨hx5, he⟩
    rw [hok, if_neg (by simp)] at he
    subst he
    go_wp2
    go_ret
    exact ⟨rfl, (hx0.trans hx5).alloc _⟩
  case true =>
  rw [if_pos hok] at hNP
  obtain ⟨hxb, pb, rfl, hB0⟩ := hNP
  have HOK := Lib.hid (lok_of HSM.out hok)
  have HOL := Lib.hid hok
  have hx0 := hx02.trans hxb
  have hdb := hxb.size
  clear HSM hok hxb hx02
  have HRN := Lib.hid (rnew_calls A c L _ (HP.out _ hx0) (by omega))
  go_wp2_with fail
  refine HRN.out.mono ?_
  rintro e w5 ⟨hx5, he⟩
  rw [HOL.out, if_pos rfl] at he
  subst he
  have hm7 := heap_alloc_new w5 (.cells #[.slice A L.length c, .int .i64 0] 51)
  have hx7 := hx5.alloc (.cells #[.slice A L.length c, .int .i64 0] 51)
  have hINV : PlInv wd.heap.size wb.heap.size wb pb w5.heap.size (w5.alloc (.cells #[.slice A L.length c, .int .i64 0] 51)) := ⟨L, 0, A, c, hB0.out.ext hx7, HOK.out, ⟨Int.le_refl _, by have := lok_sum HOK.out; omega⟩, HP.out _ (hx0.trans hx7), hPc, hm7, fun h0 => (by
    have key : ∀ b o, A = some ⟨b, o, none⟩ → b < w.heap.size := fun b o e => by
      obtain ⟨b', o', e', p0, _⟩ := HP.out w (Ext.refl _) 0 h0
      rw [e] at e'
      cases e'
      exact block_of_cell p0
    have := hx5.size
    exact ⟨fun b o e => .inl (by have := key b o e; omega), fun b o e => by have := key b o e; omega⟩), Chg.of_ext hx7⟩
  have HINV := Lib.hid hINV
  have hm7b : wb.heap.size ≤ w5.heap.size := hx5.size
  have HX0 := Lib.hid hx0
  clear hINV hm7 HRN hx5 hx7 hB0 HOK HOL HP hPc hx0
  go_wp2_with fail
  generalize (w5.alloc (.cells #[.slice A L.length c, .int .i64 0] 51)) = w6 at *
  generalize w5.heap.size = m7 at *
  go_loopw [56] (fun i wr => ∃ k : Nat, k ≤ acts.length ∧ i = .int .i64 k ∧ Hid (PlInv wd.heap.size wb.heap.size wb pb m7 wr)) (fun i _ => acts.length - (intOf i).toNat)
  case atStart => exact ⟨0, Nat.zero_le _, rfl, HINV⟩
  case round =>
    clear HINV
    obtain ⟨k, hk, rfl, hinv⟩ := hrel
    obtain ⟨R, n, A1, c1, hB, hR, hn, hPA, hRc, hm, hO, hC⟩ := hinv.out
    have hxw : Ext w wr := hC.ext HX0.out hwd
    by_cases hlt : k < acts.length
    · obtain ⟨b, o, rfl, p0, p1, p2, hS, hSl⟩ := HACT.out k hlt
      replace p0 := hxw.cell p0
      replace p1 := hxw.cell p1
      replace p2 := hxw.cell p2
      replace hS := hS.ext hxw
      generalize acts[k] = ac at *
      rcases ac with ⟨ab, aA, ac, al, an⟩
      simp only at p0 p1 p2 hS hSl
      have HR := Lib.hid hR
      have HN := Lib.hid hn
      have hxa : Ext wr (wr.alloc (.cells #[.bool ab, .slice aA al.length ac, .int .i64 an] 64)) := (Ext.refl _).alloc _
      have ba := heap_alloc_new wr (.cells #[.bool ab, .slice aA al.length ac, .int .i64 an] 64)
      have hwrb : wb.heap.size ≤ wr.heap.size := hC.size
      have HB := Lib.hid (hB.ext hxa)
      have HPA := Lib.hid (hPA.ext hxa)
      have HS := Lib.hid (hS.ext hxa)
      have hma := hxa.block hm
      have HO := Lib.hid hO
      have HC := Lib.hid (hC.alloc_ (.cells #[.bool ab, .slice aA al.length ac, .int .i64 an] 64))
      have hm7r : m7 < wr.heap.size := (Array.getElem?_eq_some_iff.1 hm).1
      have hxwa := hxw.trans hxa
      clear hB hPA hS hO hC hm hR hn hinv
      cases hg : decide ((20 : Int) < al.length)
      case true =>
        go_wp2
        go_ret
        exact ⟨rfl, hxwa⟩
      case false =>
      have hal : al.length ≤ 20 := by have := of_decide_eq_false hg; omega
      go_wp2_with fail
      generalize (wr.alloc (.cells #[.bool ab, .slice aA al.length ac, .int .i64 an] 64)) = wa at *
      refine (refOfN_calls aA ac al _ HS.out (by omega)).mono ?_
      rintro e w8 ⟨A8, c8, rfl, hS8, hN8, hx8⟩
      have hO8 : OutA wd.heap.size wb.heap.size A8 := fun b o e => .inr (by have := hN8.out b o e; have := hxa.size; omega)
      have HO8 := Lib.hid hO8
      clear hN8 hO8
      have hof := of_length al
      have hnof := norm_of al
      replace ba := hx8.block ba
      replace hma := hx8.block hma
      replace HB := Lib.hid (HB.out.ext hx8)
      replace HPA := Lib.hid (HPA.out.ext hx8)
      replace HS := Lib.hid (HS.out.ext hx8)
      replace HC := Lib.hid (HC.out.trans (Chg.of_ext hx8))
      have t0 : w8.cell? ⟨wr.heap.size, 0, none⟩ = some (.bool ab) := by rw [cell_of_block ba]; rfl
      have t1 : w8.cell? ⟨wr.heap.size, 1, none⟩ = some (.slice aA al.length ac) := by rw [cell_of_block ba]; rfl
      have t2 : w8.cell? ⟨wr.heap.size, 2, none⟩ = some (.int .i64 an) := by rw [cell_of_block ba]; rfl
      have h8 : wr.heap.size < w8.heap.size := (Array.getElem?_eq_some_iff.1 ba).1
      have hS8o : 0 < (ofS al).length → ∀ b o, A8 = some ⟨b, o, none⟩ → b < w8.heap.size := fun h0 b o e => by
        obtain ⟨b', o', e', q0, _⟩ := hS8.out 0 h0
        rw [e] at e'
        cases e'
        exact block_of_cell q0
      have HNOF := Lib.hid hnof
      generalize hof2 : ofS al = SS at *
      have HOF2 := Lib.hid hof2
      clear hx8 hxa hxwa p0 p1 p2 hnof hof2
      have HBA := Lib.hid ba
      have HMA := Lib.hid hma
      clear ba hma
      go_upto_if 68 with (fail)
      go_cut [] from 69 to 114 (fun wx => Hid (PlInv wd.heap.size wb.heap.size wb pb m7 wx))
      case first =>
        have m0 : w8.cell? ⟨m7, 0, none⟩ = some (.slice A1 R.length c1) := by rw [cell_of_block HMA.out]; rfl
        have m1 : w8.cell? ⟨m7, 1, none⟩ = some (.int .i64 n) := by rw [cell_of_block HMA.out]; rfl
        cases ab
        case true =>
          have HSL := Lib.hid (sl_calls wd.heap.size wb.heap.size pb R n an _ HB.out (by have := HR.out.len; omega))
          go_wp2_with fail
          refine HSL.out.mono ?_
          rintro e w9 ⟨rfl, hB9, hC9⟩
          replace m0 := hC9.cell m0 (.inr hm7b)
          replace m1 := hC9.cell m1 (.inr hm7b)
          replace t2 := hC9.cell t2 (.inr (by dsimp only; omega))
          have HPA9 := Lib.hid (HPA.out.chg_ hC9 (fun h0 => (HO.out h0).1))
          have hm9 := (hC9.block m7 (by omega) (.inr hm7b)).trans HMA.out
          have HRS := Lib.hid (rsl_calls A1 c1 R n an w9 HPA9.out hRc (by have := HR.out.len; omega))
          have HC9 := Lib.hid (HC.out.trans hC9)
          have h9 := hC9.size
          have HSK := Lib.hid (seal_lok (x := an) HR.out)
          clear HSL hC9 t0 t1
          go_wp2_with fail
          refine HRS.out.mono ?_
          rintro e w10 ⟨A10, c10, rfl, hP10, hc10, hx10, hK10⟩
          obtain ⟨R2, hR2⟩ : ∃ R2, (sealS R an).1 = R2 := ⟨_, rfl⟩
          obtain ⟨er, her⟩ : ∃ er, (sealS R an).2 = er := ⟨_, rfl⟩
          rw [hR2] at hP10 hc10 hB9 HSK ⊢
          rw [her]
          have hm10 := hx10.block hm9
          have hB10 := Lib.hid (hB9.out.ext hx10)
          have HC10 := Lib.hid (HC9.out.trans (Chg.of_ext hx10))
          have h10 := hx10.size
          have hxa10 : Ext w10 (w10.alloc (.cells #[.slice A10 R2.length c10, .int .i64 n] 51)) := (Ext.refl _).alloc _
          have hm11 := hxa10.block hm10
          have u0 : (w10.alloc (.cells #[.slice A10 R2.length c10, .int .i64 n] 51)).cell? ⟨m7, 0, none⟩ = some (.slice A1 R.length c1) := by rw [cell_of_block hm11]; rfl
          have u1 : (w10.alloc (.cells #[.slice A10 R2.length c10, .int .i64 n] 51)).cell? ⟨m7, 1, none⟩ = some (.int .i64 n) := by rw [cell_of_block hm11]; rfl
          have uf : ∀ j, (w10.alloc (.cells #[.slice A10 R2.length c10, .int .i64 n] 51)).frozen? ⟨m7, j, none⟩ = false := fun j => frozen_of_block hm11 j
          have z0 : (w10.alloc (.cells #[.slice A10 R2.length c10, .int .i64 n] 51)).cell? ⟨w10.heap.size, 0, none⟩ = some (.slice A10 R2.length c10) := by rw [cell_of_block (heap_alloc_new _ _)]; rfl
          have z1 : (w10.alloc (.cells #[.slice A10 R2.length c10, .int .i64 n] 51)).cell? ⟨w10.heap.size, 1, none⟩ = some (.int .i64 n) := by rw [cell_of_block (heap_alloc_new _ _)]; rfl
          have hI : PlInv wd.heap.size wb.heap.size wb pb m7 (((w10.alloc (.cells #[.slice A10 R2.length c10, .int .i64 n] 51)).setCell ⟨m7, 0, none⟩ (.slice A10 R2.length c10)).setCell ⟨m7, 1, none⟩ (.int .i64 n)) := by
            have hOA : 0 < R2.length → OutA wd.heap.size wb.heap.size A10 ∧ ∀ b o, A10 = some ⟨b, o, none⟩ → b ≠ m7 := fun h0 => by
              have hR0 : 0 < R.length := by
                rcases R with _ | ⟨_, _⟩
                · rw [← hR2] at h0
                  exact absurd h0 (by simp [sealS])
                · simp
              rcases hK10.out with rfl | hK
              · exact HO.out hR0
              · exact ⟨fun b o e => .inr (by have := hK b o e; omega), fun b o e => by have := hK b o e; omega⟩
            refine ⟨R2, n, A10, c10, ((hB10.out.ext hxa10).set_ hm7b _).set_ hm7b _, HSK.out.1, ⟨HN.out.1, by have := HSK.out.2; have := HN.out.2; omega⟩, ?_, hc10, ?_, hOA, ((HC10.out.alloc_ _).set_ (.inr hm7b) _).set_ (.inr hm7b) _⟩
            · intro k hk
              exact (((hP10.out.ext hxa10).set_ (hOA (by omega)).2 _).set_ (hOA (by omega)).2 _) k hk
            · rw [heap_setCell_same _ _ _ _ _ _ (heap_setCell_same _ _ _ _ _ _ hm11)]; rfl
          have HI := Lib.hid hI
          clear hI hR2 her hm9 hm10 hm11 HRS hP10 hc10 hx10 hK10 hxa10
          go_wp2_with fail
          go_meet
          exact HI
        case false =>
          obtain ⟨X, hX⟩ : ∃ X, nextR R n SS an = X := ⟨_, rfl⟩
          have HXO := Lib.hid (nextR_ok (S := SS) (most := an) HR.out HN.out)
          rw [hX] at HXO
          have HX := Lib.hid hX
          rcases X with ⟨R2, n2, ⟨qs, qf, qt⟩, bb⟩
          simp only at HXO
          have HNU : Hid (∀ W A c, BodyAt wd.heap.size wb.heap.size W pb (R.map Pt.nz) n → SAt W A SS → wb.heap.size ≤ W.heap.size → Calls Try.prog 16 #[.pointer (some ⟨pb, 0, none⟩), .agg #[.slice A SS.length c], .int .i64 an] W fun e w' => e = .returned (.tuple #[.agg #[.string ⟨qs.toArray⟩, .int .i64 qf, .int .i64 qt], .bool bb]) ∧ Hid (BodyAt wd.heap.size wb.heap.size w' pb (R2.map Pt.nz) n2) ∧ Chg wd.heap.size wb.heap.size W w') := Lib.hid fun W A c h1 h2 h3 => by
            have h := nu_calls wd.heap.size wb.heap.size pb R n A c SS an W h1 h2 HNOF.out (by omega) HR.out.rok HN.out h3
            rw [HX.out] at h
            exact h
          have HOFC : Hid (∀ W, SAt W aA al → Calls Try.prog 13 #[.slice aA al.length ac] W fun e w' => ∃ A c, e = .returned (.agg #[.slice A SS.length c]) ∧ Hid (SAt w' A SS) ∧ Ext W w') := Lib.hid fun W h => (of_calls aA ac al W h (by omega)).mono fun e w' hp => by
            obtain ⟨A, c, he, h1, _, h2⟩ := hp
            rw [HOF2.out] at he h1
            exact ⟨A, c, he, h1, h2⟩
          have hbx0 := heap_alloc_new w8 (.cells #[.string ⟨#[]⟩, .int .i64 0, .int .i64 0] 40)
          have HE := Lib.hid (Ext.refl w8).drew
          have HEa := Lib.hid ((Ext.refl w8).alloc (.cells #[.string ⟨#[]⟩, .int .i64 0, .int .i64 0] 40)).drew
          have HBX := Lib.hid hbx0
          have keep : Hid (∀ W, Chg wd.heap.size wb.heap.size w8 W → W.cell? ⟨wr.heap.size, 1, none⟩ = some (.slice aA al.length ac) ∧ W.cell? ⟨wr.heap.size, 2, none⟩ = some (.int .i64 an)) := Lib.hid fun W hx => ⟨hx.cell t1 (.inr hwrb), hx.cell t2 (.inr hwrb)⟩
          have HCE := Lib.hid (Chg.of_ext (lo := wd.heap.size) (hi := wb.heap.size) HE.out)
          have HCEa := Lib.hid (Chg.of_ext (lo := wd.heap.size) (hi := wb.heap.size) HEa.out)
          have hwb8 : wb.heap.size ≤ w8.heap.size := by omega
          clear hX hbx0 t0
          go_upto_region 23 with (fail)
          go_cut [15, 16] from 84 to 93 (fun v u wx => NBox wd.heap.size wb.heap.size w8 ⟨qs, qf, qt⟩ pb R2 n2 v wx ∧ u = .bool bb)
          case first =>
            refine wp_region_noPanic ?_
            go_region_held3 (fun W => W.cell? ⟨wr.heap.size, 1, none⟩ = some (.slice aA al.length ac) ∧ W.cell? ⟨wr.heap.size, 2, none⟩ = some (.int .i64 an))
              ((with_reducible refine keep.out _ ?_; (repeat' with_reducible first | exact HCE.out | exact HCEa.out | exact hC3 | exact hC84 | exact hC9 _ _ _ | exact hC10 _ _ _ | exact Chg.refl _ _ _ | refine Chg.drew_ ?_ | refine Chg.alloc_ ?_ _)))
              (first
               | (go_at_call 13
                  refine (HOFC.out _ (by first | exact HS.out.ext HEa.out | exact HS.out.ext HE.out)).mono ?_
                  rintro e w3 ⟨A9, c9, rfl, hS3, hx3⟩
                  (first
                    | (have hE3 : Ext w8 w3 := HE.out.trans hx3)
                    | (have hE3 : Ext w8 w3 := HEa.out.trans hx3
                       have bx3 : w3.heap[w8.heap.size]? = some (.cells #[.string ⟨#[]⟩, .int .i64 0, .int .i64 0] 40 (0, 0)) := hx3.block HBX.out))
                  have hC3 : Chg wd.heap.size wb.heap.size w8 w3 := Chg.of_ext hE3)
               | (go_at_call 16
                  (first
                   | (refine (HNU.out w3 A9 c9 (HB.out.ext hE3) hS3.out (Nat.le_trans hwb8 hE3.size)).mono ?_
                      rintro e w4 ⟨rfl, hB4, hC4⟩
                      have hC84 := hC3.trans hC4
                      have bx4 : w4.heap[w8.heap.size]? = some (.cells #[.string ⟨#[]⟩, .int .i64 0, .int .i64 0] 40 (0, 0)) := (hC4.block w8.heap.size (Array.getElem?_eq_some_iff.1 bx3).1 (.inr hwb8)).trans bx3
                      have hbge : w8.heap.size ≤ w8.heap.size := Nat.le_refl _
                      have hC10 : ∀ u v r, Chg wd.heap.size wb.heap.size w8 (((w4.setCell ⟨w8.heap.size, 0, none⟩ u).setCell ⟨w8.heap.size, 1, none⟩ v).setCell ⟨w8.heap.size, 2, none⟩ r) := fun u v r => ((hC84.set_ (.inr (Nat.le_refl _)) u).set_ (.inr (Nat.le_refl _)) v).set_ (.inr (Nat.le_refl _)) r
                      have q0 : w4.cell? ⟨w8.heap.size, 0, none⟩ = some (.string ⟨#[]⟩) := (by rw [cell_of_block bx4]; rfl)
                      have q1 : w4.cell? ⟨w8.heap.size, 1, none⟩ = some (.int .i64 0) := (by rw [cell_of_block bx4]; rfl)
                      have q2 : w4.cell? ⟨w8.heap.size, 2, none⟩ = some (.int .i64 0) := (by rw [cell_of_block bx4]; rfl)
                      have z0 : w4.frozen? ⟨w8.heap.size, 0, none⟩ = false := frozen_of_block bx4 0
                      have z1 : w4.frozen? ⟨w8.heap.size, 1, none⟩ = false := frozen_of_block bx4 1
                      have z2 : w4.frozen? ⟨w8.heap.size, 2, none⟩ = false := frozen_of_block bx4 2)
                   | (refine (HNU.out w3 A9 c9 (HB.out.ext hE3) hS3.out (Nat.le_trans hwb8 hE3.size)).mono ?_
                      rintro e w4 ⟨rfl, hB4, hC4⟩
                      have hC84 := hC3.trans hC4
                      have hC9 : ∀ u v r, Chg wd.heap.size wb.heap.size w8 ((((w4.alloc (.cells #[.string ⟨#[]⟩, .int .i64 0, .int .i64 0] 40)).setCell ⟨w4.heap.size, 0, none⟩ u).setCell ⟨w4.heap.size, 1, none⟩ v).setCell ⟨w4.heap.size, 2, none⟩ r) := fun u v r => (((hC84.alloc_ _).set_ (.inr hC84.size) u).set_ (.inr hC84.size) v).set_ (.inr hC84.size) r)
                   | (refine (HNU.out (w3.alloc (.cells #[.string ⟨#[]⟩, .int .i64 0, .int .i64 0] 40)) A9 c9 ((HB.out.ext hE3).ext ((Ext.refl w3).alloc _)) (hS3.out.ext ((Ext.refl w3).alloc _)) (Nat.le_trans hwb8 (hE3.alloc _).size)).mono ?_
                      rintro e w4 ⟨rfl, hB4, hC4⟩
                      have hC84 := (hC3.alloc_ (.cells #[.string ⟨#[]⟩, .int .i64 0, .int .i64 0] 40)).trans hC4
                      have bx4 : w4.heap[w3.heap.size]? = some (.cells #[.string ⟨#[]⟩, .int .i64 0, .int .i64 0] 40 (0, 0)) := (hC4.block w3.heap.size (Array.getElem?_eq_some_iff.1 (heap_alloc_new w3 (.cells #[.string ⟨#[]⟩, .int .i64 0, .int .i64 0] 40))).1 (.inr (Nat.le_trans hwb8 hE3.size))).trans (heap_alloc_new w3 (.cells #[.string ⟨#[]⟩, .int .i64 0, .int .i64 0] 40))
                      have hbge : w8.heap.size ≤ w3.heap.size := hE3.size
                      have hC10 : ∀ u v r, Chg wd.heap.size wb.heap.size w8 (((w4.setCell ⟨w3.heap.size, 0, none⟩ u).setCell ⟨w3.heap.size, 1, none⟩ v).setCell ⟨w3.heap.size, 2, none⟩ r) := fun u v r => ((hC84.set_ (.inr hE3.size) u).set_ (.inr hE3.size) v).set_ (.inr hE3.size) r
                      have q0 : w4.cell? ⟨w3.heap.size, 0, none⟩ = some (.string ⟨#[]⟩) := (by rw [cell_of_block bx4]; rfl)
                      have q1 : w4.cell? ⟨w3.heap.size, 1, none⟩ = some (.int .i64 0) := (by rw [cell_of_block bx4]; rfl)
                      have q2 : w4.cell? ⟨w3.heap.size, 2, none⟩ = some (.int .i64 0) := (by rw [cell_of_block bx4]; rfl)
                      have z0 : w4.frozen? ⟨w3.heap.size, 0, none⟩ = false := frozen_of_block bx4 0
                      have z1 : w4.frozen? ⟨w3.heap.size, 1, none⟩ = false := frozen_of_block bx4 1
                      have z2 : w4.frozen? ⟨w3.heap.size, 2, none⟩ = false := frozen_of_block bx4 2))))
            all_goals refine noPanic_intro ?_
            all_goals go_wp2_with fail
            all_goals go_meet
            all_goals first
              | exact ⟨nbox_set hbge hwb8 bx4 hB4.out hC84, rfl⟩
              | exact ⟨nbox_new hwb8 hB4.out hC84, rfl⟩
              | exact ⟨nbox_set hC84.size hwb8 (heap_alloc_new w4 (.cells #[.string ⟨#[]⟩, .int .i64 0, .int .i64 0] 40)) (hB4.out.ext ((Ext.refl w4).alloc _)) (hC84.alloc_ _), rfl⟩
          case rest =>
            obtain ⟨⟨xb, rfl, hxb, hNB⟩, rfl⟩ := hcut
            obtain ⟨bx, hB9, hC9⟩ := hNB.out
            have hzc := hC9.size
            replace m0 := hC9.cell m0 (.inr hm7b)
            replace m1 := hC9.cell m1 (.inr hm7b)
            replace t2 := hC9.cell t2 (.inr hwrb)
            have x0 : wc.cell? ⟨xb, 0, none⟩ = some (.string ⟨qs.toArray⟩) := by rw [cell_of_block bx]; rfl
            have x1 : wc.cell? ⟨xb, 1, none⟩ = some (.int .i64 qf) := by rw [cell_of_block bx]; rfl
            have x2 : wc.cell? ⟨xb, 2, none⟩ = some (.int .i64 qt) := by rw [cell_of_block bx]; rfl
            have HPA9 := Lib.hid (HPA.out.chg_ hC9 (fun h0 => (HO.out h0).1))
            have hm9 := (hC9.block m7 (by omega) (.inr hm7b)).trans HMA.out
            have hRN := rnx_calls A1 c1 R n A8 c8 SS an wc HPA9.out hRc (hS8.out.chg hC9 HO8.out) HNOF.out (by omega) HR.out.rok HN.out
            rw [HX.out] at hRN
            have HRN : Hid (Calls Try.prog 29 #[.agg #[.slice A1 R.length c1, .int .i64 n], .slice A8 SS.length c8, .int .i64 an] wc fun e w' => ∃ A c, e = .returned (.tuple #[.agg #[.slice A R2.length c, .int .i64 n2], .agg #[.string ⟨qs.toArray⟩, .int .i64 qf, .int .i64 qt], .bool bb]) ∧ Hid (PAt w' A R2 ∧ R2.length ≤ c ∧ (A = A1 ∨ NewA wc A)) ∧ Ext wc w') := Lib.hid (hRN.mono fun e w' ⟨A, c, he, h1, h2, h3, h4⟩ => ⟨A, c, he, Lib.hid ⟨h1.out, h2, h4.out⟩, h3⟩)
            have HB9 := Lib.hid hB9
            have HC9 := Lib.hid (HC.out.trans hC9)
            have HBX9 := Lib.hid bx
            have hR0 : 0 < R2.length → 0 < R.length := fun h0 => by
              rcases R with _ | ⟨_, _⟩
              · have := HX.out
                rw [nextR_none rfl] at this
                cases this
                exact absurd h0 (by simp)
              · simp
            have HR0 := Lib.hid hR0
            have hxc8 : w8.heap.size ≤ wc.heap.size := hC9.size
            clear hRN hNB bx hB9 hC9 hR0 t1 HNU HOFC HE HEa HBX keep HCE HCEa
            go_wp2_with fail
            refine HRN.out.mono ?_
            rintro e w10 ⟨A10, c10, rfl, hP10, hx10⟩
            have hm10 := hx10.block hm9
            have hB10 := Lib.hid (HB9.out.ext hx10)
            have HC10 := Lib.hid (HC9.out.trans (Chg.of_ext hx10))
            have h10 := hx10.size
            have hbx10 := hx10.block HBX9.out
            have hxa10 : Ext w10 ((w10.alloc (.cells #[.slice A10 R2.length c10, .int .i64 n2] 51)).alloc (.cells #[.string ⟨qs.toArray⟩, .int .i64 qf, .int .i64 qt] 40)) := ((Ext.refl _).alloc _).alloc _
            have hm11 := hxa10.block hm10
            have hbx11 := hxa10.block hbx10
            have hz11 := ((Ext.refl _).alloc (.cells #[.string ⟨qs.toArray⟩, .int .i64 qf, .int .i64 qt] 40)).block (heap_alloc_new w10 (.cells #[.slice A10 R2.length c10, .int .i64 n2] 51))
            have hq11 : ((w10.alloc (.cells #[.slice A10 R2.length c10, .int .i64 n2] 51)).alloc (.cells #[.string ⟨qs.toArray⟩, .int .i64 qf, .int .i64 qt] 40)).heap[w10.heap.size + 1]? = some (.cells #[.string ⟨qs.toArray⟩, .int .i64 qf, .int .i64 qt] 40 (0, 0)) := by
              have := heap_alloc_new (w10.alloc (.cells #[.slice A10 R2.length c10, .int .i64 n2] 51)) (.cells #[.string ⟨qs.toArray⟩, .int .i64 qf, .int .i64 qt] 40)
              simpa using this
            clear HRN m0 m1 t2 x0 x1 x2
            go_upto_region 25 with (fail)
            generalize ((w10.alloc (.cells #[.slice A10 R2.length c10, .int .i64 n2] 51)).alloc (.cells #[.string ⟨qs.toArray⟩, .int .i64 qf, .int .i64 qt] 40)) = w11 at *
            have u0 : w11.cell? ⟨m7, 0, none⟩ = some (.slice A1 R.length c1) := by rw [cell_of_block hm11]; rfl
            have u1 : w11.cell? ⟨m7, 1, none⟩ = some (.int .i64 n) := by rw [cell_of_block hm11]; rfl
            have uf : ∀ j, w11.frozen? ⟨m7, j, none⟩ = false := fun j => frozen_of_block hm11 j
            have z0 : w11.cell? ⟨w10.heap.size, 0, none⟩ = some (.slice A10 R2.length c10) := by rw [cell_of_block hz11]; rfl
            have z1 : w11.cell? ⟨w10.heap.size, 1, none⟩ = some (.int .i64 n2) := by rw [cell_of_block hz11]; rfl
            have n1 : m7 ≠ xb := by omega
            have n2' : m7 ≠ w10.heap.size + 1 := by omega
            have hI : PlInv wd.heap.size wb.heap.size wb pb m7 ((w11.setCell ⟨m7, 0, none⟩ (.slice A10 R2.length c10)).setCell ⟨m7, 1, none⟩ (.int .i64 n2)) := by
              obtain ⟨hP2, hc2, hK2⟩ := hP10.out
              have hOA : 0 < R2.length → OutA wd.heap.size wb.heap.size A10 ∧ ∀ b o, A10 = some ⟨b, o, none⟩ → b ≠ m7 := fun h0 => by
                rcases hK2 with rfl | hK
                · exact HO.out (HR0.out h0)
                · exact ⟨fun b o e => .inr (by have := hK b o e; omega), fun b o e => by have := hK b o e; omega⟩
              refine ⟨R2, n2, A10, c10, ((hB10.out.ext hxa10).set_ hm7b _).set_ hm7b _, HXO.out.1, HXO.out.2, ?_, hc2, ?_, hOA, ((HC10.out.trans (Chg.of_ext hxa10)).set_ (.inr hm7b) _).set_ (.inr hm7b) _⟩
              · intro k hk
                exact (((hP2.ext hxa10).set_ (hOA (by omega)).2 _).set_ (hOA (by omega)).2 _) k hk
              · rw [heap_setCell_same _ _ _ _ _ _ (heap_setCell_same _ _ _ _ _ _ hm11)]; rfl
            have hbx12 : ((w11.setCell ⟨m7, 0, none⟩ (.slice A10 R2.length c10)).setCell ⟨m7, 1, none⟩ (.int .i64 n2)).heap[xb]? = some (.cells #[.string ⟨qs.toArray⟩, .int .i64 qf, .int .i64 qt] 40 (0, 0)) := (Below.heap_setCell _ _ _ xb n1.symm).trans ((Below.heap_setCell _ _ _ xb n1.symm).trans hbx11)
            have hbq12 : ((w11.setCell ⟨m7, 0, none⟩ (.slice A10 R2.length c10)).setCell ⟨m7, 1, none⟩ (.int .i64 n2)).heap[w10.heap.size + 1]? = some (.cells #[.string ⟨qs.toArray⟩, .int .i64 qf, .int .i64 qt] 40 (0, 0)) := (Below.heap_setCell _ _ _ _ n2'.symm).trans ((Below.heap_setCell _ _ _ _ n2'.symm).trans hq11)
            have HI := Lib.hid hI
            clear hI hm9 hm10 hm11 hbx10 hbx11 hz11 hq11 hP10 hx10 hxa10 n1 n2'
            go_upto_region 26 with (fail)
            generalize ((w11.setCell ⟨m7, 0, none⟩ (.slice A10 R2.length c10)).setCell ⟨m7, 1, none⟩ (.int .i64 n2)) = w12 at *
            have x0 : w12.cell? ⟨xb, 0, none⟩ = some (.string ⟨qs.toArray⟩) := by rw [cell_of_block hbx12]; rfl
            have x1 : w12.cell? ⟨xb, 1, none⟩ = some (.int .i64 qf) := by rw [cell_of_block hbx12]; rfl
            have x2 : w12.cell? ⟨xb, 2, none⟩ = some (.int .i64 qt) := by rw [cell_of_block hbx12]; rfl
            have hxr : Ext w12 (w12.alloc (.cells #[.string ⟨qs.toArray⟩, .int .i64 qf, .int .i64 qt] 40)) := (Ext.refl _).alloc _
            have y0 : (w12.alloc (.cells #[.string ⟨qs.toArray⟩, .int .i64 qf, .int .i64 qt] 40)).cell? ⟨w10.heap.size + 1, 0, none⟩ = some (.string ⟨qs.toArray⟩) := hxr.cell (by rw [cell_of_block hbq12]; rfl)
            have y1 : (w12.alloc (.cells #[.string ⟨qs.toArray⟩, .int .i64 qf, .int .i64 qt] 40)).cell? ⟨w10.heap.size + 1, 1, none⟩ = some (.int .i64 qf) := hxr.cell (by rw [cell_of_block hbq12]; rfl)
            have y2 : (w12.alloc (.cells #[.string ⟨qs.toArray⟩, .int .i64 qf, .int .i64 qt] 40)).cell? ⟨w10.heap.size + 1, 2, none⟩ = some (.int .i64 qt) := hxr.cell (by rw [cell_of_block hbq12]; rfl)
            have ho1 := World.ownsRow_lit (base := w12.heap.size) (size := 3) (e := 40) w12 #[.string ⟨qs.toArray⟩, .int .i64 qf, .int .i64 qt] 1 (Nat.le_refl _) (by simp [maxLen]) rfl
            have ho2 := World.ownsRow_lit (base := w12.heap.size) (size := 3) (e := 40) (w12.alloc (.cells #[.string ⟨qs.toArray⟩, .int .i64 qf, .int .i64 qt] 40)) #[.string ⟨qs.toArray⟩, .int .i64 qf, .int .i64 qt] 1 hxr.size (by simp [maxLen]) rfl
            have hs12 : (w12.alloc (.cells #[.string ⟨qs.toArray⟩, .int .i64 qf, .int .i64 qt] 40)).heap.size = w12.heap.size + 1 := by simp
            have hPA1 : PAt ((w12.alloc (.cells #[.string ⟨qs.toArray⟩, .int .i64 qf, .int .i64 qt] 40)).alloc (.cells #[.string ⟨qs.toArray⟩, .int .i64 qf, .int .i64 qt] 40)) (some ⟨w12.heap.size, 0, none⟩) [⟨qs, qf, qt⟩] := (pat_of_own (l := [⟨qs, qf, qt⟩]) ho1).ext ((Ext.refl _).alloc _)
            have hPA2 : PAt ((w12.alloc (.cells #[.string ⟨qs.toArray⟩, .int .i64 qf, .int .i64 qt] 40)).alloc (.cells #[.string ⟨qs.toArray⟩, .int .i64 qf, .int .i64 qt] 40)) (some ⟨(w12.alloc (.cells #[.string ⟨qs.toArray⟩, .int .i64 qf, .int .i64 qt] 40)).heap.size, 0, none⟩) [⟨qs, qf, qt⟩] := pat_of_own (l := [⟨qs, qf, qt⟩]) ho2
            rw [hs12] at hPA2
            have HSAME : Hid (Calls Try.prog 18 #[.slice (some ⟨w12.heap.size, 0, none⟩) 1 1, .slice (some ⟨w12.heap.size + 1, 0, none⟩) 1 1] ((w12.alloc (.cells #[.string ⟨qs.toArray⟩, .int .i64 qf, .int .i64 qt] 40)).alloc (.cells #[.string ⟨qs.toArray⟩, .int .i64 qf, .int .i64 qt] 40)) fun e w' => e = .returned (.bool true) ∧ Ext ((w12.alloc (.cells #[.string ⟨qs.toArray⟩, .int .i64 qf, .int .i64 qt] 40)).alloc (.cells #[.string ⟨qs.toArray⟩, .int .i64 qf, .int .i64 qt] 40)) w') := Lib.hid (rsame_calls _ _ 1 1 [⟨qs, qf, qt⟩] _ hPA1 hPA2 (by simp))
            have hxrr := hxr.alloc (.cells #[.string ⟨qs.toArray⟩, .int .i64 qf, .int .i64 qt] 40)
            clear ho1 ho2 hs12 hPA1 hPA2 hbx12 hbq12 u0 u1 uf z0 z1 hxr
            go_wp2_with fail
            refine HSAME.out.mono ?_
            rintro e w14 ⟨rfl, hx14⟩
            have hI2 : PlInv wd.heap.size wb.heap.size wb pb m7 w14 := by
              obtain ⟨R3, n3, A3', c3', hB3, hR3, hn3, hP3, hRc3, hm3, hO3, hC3⟩ := HI.out
              have hx := hxrr.trans hx14
              exact ⟨R3, n3, A3', c3', hB3.ext hx, hR3, hn3, hP3.ext hx, hRc3, hx.block hm3, hO3, hC3.trans (Chg.of_ext hx)⟩
            have HI3 := Lib.hid hI2
            clear hI2 HI HSAME x0 x1 x2 y0 y1 y2 hxrr hx14
            go_wp2_with fail
            go_meet
            exact HI3
      case rest =>
        obtain ⟨R2, n2, A2, c2, hB2, hR2, hn2, hP2, hRc2, hm2, hO2, hC2⟩ := hcut.out
        have HSM := Lib.hid (same_calls wd.heap.size wb.heap.size pb R2 n2 A2 c2 _ hB2 hP2 hR2)
        have m0 : wc.cell? ⟨m7, 0, none⟩ = some (.slice A2 R2.length c2) := by rw [cell_of_block hm2]; rfl
        have m1 : wc.cell? ⟨m7, 1, none⟩ = some (.int .i64 n2) := by rw [cell_of_block hm2]; rfl
        clear hB2 hR2 hn2 hP2 hRc2 hm2 hO2 hC2 t0 t1 t2
        go_wp2_with fail
        refine HSM.out.mono ?_
        rintro e wy ⟨rfl, hxy⟩
        have hI2 : PlInv wd.heap.size wb.heap.size wb pb m7 wy := by
          obtain ⟨R2, n2, A2, c2, hB2, hR2, hn2, hP2, hRc2, hm2, hO2, hC2⟩ := hcut.out
          exact ⟨R2, n2, A2, c2, hB2.ext hxy, hR2, hn2, hP2.ext hxy, hRc2, hxy.block hm2, hO2, hC2.trans (Chg.of_ext hxy)⟩
        have HI2 := Lib.hid hI2
        clear hI2 hcut HSM m0 m1 hxy
        go_wp2
        go_roundw
        case rel => first | exact ⟨k + 1, by omega, by go_num, HI2⟩ | ((repeat apply Exists.intro); exact ⟨⟨k + 1, by omega, by go_num, HI2⟩, rfl⟩)
        case measure => simp [intOf]; omega
    · obtain rfl : k = acts.length := by omega
      clear hB hPA hO hC hm hR hn hinv
      go_wp2
      go_ret
      exact ⟨rfl, hxw⟩
end Go.Proofs.Ytcdokpkffbigdaa
