/- The contract of the reference's Right. -/
import Derived.Test.YtdcdnnbijjcfmaaWhl
import Derived.Test.YtdcdnnbijjcfmaaPln
namespace Go.Proofs.Ytdcdnnbijjcfmaa
open Go.RowKit

/-- Are fetches, from a byte on, each one that may be, and rising? -/
def rightGo (U F : List Sp) (n : Int) (c : Cf) : Int → List Sp → Bool
  | _, [] => true
  | at_, s :: l => fetchB s U F n c && decide (at_ ≤ s.f) && rightGo U F n c s.t l
def rightR (l U F : List Sp) (n : Int) (c : Cf) : Bool := okB n c && rightGo U F n c 0 l && !heldB U F && (lessS U (ofS l)).length == 0

set_option maxHeartbeats 8000000 in
set_option maxRecDepth 100000 in
theorem refRight_calls (L : Option Addr) (cl : Nat) (l : List Sp) (A : Option Addr) (ca : Nat) (g : List Sp) (B : Option Addr) (d : Nat) (F : List Sp) (n : Int) (c : Cf) (w : World) (hl : SAt w L l) (hg : SAt w A g) (hF : SAt w B F) (ng : Norm g) (nF : Norm F) (hll : l.length ≤ 1000) (hlg : g.length ≤ 50000) (hlF : F.length ≤ 100000) :
    Calls Try.prog 18 #[.slice L l.length cl, .slice A g.length ca, .slice B F.length d, .int .i64 n, .agg c.cells.toArray] w fun e w' => e = .returned (.bool (rightR l (unitsS g n c.u) F n c)) ∧ Ext w w' := by
  have hx0 : Ext w (w.alloc (.cells c.cells.toArray 24)) := (Ext.refl w).alloc _
  have bC := heap_alloc_new w (.cells c.cells.toArray 24)
  have hd : rightR l (unitsS g n c.u) F n c = (okB n c && rightGo (unitsS g n c.u) F n c 0 l && !heldB (unitsS g n c.u) F && (lessS (unitsS g n c.u) (ofS l)).length == 0) := rfl
  have HAO := Lib.hid (fun W => argOk_calls n c W)
  have HUR := Lib.hid (fun W (hW : SAt W A g) => unitsR_calls A ca g n c.u W hW ng (by omega))
  have hUl := units_len ng n c.u
  have hUN : Norm (unitsS g n c.u) := units_norm g n c.u
  have HFE := Lib.hid (fun f t W A' a' (hA : SAt W A' (unitsS g n c.u)) (hB : SAt W B F) (hu : 4 ≤ c.u ∧ c.u ≤ 1048576) => fetch_calls f t A' a' (unitsS g n c.u) B d F n c W hA hB hUN (by omega) hlF hu.1 hu.2)
  have HHE := Lib.hid (fun W A' a' (hA : SAt W A' (unitsS g n c.u)) (hB : SAt W B F) => held_calls A' a' (unitsS g n c.u) B d F W hA hB hUN nF (by omega) hlF)
  have hLE := fun W A' a' (hA : SAt W A' (unitsS g n c.u)) (hL : SAt W L l) => refLess_calls A' a' (unitsS g n c.u) L cl l W hA hL (by omega) (by omega)
  rw [of_norm hUN] at hLE
  have HLE := Lib.hid hLE
  have hub : okB n c = true → 4 ≤ c.u ∧ c.u ≤ 1048576 := fun h => by simp [okB, measB] at h; exact unit_bound h.1.1.1
  generalize rightR l (unitsS g n c.u) F n c = R at *
  generalize unitsS g n c.u = U at *
  have hgo : ∀ at_ s r, rightGo U F n c at_ (s :: r) = (fetchB s U F n c && decide (at_ ≤ s.f) && rightGo U F n c s.t r) := fun _ _ _ => rfl
  have hgn : ∀ at_, rightGo U F n c at_ [] = true := fun _ => rfl
  obtain ⟨ok, hok⟩ : ∃ ok, okB n c = ok := ⟨_, rfl⟩
  obtain ⟨hb, hhb⟩ : ∃ hb, heldB U F = hb := ⟨_, rfl⟩
  rw [hok] at hd hub HAO
  rw [hhb] at hd HHE
  obtain ⟨u, wa, mo, r3, r4, r5, r6, r7, r8, r9⟩ := c
  change Hid (∀ W, Calls Try.prog 34 #[.int .i64 n, .agg #[.int .i64 u, .int .i64 wa, .int .i64 mo, .int .i64 r3, .int .i64 r4, .int .i64 r5, .int .i64 r6, .int .i64 r7, .int .i64 r8, .int .i64 r9]] W fun e w' => e = .returned (.bool ok) ∧ Ext W w') at HAO
  simp only at hub HUR
  change (w.alloc (.cells #[.int .i64 u, .int .i64 wa, .int .i64 mo, .int .i64 r3, .int .i64 r4, .int .i64 r5, .int .i64 r6, .int .i64 r7, .int .i64 r8, .int .i64 r9] 24)).heap[w.heap.size]? = some (.cells #[.int .i64 u, .int .i64 wa, .int .i64 mo, .int .i64 r3, .int .i64 r4, .int .i64 r5, .int .i64 r6, .int .i64 r7, .int .i64 r8, .int .i64 r9] 24 (0, 0)) at bC
  change Ext w (w.alloc (.cells #[.int .i64 u, .int .i64 wa, .int .i64 mo, .int .i64 r3, .int .i64 r4, .int .i64 r5, .int .i64 r6, .int .i64 r7, .int .i64 r8, .int .i64 r9] 24)) at hx0
  show Calls Try.prog 18 #[.slice L l.length cl, .slice A g.length ca, .slice B F.length d, .int .i64 n, .agg #[.int .i64 u, .int .i64 wa, .int .i64 mo, .int .i64 r3, .int .i64 r4, .int .i64 r5, .int .i64 r6, .int .i64 r7, .int .i64 r8, .int .i64 r9]] w fun e w' => e = .returned (.bool R) ∧ Ext w w'
  have HFE2 : Hid (4 ≤ u ∧ u ≤ 1048576 → ∀ s : Sp, ∃ fb, fetchB s U F n ⟨u, wa, mo, r3, r4, r5, r6, r7, r8, r9⟩ = fb ∧ ∀ W A' a', SAt W A' U → SAt W B F → Calls Try.prog 37 #[.agg #[.int .i64 s.f, .int .i64 s.t], .slice A' U.length a', .slice B F.length d, .int .i64 n, .agg #[.int .i64 u, .int .i64 wa, .int .i64 mo, .int .i64 r3, .int .i64 r4, .int .i64 r5, .int .i64 r6, .int .i64 r7, .int .i64 r8, .int .i64 r9]] W fun e w' => e = .returned (.bool fb) ∧ Ext W w') := Lib.hid fun hu s => ⟨_, rfl, fun W A' a' hA hB => HFE.out s.f s.t W A' a' hA hB hu⟩
  have HD := Lib.hid hd
  have HGO := Lib.hid hgo
  have HGN := Lib.hid hgn
  have HUB := Lib.hid hub
  have HHB := Lib.hid hhb
  have HOK := Lib.hid hok
  clear hd hgo hgn hub HFE hLE hhb hok
  go_enter Try.func18, Try.ntmps18
  go_wp2_with fail
  generalize (w.alloc (.cells #[.int .i64 u, .int .i64 wa, .int .i64 mo, .int .i64 r3, .int .i64 r4, .int .i64 r5, .int .i64 r6, .int .i64 r7, .int .i64 r8, .int .i64 r9] 24)) = w1 at *
  refine (HAO.out _).mono ?_
  rintro e w2 ⟨rfl, hx2⟩
  cases ok
  · have HR : Hid (R = false) := Lib.hid (by rw [HD.out]; rfl)
    go_wp2
    go_ret
    exact ⟨by rw [HR.out]; rfl, hx0.trans hx2⟩
  · have hu := HUB.out (by simp)
    have hw2 := hx0.trans hx2
    have bC2 := hx2.block bC
    have c0 : w2.cell? ⟨w.heap.size, 0, none⟩ = some (.int .i64 u) := by rw [cell_of_block bC2]; rfl
    have HU2 := Lib.hid (HUR.out w2 (hg.ext hw2))
    clear HUR HAO hg HUB bC hx2
    go_wp2_with fail
    refine HU2.out.mono ?_
    rintro e w3 ⟨A3, c3, rfl, HS3, _, hx3⟩
    have hw3 := hw2.trans hx3
    have bC3 := hx3.block bC2
    have HF3 := Lib.hid (hF.ext hw3)
    have HL3 := Lib.hid (hl.ext hw3)
    have HX := Lib.hid (And.intro hl hF)
    clear HU2 c0 bC2 hx3 hl hF
    go_wp2
    go_loopw [12, 26] (fun at_ i wr => ∃ (k : Nat) (a : Int), k ≤ l.length ∧ i = .int .i64 k ∧ at_ = .int .i64 a ∧ Hid (rightGo U F n ⟨u, wa, mo, r3, r4, r5, r6, r7, r8, r9⟩ 0 l = rightGo U F n ⟨u, wa, mo, r3, r4, r5, r6, r7, r8, r9⟩ a (l.drop k)) ∧ Ext w3 wr) (fun _ i _ => l.length - (intOf i).toNat)
    case atStart => exact ⟨0, 0, Nat.zero_le _, rfl, rfl, Lib.hid rfl, Ext.refl _⟩
    case round =>
      obtain ⟨k, a, hk, rfl, rfl, HG, hx⟩ := hrel
      by_cases hlt : k < l.length
      · obtain ⟨b, o, rfl, p0, p1⟩ := HL3.out.ext hx k hlt
        have hdk : l.drop k = l[k] :: l.drop (k + 1) := List.drop_eq_getElem_cons hlt
        obtain ⟨fb, hfb, hfc⟩ := HFE2.out hu l[k]
        have hgs := HGO.out a l[k] (l.drop (k + 1))
        rw [← hdk, ← HG.out, hfb] at hgs
        generalize l[k] = s at *
        have HGS := Lib.hid hgs
        have hxs := hx.trans ((Ext.refl wr).alloc (.cells #[.int .i64 s.f, .int .i64 s.t] 48))
        have HFC := Lib.hid (hfc _ A3 c3 (HS3.out.ext hxs) (HF3.out.ext hxs))
        have bCs := hxs.block bC3
        have z0 : (wr.alloc (.cells #[.int .i64 s.f, .int .i64 s.t] 48)).cell? ⟨w.heap.size, 0, none⟩ = some (.int .i64 u) := by rw [cell_of_block bCs]; rfl
        have z1 : (wr.alloc (.cells #[.int .i64 s.f, .int .i64 s.t] 48)).cell? ⟨w.heap.size, 1, none⟩ = some (.int .i64 wa) := by rw [cell_of_block bCs]; rfl
        have z2 : (wr.alloc (.cells #[.int .i64 s.f, .int .i64 s.t] 48)).cell? ⟨w.heap.size, 2, none⟩ = some (.int .i64 mo) := by rw [cell_of_block bCs]; rfl
        have z3 : (wr.alloc (.cells #[.int .i64 s.f, .int .i64 s.t] 48)).cell? ⟨w.heap.size, 3, none⟩ = some (.int .i64 r3) := by rw [cell_of_block bCs]; rfl
        have z4 : (wr.alloc (.cells #[.int .i64 s.f, .int .i64 s.t] 48)).cell? ⟨w.heap.size, 4, none⟩ = some (.int .i64 r4) := by rw [cell_of_block bCs]; rfl
        have z5 : (wr.alloc (.cells #[.int .i64 s.f, .int .i64 s.t] 48)).cell? ⟨w.heap.size, 5, none⟩ = some (.int .i64 r5) := by rw [cell_of_block bCs]; rfl
        have z6 : (wr.alloc (.cells #[.int .i64 s.f, .int .i64 s.t] 48)).cell? ⟨w.heap.size, 6, none⟩ = some (.int .i64 r6) := by rw [cell_of_block bCs]; rfl
        have z7 : (wr.alloc (.cells #[.int .i64 s.f, .int .i64 s.t] 48)).cell? ⟨w.heap.size, 7, none⟩ = some (.int .i64 r7) := by rw [cell_of_block bCs]; rfl
        have z8 : (wr.alloc (.cells #[.int .i64 s.f, .int .i64 s.t] 48)).cell? ⟨w.heap.size, 8, none⟩ = some (.int .i64 r8) := by rw [cell_of_block bCs]; rfl
        have z9 : (wr.alloc (.cells #[.int .i64 s.f, .int .i64 s.t] 48)).cell? ⟨w.heap.size, 9, none⟩ = some (.int .i64 r9) := by rw [cell_of_block bCs]; rfl
        have d0 : (wr.alloc (.cells #[.int .i64 s.f, .int .i64 s.t] 48)).cell? ⟨wr.heap.size, 0, none⟩ = some (.int .i64 s.f) := by simp
        have d1 : (wr.alloc (.cells #[.int .i64 s.f, .int .i64 s.t] 48)).cell? ⟨wr.heap.size, 1, none⟩ = some (.int .i64 s.t) := by simp
        clear hgs hdk hfb hfc HG bCs hx
        go_wp2_with fail
        generalize wr.alloc (.cells #[.int .i64 s.f, .int .i64 s.t] 48) = ws at *
        refine HFC.out.mono ?_
        rintro e w5 ⟨rfl, hx5⟩
        replace d0 := hx5.cell d0
        replace d1 := hx5.cell d1
        have hx6 := hxs.trans hx5
        clear z0 z1 z2 z3 z4 z5 z6 z7 z8 z9 hxs hx5 HFC
        cases fb
        · have HR : Hid (R = false) := Lib.hid (by rw [HD.out, HGS.out]; simp)
          clear HGS
          go_wp2
          go_ret
          exact ⟨by rw [HR.out]; rfl, hw3.trans hx6⟩
        · by_cases e1 : a ≤ s.f
          · have HG2 : Hid (rightGo U F n ⟨u, wa, mo, r3, r4, r5, r6, r7, r8, r9⟩ 0 l = rightGo U F n ⟨u, wa, mo, r3, r4, r5, r6, r7, r8, r9⟩ s.t (l.drop (k + 1))) := Lib.hid (by rw [HGS.out]; simp [e1])
            clear HGS
            go_wp2
            go_roundw
            case rel => exact ⟨k + 1, s.t, by omega, by go_num, rfl, HG2, hx6⟩
            case measure => simp [intOf]; omega
          · have HR : Hid (R = false) := Lib.hid (by rw [HD.out, HGS.out]; simp [e1])
            clear HGS
            go_wp2
            go_ret
            exact ⟨by rw [HR.out]; rfl, hw3.trans hx6⟩
      · obtain rfl : k = l.length := by omega
        have HG2 : Hid (rightGo U F n ⟨u, wa, mo, r3, r4, r5, r6, r7, r8, r9⟩ 0 l = true) := Lib.hid (by rw [HG.out, List.drop_length]; exact HGN.out a)
        have HH := Lib.hid (HHE.out wr A3 c3 (HS3.out.ext hx) (HF3.out.ext hx))
        have hSx := HS3.out.ext hx
        have hLx := HL3.out.ext hx
        clear HG HHE HFE2
        go_wp2_with fail
        refine HH.out.mono ?_
        rintro e w4 ⟨rfl, hx4⟩
        cases hb
        · have HR : Hid (R = ((lessS U (ofS l)).length == 0)) := Lib.hid (by rw [HD.out, HG2.out]; rfl)
          have HLS := Lib.hid (HLE.out w4 A3 c3 (hSx.ext hx4) (hLx.ext hx4))
          clear HLE HH
          generalize lessS U (ofS l) = LS at *
          go_wp2_with fail
          refine HLS.out.mono ?_
          rintro e w5 ⟨A5, c5, rfl, _, _, hx5⟩
          have HR2 : Hid (R = ((LS.length : Int) == 0)) := Lib.hid (by rw [HR.out, Bool.eq_iff_iff]; simp)
          clear HR
          go_wp2
          go_ret
          exact ⟨by rw [HR2.out]; rfl, ((hw3.trans hx).trans hx4).trans hx5⟩
        · have HR : Hid (R = false) := Lib.hid (by rw [HD.out]; simp)
          go_wp2
          go_ret
          exact ⟨by rw [HR.out]; rfl, (hw3.trans hx).trans hx4⟩
end Go.Proofs.Ytdcdnnbijjcfmaa
