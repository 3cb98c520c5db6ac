/- The contract of the reference's Whole. -/
import Derived.Test.YtoahjhkfnchdhaaRput
import Derived.Test.YtoahjhkfnchdhaaLawWhole
namespace Go.Proofs.Ytoahjhkfnchdhaa
open Go.RowKit

theorem holds_mem {l : List Sp} {f t : Int} (hft : f < t) (h : holdsS l f t = true) : ∀ z, f ≤ z → z < t → Mem l z := by
  intro z h1 h2
  unfold holdsS at h
  rw [beq_eq_false_iff_ne.2 (show f ≠ t by omega)] at h
  simp only [Bool.and_eq_true, Bool.false_or] at h
  obtain ⟨_, h⟩ := h
  cases e : l[beh l f]? with
  | none => rw [e] at h; simp at h
  | some s =>
    rw [e] at h
    simp at h
    exact ⟨s, List.mem_of_getElem? e, by omega, by omega⟩
theorem holds_iff {B : Bf} (hok : B.ok) : holdsS B.hs B.f B.t = true ↔ ∀ z, B.f ≤ z → z < B.t → Mem B.hs z := by
  have hft := hok.ft
  refine ⟨holds_mem hft, fun h => ?_⟩
  have f0 := hok.f0
  have t1 := hok.t1
  have hs : (⟨B.f, B.t⟩ : Sp).ok := ⟨f0, hft, by show B.t ≤ _; omega⟩
  have he : B.hs = [⟨B.f, B.t⟩] := norm_ext hok.norm (norm_one hs) fun z => by
    rw [mem_single]
    exact ⟨fun h => mem_of_lies hok.lies z h, fun h2 => h z h2.1 h2.2⟩
  rw [he]
  exact holds_one hs (Int.le_refl _) hft

set_option maxHeartbeats 4000000 in
set_option maxRecDepth 100000 in
theorem rwhole_calls (lo rb : Nat) (B : Bf) (R : Rb) (hr : Rel B R) (w : World) (h : RbAt lo w rb R) :
    Calls Try.prog 28 #[.pointer (some ⟨rb, 0, none⟩)] w (WholePost w B) := by
  obtain ⟨e0, e1, e2, e3, e4⟩ := hr.ends
  obtain ⟨A5, c5, hb, hrl, hI, hA5⟩ := h
  have r0 : w.cell? ⟨rb, 0, none⟩ = some (.int .i64 R.no) := by rw [cell_of_block hb]; rfl
  have r1 : w.cell? ⟨rb, 1, none⟩ = some (.int .i64 R.u) := by rw [cell_of_block hb]; rfl
  have r2 : w.cell? ⟨rb, 2, none⟩ = some (.int .i64 R.n) := by rw [cell_of_block hb]; rfl
  have r3 : w.cell? ⟨rb, 3, none⟩ = some (.slice A5 R.bs.length c5) := by rw [cell_of_block hb]; rfl
  have hs := fun W => refspan_calls R.no R.u R.n W
  have hsp : spanS R.no R.u R.n = ⟨B.f, B.t⟩ := by unfold spanS; rw [if_pos hr.so, hr.f, hr.t]
  rw [hsp] at hs
  have hRl := hr.len
  have hu64 := hr.u64
  have hbl := hr.ok.len
  obtain ⟨b5, o5, hA, hc5⟩ := hI.at_ (by omega)
  subst hA
  obtain ⟨n, hn⟩ : ∃ n : Nat, B.t - B.f = n := ⟨(B.t - B.f).toNat, by omega⟩
  have hn2 : (B.t - B.f).toNat = n := by omega
  have hnb : n ≤ B.bs.length := by omega
  have hnR : n ≤ R.bs.length := by omega
  have hwn : IntKind.i64.wrap (B.t - B.f) = (n : Int) := (IntWalk.i64_in _ (by omega)).trans hn
  have hPT : ∀ w' A c, Ext w w' → (∀ z, B.f ≤ z → z < B.t → Mem B.hs z) → w'.ownsRow w.heap.size 5 1 (.slice A n c) n (bytesL (B.bs.take n)) → WholePost w B (.returned (.tuple #[.slice A n c, .bool true])) w' := fun w' A c hx hm ho => ⟨hx, by rw [if_pos ((holds_iff hr.ok).2 hm), hn2]; exact ⟨A, c, rfl, Lib.hid ho⟩⟩
  have hPF : ∀ w', Ext w w' → ∀ i : Nat, i < n → ¬ Mem B.hs (B.f + i) → WholePost w B (.returned (.tuple #[.slice none 0 0, .bool false])) w' := fun w' hx i hi hm => ⟨hx, by rw [if_neg (fun h => hm ((holds_iff hr.ok).1 h _ (by omega) (by omega)))]⟩
  have hv : ∀ i (h : i < R.bs.length), (R.bs[i] < 0 ∧ ¬ Mem B.hs (B.f + i)) ∨ (Mem B.hs (B.f + i) ∧ ∃ b, B.bs[i]? = some b ∧ R.bs[i] = (b.toNat : Int)) := fun i hi => by
    by_cases hm : Mem B.hs (B.f + i)
    · exact .inr ⟨hm, hr.pos hi hm⟩
    · exact .inl ⟨(hr.neg hi).2 hm, hm⟩
  have HV := Lib.hid hv
  have HPT := Lib.hid hPT
  have HPF := Lib.hid hPF
  have HS := Lib.hid hs
  clear hv hPT hPF hs hsp hr hb hI hA5 hn2
  generalize R.no = rno at *
  generalize R.u = ru at *
  generalize R.n = rn at *
  obtain ⟨F, hF⟩ : ∃ F, B.f = F := ⟨_, rfl⟩
  obtain ⟨T, hT⟩ : ∃ T, B.t = T := ⟨_, rfl⟩
  rw [hF, hT] at hwn hn HS
  have HFT := Lib.hid (And.intro hF hT)
  rw [hF] at e0 e1 e2
  rw [hT] at e1 e2 e3
  clear hF hT hbl
  have hbx0 := heap_alloc_new w (.cells #[.int .i64 0, .int .i64 0] 24)
  go_enter Try.func28, Try.ntmps28
  go_wp2
  have HE := Lib.hid (Ext.refl w).drew
  have HEa : Hid (Ext w (w.alloc (.cells #[.int .i64 0, .int .i64 0] 24)).drew) := Lib.hid ((Ext.refl w).alloc _).drew
  have HBX := Lib.hid hbx0
  clear hbx0
  have keep : Hid (∀ W, Ext w W → W.cell? ⟨rb, 0, none⟩ = some (.int .i64 rno) ∧ W.cell? ⟨rb, 1, none⟩ = some (.int .i64 ru) ∧ W.cell? ⟨rb, 2, none⟩ = some (.int .i64 rn)) := Lib.hid fun W hE => ⟨hE.cell r0, hE.cell r1, hE.cell r2⟩
  go_cut [4] from 7 to 19 (fun v wx => SpanBox w F T v wx)
  case first =>
    refine wp_region_noPanic ?_
    go_region_held3 (fun w' => w'.cell? ⟨rb, 0, none⟩ = some (.int .i64 rno) ∧ w'.cell? ⟨rb, 1, none⟩ = some (.int .i64 ru) ∧ w'.cell? ⟨rb, 2, none⟩ = some (.int .i64 rn))
      ((with_reducible refine keep.out _ ?_; (repeat' with_reducible first | exact HE.out | exact HEa.out | exact hE3 | exact hE5 _ _ | exact hE7 _ _ | refine Ext.drew ?_ | refine Ext.alloc ?_ _)))
      ((go_at_call 13
        refine (HS.out _).mono ?_
        rintro e w3 ⟨rfl, hx3⟩
        (first
          | (have hE3 : Ext w w3 := HE.out.trans hx3
             have hE5 : ∀ u v, Ext w (((w3.alloc (.cells #[.int .i64 0, .int .i64 0] 24)).setCell ⟨w3.heap.size, 0, none⟩ u).setCell ⟨w3.heap.size, 1, none⟩ v) := fun u v => ((hE3.alloc _).setCell (p := ⟨w3.heap.size, 0, none⟩) hE3.size u).setCell (p := ⟨w3.heap.size, 1, none⟩) hE3.size v)
          | (have hE3 : Ext w w3 := HEa.out.trans hx3
             have bx3 : w3.heap[w.heap.size]? = some (.cells #[.int .i64 0, .int .i64 0] 24 (0, 0)) := hx3.block HBX.out
             have hE7 : ∀ u v, Ext w ((w3.setCell ⟨w.heap.size, 0, none⟩ u).setCell ⟨w.heap.size, 1, none⟩ v) := fun u v => (hE3.setCell (p := ⟨w.heap.size, 0, none⟩) (Nat.le_refl _) u).setCell (p := ⟨w.heap.size, 1, none⟩) (Nat.le_refl _) v
             have q0 : w3.cell? ⟨w.heap.size, 0, none⟩ = some (.int .i64 0) := (by rw [cell_of_block bx3]; rfl)
             have q1 : w3.cell? ⟨w.heap.size, 1, none⟩ = some (.int .i64 0) := (by rw [cell_of_block bx3]; rfl)
             have q2 : w3.frozen? ⟨w.heap.size, 0, none⟩ = false := frozen_of_block bx3 0
             have q3 : w3.frozen? ⟨w.heap.size, 1, none⟩ = false := frozen_of_block bx3 1))))
    all_goals refine noPanic_intro ?_
    all_goals go_wp2_with fail
    all_goals go_meet
    all_goals first
      | exact ⟨w.heap.size, rfl, Nat.le_refl _, box_fill bx3, hE7 _ _⟩
      | exact ⟨w3.heap.size, rfl, hE3.size, heap_alloc_new _ _, hE3.alloc _⟩
      | exact ⟨w3.heap.size, rfl, hE3.size, box_fill (heap_alloc_new _ _), hE5 _ _⟩
  case rest =>
    obtain ⟨xb, rfl, hxb, bxb, hE⟩ := hcut
    clear keep HEa HBX HE HS
    have hown0 := World.ownsRow_lit (base := w.heap.size) (size := 1) (e := 5) wc #[] 0 hE.size (by simp [maxLen]) rfl
    have hxa : Ext w (wc.alloc (.cells #[] 5)) := hE.alloc _
    have bx1 := ((Ext.refl wc).alloc (.cells #[] 5)).block bxb
    go_wp2_with fail
    go_loopw [5, 6] (fun v i wr => ∃ (k : Nat) (A : Option Addr) (c : Nat), k ≤ n ∧ i = .int .i64 k ∧ v = .slice A k c ∧ Hid (∀ j : Nat, j < k → Mem B.hs (B.f + j)) ∧ wr.ownsRow w.heap.size 5 1 (.slice A k c) k (bytesL (B.bs.take k)) ∧ wr.heap[xb]? = some (.cells #[.int .i64 F, .int .i64 T] 24 (0, 0)) ∧ Ext w wr) (fun _ i _ => n - (intOf i).toNat)
    case atStart => exact ⟨0, _, _, Nat.zero_le _, rfl, rfl, Lib.hid (fun j hj => absurd hj (by omega)), hown0, bx1, hxa⟩
    case round =>
      clear hown0 bx1 hxa bxb hE
      obtain ⟨k, A, c, hk, rfl, rfl, hm, hown, bx, hxw⟩ := hrel
      have x0 : wr.cell? ⟨xb, 0, none⟩ = some (.int .i64 F) := by rw [cell_of_block bx]; rfl
      have x1 : wr.cell? ⟨xb, 1, none⟩ = some (.int .i64 T) := by rw [cell_of_block bx]; rfl
      replace r3 := hxw.cell r3
      by_cases hlt : k < n
      · have hkR : k < R.bs.length := by omega
        have qk := hxw.cell (hc5 k hkR)
        have d0 : (0 : Int) ≤ (k : Int) := by omega
        have d1 : (k : Int) < (R.bs.length : Int) := by omega
        have d2 : (k : Int) < (n : Int) := by omega
        have hvk := HV.out k hkR
        generalize R.bs[k] = x at *
        rcases hvk with ⟨hx, hnm⟩ | ⟨hmk, b, hb1, rfl⟩
        · have HNM := Lib.hid hnm
          clear hnm hown
          go_wp2_with fail
          go_ret2
          exact HPF.out _ hxw k hlt HNM.out
        · have HB := Lib.hid (And.intro hmk hb1)
          have db := b.toNat_lt
          have hwb : IntKind.u8.wrap (b.toNat : Int) = (b.toNat : Int) := by
            have : IntKind.u8.wrap (b.toNat : Int) = (b.toNat : Int) % 256 := rfl
            rw [this]
            omega
          have HBX := Lib.hid bx
          clear hmk hb1 bx
          go_wp2_with (at_builtin; refine wpList_append_new _ rfl _ _ 43 rfl w.heap.size 5 _ 1 1 Try.underlying43 infoByte rfl (by omega) (.slice A k c) _ _ rfl hown 1 1 _ rfl _ rfl rfl (by simp [Value.oneCell']) (by simp [maxLen] <;> omega) (by omega) hxw.size ?_; intro v1 w4 hown4 hm4; obtain ⟨A4, c4, rfl, _⟩ := own_shape hown4; have hb4 := far_block hown HBX.out (by decide) hm4; have hx4 := ext_moved hxw hown hm4)
          go_roundw
          case rel =>
            refine ⟨k + 1, A4, c4, by omega, by go_num, rfl, Lib.hid (fun j hj => ?_), ?_, hb4, hx4⟩
            · by_cases hjk : j < k
              · exact hm.out j hjk
              · obtain rfl : j = k := by omega
                exact HB.out.1
            · obtain ⟨hkb, e⟩ := List.getElem?_eq_some_iff.1 HB.out.2
              have e2 : bytesL (B.bs.take (k + 1)) = bytesL (B.bs.take k) ++ [.int .u8 (b.toNat : Int)] := by
                rw [List.take_succ_eq_append_getElem hkb, e]
                simp [bytesL]
              rw [e2]
              simpa [hwb] using hown4
          case measure => simp [intOf]; omega
      · obtain rfl : k = n := by omega
        have d2 : ¬ (k : Int) < (k : Int) := by omega
        go_wp2_with fail
        go_ret2
        exact HPT.out _ _ _ hxw (fun z z1 z2 => by
          have := hm.out (z - B.f).toNat (by obtain ⟨q1, q2⟩ := HFT.out; omega)
          rw [show B.f + ((z - B.f).toNat : Int) = z by omega] at this
          exact this) hown
end Go.Proofs.Ytoahjhkfnchdhaa
