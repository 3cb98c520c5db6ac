/- The contract of the reference's Ends. -/
import Derived.Test.YtdcdnnbijjcfmaaBsp
import Derived.Test.YtdcdnnbijjcfmaaLess
namespace Go.Proofs.Ytdcdnnbijjcfmaa
open Go.RowKit

theorem run_step {u t : Int} {k : Nat} {a : Int} (h : a < t) : runE u t (k + 1) a = min (a + u) t :: runE u t k (min (a + u) t) := by
  show (if a < t then _ else _) = _
  rw [if_pos h]
theorem run_stop {u t : Int} {k : Nat} {a : Int} (h : ¬ a < t) : runE u t k a = [] := by
  cases k with
  | zero => rfl
  | succ k => show (if a < t then _ else _) = _; rw [if_neg h]

/-- As IPost; and the list lies in a new block. -/
def IPostN (w : World) (l : List Int) (e : Ending) (w' : World) : Prop := ∃ A c, e = .returned (.slice A l.length c) ∧ Hid (IAt w' A l) ∧ Hid (NewA w A) ∧ Ext w w'
set_option maxHeartbeats 8000000 in
set_option maxRecDepth 100000 in
theorem endsR_calls (A : Option Addr) (c : Nat) (L : List Sp) (from_ u : Int) (w : World) (h : SAt w A L) (hN : Norm L) (hl : L.length ≤ 60000) (hu : 4 ≤ u) (hu2 : u ≤ 1048576) (hf : ∀ s ∈ L, s.f % u = 0 ∧ from_ ≤ s.f ∧ s.f ≤ 100 * u ∧ (s.t ≤ 100 * u ∨ s.t = 4611686018427387904)) (hf0 : 0 ≤ from_) :
    Calls Try.prog 36 #[.slice A L.length c, .int .i64 from_, .int .i64 u] w (IPostN w (endsE from_ u L)) := by
  have hPl := (endsE_inv (from_ := from_) hu hu2 L hN hf).2.2.2.2
  obtain ⟨P, hP⟩ : ∃ P, endsE from_ u L = P := ⟨_, rfl⟩
  rw [hP] at hPl
  rw [hP]
  have HP := Lib.hid hP
  have HS := Lib.hid h
  have HN := Lib.hid hN
  have HF := Lib.hid hf
  have hPm : P.length ≤ 7000000 := by omega
  clear hP h hN hf hPl
  go_enter Try.func36, Try.ntmps36
  go_wp2
  go_loopw [7, 14] (fun v i wr => ∃ (k : Nat) (O : List Int), k ≤ L.length ∧ i = .int .i64 k ∧ Hid (O ++ endsE from_ u (L.drop k) = P) ∧ wr.ownsRow w.heap.size 2 1 v O.length (ints O) ∧ Ext w wr) (fun _ i _ => L.length - (intOf i).toNat)
  case atStart => exact ⟨0, [], Nat.zero_le _, rfl, Lib.hid HP.out, World.ownsRow_nil _ _ _ _, Ext.refl w⟩
  case round =>
    obtain ⟨k, O, hk, rfl, HO, hown, hx⟩ := hrel
    have hOm : O.length ≤ 7000000 := by have := HO.out; have h2 := congrArg List.length this; rw [List.length_append] at h2; omega
    obtain ⟨V, cv, rfl, _⟩ := own_shape hown
    by_cases hlt : k < L.length
    · obtain ⟨b, o, rfl, p0, p1⟩ := HS.out.ext hx k hlt
      obtain ⟨a1, a2, a3, a4⟩ := HF.out L[k] (List.getElem_mem hlt)
      obtain ⟨n1, n2, n3⟩ := HN.out.get hlt
      have hdk : L.drop k = L[k] :: L.drop (k + 1) := List.drop_eq_getElem_cons hlt
      have hE : endsE from_ u (L.drop k) = if L[k].t = 4611686018427387904 then openE u 600 L[k].f else runE u L[k].t 101 L[k].f ++ endsE from_ u (L.drop (k + 1)) := by
        rw [hdk]
        show (if L[k].t ≤ from_ then _ else if L[k].t = 4611686018427387904 then openE u 600 (max L[k].f from_) else runE u L[k].t 101 (max L[k].f from_) ++ endsE from_ u (L.drop (k + 1))) = _
        rw [if_neg (by omega), show max L[k].f from_ = L[k].f by omega]
      have hO2 := HO.out
      rw [hE] at hO2
      generalize L[k] = s at *
      have HO2 := Lib.hid hO2
      have hm : max s.f from_ = s.f := by omega
      have hnt : ¬ s.t ≤ from_ := by omega
      have hnx : (Value.slice V O.length cv).ownBlock ≠ some wr.heap.size := fun e => by have := own_lt hown e; omega
      have hxa : Ext w (wr.alloc (.cells #[.int .i64 s.f, .int .i64 s.t] 48)) := hx.alloc _
      have d1 : (wr.alloc (.cells #[.int .i64 s.f, .int .i64 s.t] 48)).cell? ⟨wr.heap.size, 1, none⟩ = some (.int .i64 s.t) := by simp
      have hrb : wr.heap.size < (wr.alloc (.cells #[.int .i64 s.f, .int .i64 s.t] 48)).heap.size := by simp
      replace hown := hown.alloc (.cells #[.int .i64 s.f, .int .i64 s.t] 48)
      have hra : w.heap.size ≤ wr.heap.size := hx.size
      clear hE hO2 hdk HO hx
      cases eO : (s.t == 4611686018427387904)
      · have hnO : s.t ≠ 4611686018427387904 := by simpa using eO
        have HO3 : Hid ((O ++ runE u s.t 101 s.f) ++ endsE from_ u (L.drop (k + 1)) = P) := Lib.hid (by have := HO2.out; rw [if_neg hnO] at this; rw [List.append_assoc]; exact this)
        clear HO2
        have a5 : s.t ≤ 100 * u := by omega
        have HT : Hid (O.length + (runE u s.t 101 s.f).length ≤ 7000000) := Lib.hid (by have h2 := congrArg List.length HO3.out; rw [List.length_append, List.length_append] at h2; omega)
        go_wp2
        generalize wr.alloc (.cells #[.int .i64 s.f, .int .i64 s.t] 48) = wa at *
        generalize wr.heap.size = xb at *
        go_loopw [7, 10] (fun v at_ wr => ∃ (m : Nat) (Q : List Int) (a : Int), at_ = .int .i64 a ∧ Hid (Q ++ runE u s.t m a = O ++ runE u s.t 101 s.f) ∧ s.t - a ≤ m * u ∧ s.f ≤ a ∧ a ≤ s.t ∧ wr.ownsRow w.heap.size 2 1 v Q.length (ints Q) ∧ Ext w wr ∧ wr.cell? ⟨xb, 1, none⟩ = some (.int .i64 s.t) ∧ v.ownBlock ≠ some xb ∧ xb < wr.heap.size) (fun _ at_ _ => (s.t - intOf at_).toNat)
        case atStart => exact ⟨101, O, s.f, rfl, Lib.hid rfl, by simp; omega, Int.le_refl _, by omega, hown, hxa, d1, hnx, hrb⟩
        case round =>
          obtain ⟨m, Q, a, rfl, HQ, hmu, ha1, ha2, hown, hx, ct, hne, hxw⟩ := hrel
          obtain ⟨V, cv, rfl, _⟩ := own_shape hown
          have hb3 := hx.size
          have hQm : Q.length ≤ 7000000 := by have h2 := congrArg List.length HQ.out; rw [List.length_append, List.length_append] at h2; have := HT.out; omega
          by_cases hat : a < s.t
          · obtain ⟨m', rfl⟩ : ∃ m', m = m' + 1 := ⟨m - 1, by cases m with | zero => simp at hmu; omega | succ m => omega⟩
            have HQ2 : Hid ((Q ++ [min (a + u) s.t]) ++ runE u s.t m' (min (a + u) s.t) = O ++ runE u s.t 101 s.f) := Lib.hid (by rw [← HQ.out, run_step hat]; simp)
            rw [show ((m' + 1 : Nat) : Int) = (m' : Int) + 1 by omega, Int.add_mul] at hmu
            obtain ⟨mu, hmm⟩ : ∃ mu, (m' : Int) * u = mu := ⟨_, rfl⟩
            rw [hmm] at hmu
            have HMM := Lib.hid hmm
            have h0m : 0 ≤ mu := by rw [← hmm]; exact Int.mul_nonneg (by omega) (by omega)
            clear HQ hmm
            go_wp2_with (at_builtin; refine wpList_append_new _ rfl _ _ 65 rfl w.heap.size 2 _ 1 8 Try.underlying65 infoInt rfl (by omega) _ _ _ rfl hown 1 1 _ (by simp) _ rfl rfl (by simp [Value.oneCell']) (by simp [maxLen]; omega) (by omega) hb3 ?_; intro v1 w1 hown1 hm; have hx1 := ext_moved hx hown hm; have ct1 := (moved_cell hm (p := ⟨xb, 1, none⟩) hxw hne).trans ct; have hne1 := moved_ne hm hxw hne; have hxw1 := Nat.lt_of_lt_of_le hxw hm.1.size)
            go_roundw
            case rel => exact ⟨m', Q ++ [min (a + u) s.t], min (a + u) s.t, rfl, HQ2, by rw [HMM.out]; omega, by omega, by omega, by rw [List.length_append, ints_append]; exact hown1, hx1, ct1, hne1, hxw1⟩
            case measure => simp [intOf]; omega
          · have HQ2 : Hid (Q = O ++ runE u s.t 101 s.f) := Lib.hid (by rw [← HQ.out, run_stop hat]; simp)
            clear HQ
            go_wp2
            go_roundw
            case rel => exact ⟨k + 1, Q, by omega, by go_num, by rw [HQ2.out]; exact HO3, hown, hx⟩
            case measure => simp [intOf]; omega
      · have HO3 : Hid (O ++ openE u 600 s.f = P) := Lib.hid (by have hyO : s.t = 4611686018427387904 := (by simpa using eO); have := HO2.out; rw [if_pos hyO] at this; exact this)
        clear HO2
        go_wp2
        generalize wr.alloc (.cells #[.int .i64 s.f, .int .i64 s.t] 48) = wa at *
        generalize wr.heap.size = xb at *
        go_loopw [7, 10, 11] (fun v at_ kk wr => ∃ (j : Nat) (Q : List Int) (a : Int), j ≤ 600 ∧ at_ = .int .i64 a ∧ kk = .int .i64 j ∧ Hid (Q ++ openE u (600 - j) a = P) ∧ a ≤ 100 * u + j * u ∧ 0 ≤ a ∧ wr.ownsRow w.heap.size 2 1 v Q.length (ints Q) ∧ Ext w wr ∧ wr.cell? ⟨xb, 1, none⟩ = some (.int .i64 s.t) ∧ v.ownBlock ≠ some xb ∧ xb < wr.heap.size) (fun _ _ kk _ => 600 - (intOf kk).toNat)
        case atStart => exact ⟨0, O, s.f, by omega, rfl, rfl, HO3, by simp; omega, by omega, hown, hxa, d1, hnx, hrb⟩
        case round =>
          obtain ⟨j, Q, a, hj, rfl, rfl, HQ, hau, ha0, hown, hx, ct, hne, hxw⟩ := hrel
          obtain ⟨V, cv, rfl, _⟩ := own_shape hown
          have hb3 := hx.size
          have hQm : Q.length ≤ 7000000 := by have h2 := congrArg List.length HQ.out; rw [List.length_append] at h2; omega
          by_cases hj6 : j < 600
          · have HQ2 : Hid ((Q ++ [a + u]) ++ openE u (600 - (j + 1)) (a + u) = P) := Lib.hid (by rw [← HQ.out, show 600 - j = (600 - (j + 1)) + 1 by omega]; show _ = Q ++ ((a + u) :: openE u (600 - (j + 1)) (a + u)); simp)
            obtain ⟨ju, hju⟩ : ∃ ju, (j : Int) * u = ju := ⟨_, rfl⟩
            rw [hju] at hau
            have hju2 : ju ≤ 600 * 1048576 := by rw [← hju]; exact Int.mul_le_mul (by omega) hu2 (by omega) (by omega)
            have HJU : Hid (((j + 1 : Nat) : Int) * u = ju + u) := Lib.hid (by rw [← hju, show ((j + 1 : Nat) : Int) = (j : Int) + 1 by omega, Int.add_mul]; omega)
            clear HQ hju
            go_wp2_with (at_builtin; refine wpList_append_new _ rfl _ _ 65 rfl w.heap.size 2 _ 1 8 Try.underlying65 infoInt rfl (by omega) _ _ _ rfl hown 1 1 _ (by simp) _ rfl rfl (by simp [Value.oneCell']) (by simp [maxLen]; omega) (by omega) hb3 ?_; intro v1 w1 hown1 hm; have hx1 := ext_moved hx hown hm; have ct1 := (moved_cell hm (p := ⟨xb, 1, none⟩) hxw hne).trans ct; have hne1 := moved_ne hm hxw hne; have hxw1 := Nat.lt_of_lt_of_le hxw hm.1.size)
            go_roundw
            case rel => exact ⟨j + 1, Q ++ [a + u], a + u, by omega, rfl, by go_num, HQ2, by rw [HJU.out]; omega, by omega, by rw [List.length_append, ints_append]; exact hown1, hx1, ct1, hne1, hxw1⟩
            case measure => simp [intOf]; omega
          · obtain rfl : j = 600 := by omega
            have HQ2 : Hid (P = Q ++ [4611686018427387904]) := Lib.hid (by rw [← HQ.out]; rfl)
            clear HQ
            go_wp2_with (at_builtin; refine wpList_append_new _ rfl _ _ 65 rfl w.heap.size 2 _ 1 8 Try.underlying65 infoInt rfl (by omega) _ _ _ rfl hown 1 1 _ (by simp) _ rfl rfl (by simp [Value.oneCell']) (by simp [maxLen]; omega) (by omega) hb3 ?_; intro v1 w1 hown1 hm; have hx1 := ext_moved hx hown hm; have ct1 := (moved_cell hm (p := ⟨xb, 1, none⟩) hxw hne).trans ct; have hne1 := moved_ne hm hxw hne; have hxw1 := Nat.lt_of_lt_of_le hxw hm.1.size)
            go_ret
            obtain ⟨V2, cv2, rfl, _⟩ := own_shape hown1
            refine ⟨V2, cv2, by rw [HQ2.out, List.length_append]; rfl, Lib.hid ?_, Lib.hid (newA_of hown1 (Nat.le_refl _)), hx1⟩
            rw [HQ2.out]
            refine iat_of_own (n := Q.length + 1) (c := cv2) (e := 2) (base := w.heap.size) ?_
            rw [ints_append]
            exact hown1
    · obtain rfl : k = L.length := by omega
      have HO2 : Hid (O = P) := Lib.hid (by have := HO.out; rw [List.drop_length] at this; simpa [endsE] using this)
      have hI := iat_of_own hown
      clear HO
      go_wp2
      go_ret
      exact ⟨V, cv, by rw [← HO2.out]; rfl, Lib.hid (by rw [← HO2.out]; exact hI), Lib.hid (newA_of hown (Nat.le_refl _)), hx⟩
end Go.Proofs.Ytdcdnnbijjcfmaa
