/- The contracts of the reference's In and insert. -/
import Derived.Test.YtgcplndmhlideaaGreatSpn
import Derived.Test.YtgcplndmhlideaaGreatEnds
import Derived.BigRegion
import Derived.Deep.Cut
namespace Go.Proofs.YtgcplndmhlideaaGreat.Rg
open Go.RowKit

def ints (l : List Int) : List Value := l.map (Value.int .i64)
/-- A slice that shows a list of numbers. -/
def IAt (w : World) (A : Option Addr) (l : List Int) : Prop := ∀ k (hk : k < l.length), ∃ b o, A = some ⟨b, o, none⟩ ∧ w.cell? ⟨b, o + k, none⟩ = some (.int .i64 l[k])
theorem IAt.ext {w w' : World} {A : Option Addr} {l : List Int} (h : IAt w A l) (hx : Ext w w') : IAt w' A l := fun k hk => by
  obtain ⟨b, o, e, p0⟩ := h k hk
  exact ⟨b, o, e, hx.cell p0⟩
theorem iat_of_own {w : World} {base : Nat} {e : TypeId} {A : Option Addr} {n c : Nat} {l : List Int} (h : w.ownsRow base e 1 (.slice A n c) n (ints l)) : IAt w A l := fun k hk => by
  have hn : n = l.length := by have := h.1; simp [ints] at this; omega
  subst hn
  obtain ⟨g, cap, hv, _, _⟩ := h.form (by omega)
  cases hv
  refine ⟨g, 0, rfl, ?_⟩
  rw [Nat.zero_add, h.cellAt _ (by omega)]
  simp [ints, hk]
def IRowPost (w : World) (l : List Int) (e : Ending) (w' : World) : Prop := ∃ v, e = .returned v ∧ w'.ownsRow w.heap.size 2 1 v l.length (ints l) ∧ Ext w w'
theorem infoInt : (Tryz.prog.info? 2).map (fun i => (i.zero, i.size, i.bytes)) = some (some (.int .i64 0), 1, 8) := by kernel_rfl
theorem rightB_iff (s : Sp) : rightB s.f s.t = decide s.rightP := by
  rw [Bool.eq_iff_iff, decide_eq_true_eq]
  unfold rightB Sp.rightP
  simp only [Bool.and_eq_true, decide_eq_true_eq]
  exact ⟨fun ⟨⟨a, b⟩, c⟩ => ⟨a, b, c⟩, fun ⟨a, b, c⟩ => ⟨⟨a, b⟩, c⟩⟩
theorem inB_snoc (l : List Sp) (s : Sp) (x : Int) : inB (l ++ [s]) x = (inB l x || (rightB s.f s.t && (decide (s.f ≤ x) && decide (x < s.t)))) := by
  unfold inB
  rw [List.any_append, rightB_iff]
  simp
theorem inB_found {l : List Sp} {k : Nat} (hk : k < l.length) {x : Int} (h : (rightB l[k].f l[k].t && (decide (l[k].f ≤ x) && decide (x < l[k].t))) = true) : inB l x = true := by
  unfold inB
  rw [List.any_eq_true]
  exact ⟨l[k], List.getElem_mem _, by rw [← rightB_iff]; exact h⟩

set_option maxHeartbeats 2000000 in
set_option maxRecDepth 100000 in
theorem in_calls (A : Option Addr) (c : Nat) (l : List Sp) (x : Int) (w : World) (h : SAt w A l) (hl : l.length ≤ 1000000) :
    Calls Tryz.prog 71 #[.slice A l.length c, .int .i64 x] w fun e w' => e = .returned (.bool (inB l x)) ∧ Ext w w' := by
  go_enter Tryz.func71, Tryz.ntmps71
  go_wp2
  go_loopw [5] (fun i wr => ∃ k : Nat, k ≤ l.length ∧ i = .int .i64 k ∧ inB (l.take k) x = false ∧ Ext w wr) (fun i _ => l.length - (intOf i).toNat)
  case atStart => exact ⟨0, Nat.zero_le _, rfl, rfl, Ext.refl w⟩
  case round =>
    obtain ⟨k, hk, rfl, hno, hx⟩ := hrel
    by_cases hlt : k < l.length
    · obtain ⟨b, o, rfl, p0, p1⟩ := h.ext hx k hlt
      have hts := inB_snoc (l.take k) l[k] x
      rw [← List.take_succ_eq_append_getElem hlt, hno, Bool.false_or] at hts
      have hfo := inB_found (x := x) hlt
      generalize l[k] = s at *
      have HT := Lib.hid hts
      have HF := Lib.hid hfo
      clear hts hfo h hno
      go_wp2_with fail
      refine (refright_calls _ _ _).mono ?_
      rintro e w2 ⟨rfl, hx2⟩
      replace p0 := hx2.cell p0
      replace p1 := hx2.cell p1
      replace hx2 := hx.trans hx2
      clear hx
      cases eR : rightB s.f s.t
      · have HG : Hid (inB (l.take (k + 1)) x = false) := by rw [HT.out, eR]; rfl
        clear HF HT
        go_wp2
        go_roundw
        case rel => exact ⟨k + 1, by omega, by go_num, HG.out, hx2⟩
        case measure => simp [intOf]; omega
      · by_cases e1 : s.f ≤ x
        · by_cases e2 : x < s.t
          · have HG : Hid (inB l x = true) := HF.out (by rw [eR]; simp [e1, e2])
            clear HF HT
            go_wp2
            go_ret
            exact ⟨by rw [HG.out]; rfl, hx2⟩
          · have HG : Hid (inB (l.take (k + 1)) x = false) := Lib.hid (by rw [HT.out, eR]; simp [e2])
            clear HF HT
            go_wp2
            go_roundw
            case rel => exact ⟨k + 1, by omega, by go_num, HG.out, hx2⟩
            case measure => simp [intOf]; omega
        · have HG : Hid (inB (l.take (k + 1)) x = false) := Lib.hid (by rw [HT.out, eR]; simp [e1])
          clear HF HT
          go_wp2
          go_roundw
          case rel => exact ⟨k + 1, by omega, by go_num, HG.out, hx2⟩
          case measure => simp [intOf]; omega
    · obtain rfl : k = l.length := by omega
      rw [List.take_length] at hno
      have HN := Lib.hid hno
      clear hno
      go_wp2
      go_ret
      exact ⟨by rw [HN.out]; rfl, hx⟩

theorem insSt_put {n : Int} {l : List Int} {a : Int} (h : (insSt n l).1 = true) : insSt n (l ++ [a]) = (true, (insSt n l).2 ++ [a]) := by
  rw [insSt_snoc]; unfold istep; simp [h]
theorem insSt_low {n : Int} {l : List Int} {a : Int} (h : (insSt n l).1 = false) (ha : ¬ n ≤ a) : insSt n (l ++ [a]) = (false, (insSt n l).2 ++ [a]) := by
  rw [insSt_snoc]; unfold istep; simp [h, ha]
theorem insSt_eq {n : Int} {l : List Int} {a : Int} (h : (insSt n l).1 = false) (ha : n = a) : insSt n (l ++ [a]) = (true, (insSt n l).2 ++ [a]) := by
  rw [insSt_snoc]; unfold istep; subst ha; simp [h]
theorem insSt_gt {n : Int} {l : List Int} {a : Int} (h : (insSt n l).1 = false) (ha : n < a) : insSt n (l ++ [a]) = (true, (insSt n l).2 ++ [n] ++ [a]) := by
  rw [insSt_snoc]; unfold istep; simp [h, ha, Int.le_of_lt ha]
theorem ints_append (a b : List Int) : ints (a ++ b) = ints a ++ ints b := by simp [ints]

def InsLoop (w : World) (n : Int) (l : List Int) (k : Nat) (v : Value) (p : Bool) (wr : World) : Prop :=
  (insSt n (l.take k)).1 = p ∧ wr.ownsRow w.heap.size 2 1 v (insSt n (l.take k)).2.length (ints (insSt n (l.take k)).2) ∧ Ext w wr
set_option maxHeartbeats 4000000 in
set_option maxRecDepth 100000 in
theorem insert_calls (A : Option Addr) (c : Nat) (l : List Int) (n : Int) (w : World) (h : IAt w A l) (hl : l.length ≤ 1000000) :
    Calls Tryz.prog 89 #[.slice A l.length c, .int .i64 n] w (IRowPost w (insI n l)) := by
  go_enter Tryz.func89, Tryz.ntmps89
  go_wp2
  go_loopw [5, 6, 7] (fun v p i wr => ∃ (k : Nat) (pb : Bool), k ≤ l.length ∧ i = .int .i64 k ∧ p = .bool pb ∧ InsLoop w n l k v pb wr) (fun _ _ i _ => l.length - (intOf i).toNat)
  case atStart => exact ⟨0, false, Nat.zero_le _, rfl, rfl, rfl, World.ownsRow_nil _ _ _ _, Ext.refl w⟩
  case round =>
    obtain ⟨k, pb, hk, rfl, rfl, hp, hown, hx⟩ := hrel
    by_cases hlt : k < l.length
    · obtain ⟨b, o, rfl, pw⟩ := h k hlt
      have hbB : b < w.heap.size := block_of_cell pw
      have p0 := hx.cell pw
      clear pw
      have hlen := insSt_length n (l.take k)
      have hle : (l.take k).length ≤ k := List.length_take_le _ _
      have hlen2 : (insSt n (l.take k)).2.length ≤ k + 1 := by cases hq : (insSt n (l.take k)).1 <;> rw [hq] at hlen <;> simp at hlen <;> omega
      have hts := List.take_succ_eq_append_getElem hlt
      have s1 := @insSt_put n (l.take k) l[k]
      have s2 := @insSt_low n (l.take k) l[k]
      have s3 := @insSt_eq n (l.take k) l[k]
      have s4 := @insSt_gt n (l.take k) l[k]
      rw [← hts] at s1 s2 s3 s4
      rw [hp] at s1 s2 s3 s4
      generalize l[k] = s at *
      generalize (insSt n (l.take k)).2 = L at *
      have S1 := Lib.hid s1
      have S2 := Lib.hid s2
      have S3 := Lib.hid s3
      have S4 := Lib.hid s4
      have hb := hx.size
      obtain ⟨V, cv, rfl, _⟩ := own_shape hown
      clear s1 s2 s3 s4 hts h hp hlen hle
      cases pb
      · by_cases e1 : n ≤ s
        · by_cases e2 : n < s
          · have HG := Lib.hid (S4.out rfl e2)
            clear S1 S2 S3 S4
            go_wp2_with (first | (at_builtin; refine wpList_append_new _ rfl (.tmp 30) (.tmp 32) 31 rfl w.heap.size 2 _ 1 8 Tryz.underlying31 infoInt rfl (by omega) _ _ _ rfl hown 1 1 _ (by simp) _ rfl rfl (by simp [Value.oneCell']) (by simp [maxLen]; omega) (by omega) hb ?_; intro v3 w3 hown3 hm3; have hx3 := ext_moved hx hown hm3; have hb3 := hx3.size; have p3 := far_cell hown hm3 (p := ⟨b, o + k, none⟩) hbB p0) | (at_builtin; refine wpList_append_new _ rfl (.tmp 34) (.tmp 39) 31 rfl w.heap.size 2 _ 1 8 Tryz.underlying31 infoInt rfl (by omega) v3 _ _ rfl hown3 1 1 _ (by simp) _ rfl rfl (by simp [Value.oneCell']) (by simp [maxLen]; omega) (by omega) hb3 ?_; intro v4 w4 hown4 hm4))
            have hx4 := ext_moved hx3 hown3 hm4
            go_roundw
            case rel => exact ⟨k + 1, true, by omega, by go_num, rfl, by rw [HG.out], by rw [HG.out, ints_append, ints_append, List.length_append, List.length_append]; exact hown4, hx4⟩
            case measure => simp [intOf]; omega
          · have HG := Lib.hid (S3.out rfl (by omega))
            clear S1 S2 S3 S4
            go_wp2_with (at_builtin; refine wpList_append_new _ rfl _ _ 31 rfl w.heap.size 2 _ 1 8 Tryz.underlying31 infoInt rfl (by omega) _ _ _ rfl hown 1 1 _ (by simp) _ rfl rfl (by simp [Value.oneCell']) (by simp [maxLen]; omega) (by omega) hb ?_; intro v3 w3 hown3 hm3)
            have hx4 := ext_moved hx hown hm3
            go_roundw
            case rel => exact ⟨k + 1, true, by omega, by go_num, rfl, by rw [HG.out], by rw [HG.out, ints_append, List.length_append]; exact hown3, hx4⟩
            case measure => simp [intOf]; omega
        · have HG := Lib.hid (S2.out rfl e1)
          clear S1 S2 S3 S4
          go_wp2_with (at_builtin; refine wpList_append_new _ rfl _ _ 31 rfl w.heap.size 2 _ 1 8 Tryz.underlying31 infoInt rfl (by omega) _ _ _ rfl hown 1 1 _ (by simp) _ rfl rfl (by simp [Value.oneCell']) (by simp [maxLen]; omega) (by omega) hb ?_; intro v3 w3 hown3 hm3)
          have hx4 := ext_moved hx hown hm3
          go_roundw
          case rel => exact ⟨k + 1, false, by omega, by go_num, rfl, by rw [HG.out], by rw [HG.out, ints_append, List.length_append]; exact hown3, hx4⟩
          case measure => simp [intOf]; omega
      · have HG := Lib.hid (S1.out rfl)
        clear S1 S2 S3 S4
        go_wp2_with (at_builtin; refine wpList_append_new _ rfl _ _ 31 rfl w.heap.size 2 _ 1 8 Tryz.underlying31 infoInt rfl (by omega) _ _ _ rfl hown 1 1 _ (by simp) _ rfl rfl (by simp [Value.oneCell']) (by simp [maxLen]; omega) (by omega) hb ?_; intro v3 w3 hown2 hm)
        have hx4 := ext_moved hx hown hm
        go_roundw
        case rel => exact ⟨k + 1, true, by omega, by go_num, rfl, by rw [HG.out], by rw [HG.out, ints_append, List.length_append]; exact hown2, hx4⟩
        case measure => simp [intOf]; omega
    · obtain rfl : k = l.length := by omega
      rw [List.take_length] at hp hown
      have hlen := insSt_length n l
      have hI : insI n l = if pb then (insSt n l).2 else (insSt n l).2 ++ [n] := by unfold insI; rw [hp]
      have hlen2 : (insSt n l).2.length ≤ l.length + 1 := by cases hq : (insSt n l).1 <;> rw [hq] at hlen <;> simp at hlen <;> omega
      generalize (insSt n l).2 = L at *
      have HI0 : Hid (pb = false → insI n l = L ++ [n]) := fun h => by rw [hI, h]; rfl
      have HI1 : Hid (pb = true → insI n l = L) := fun h => by rw [hI, h]; rfl
      have hb := hx.size
      obtain ⟨V, cv, rfl, _⟩ := own_shape hown
      clear hlen hp hI h
      cases pb
      · go_wp2_with (at_builtin; refine wpList_append_new _ rfl _ _ 31 rfl w.heap.size 2 _ 1 8 Tryz.underlying31 infoInt rfl (by omega) _ _ _ rfl hown 1 1 _ (by simp) _ rfl rfl (by simp [Value.oneCell']) (by simp [maxLen]; omega) (by omega) hb ?_; intro v3 w3 hown3 hm3)
        have hx4 := ext_moved hx hown hm3
        go_ret
        exact ⟨_, rfl, by rw [HI0.out (by simp), ints_append, List.length_append]; exact hown3, hx4⟩
      · go_wp2
        go_ret
        exact ⟨_, rfl, by rw [HI1.out (by simp)]; exact hown, hx⟩
end Go.Proofs.YtgcplndmhlideaaGreat.Rg
