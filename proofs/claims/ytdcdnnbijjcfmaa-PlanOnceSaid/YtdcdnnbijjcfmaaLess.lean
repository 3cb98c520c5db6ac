/- The contract of Set.Less. -/
import Derived.Test.YtdcdnnbijjcfmaaLessp
import Derived.Test.YtdcdnnbijjcfmaaFirst
import Derived.Test.YtdcdnnbijjcfmaaOr
namespace Go.Proofs.Ytdcdnnbijjcfmaa
open Go.RowKit

theorem moved_cell {w w' : World} {v v' : Value} (hm : Moved w w' v v') {p : Addr} (hp : p.block < w.heap.size) (hne : v.ownBlock ≠ some p.block) : w'.cell? p = w.cell? p :=
  World.cell?_of_block (hm.1.block p.block hp (fun e => hne e.symm))
theorem moved_ne {w w' : World} {v v' : Value} (hm : Moved w w' v v') {g : Nat} (hg : g < w.heap.size) (hne : v.ownBlock ≠ some g) : v'.ownBlock ≠ some g := by
  rcases hm.2 with e | ⟨k, hk, e⟩
  · rw [e]; exact hne
  · rw [e]; intro h; injection h with h; omega
theorem own_lt {w : World} {base : Nat} {e : TypeId} {size n g : Nat} {v : Value} {xs : List Value} (h : w.ownsRow base e size v n xs) (hv : v.ownBlock = some g) : g < w.heap.size := by
  rcases h.2 with ⟨rfl, _⟩ | ⟨k, cap, cur, rfl, _, hh, _⟩
  · simp [Value.ownBlock] at hv
  · simp [Value.ownBlock] at hv
    subst hv
    exact (Array.getElem?_eq_some_iff.1 hh).1
def LessRow (w3 : World) (M : List Sp) (v : Value) (wr : World) : Prop := wr.ownsRow w3.heap.size 48 2 v M.length (spans M) ∧ Ext w3 wr
set_option maxHeartbeats 8000000 in
set_option maxRecDepth 100000 in
theorem less_calls (A : Option Addr) (c : Nat) (a : List Sp) (B : Option Addr) (d : Nat) (b : List Sp) (w : World) (ha : SAt w A a) (hb : SAt w B b) (na : Norm a) (nb : Norm b) (hla : a.length ≤ 400000) (hlb : b.length ≤ 400000) :
    Calls Try.prog 28 #[.agg #[.slice A a.length c], .agg #[.slice B b.length d]] w fun e w' => SetPost w (lessS a b) e w' ∧ (lessS a b).length ≤ a.length + b.length := by
  go_enter Try.func28, Try.ntmps28
  go_wp2
  have hx0 : Ext w (((w.alloc (.cells #[.slice A a.length c] 30)).alloc (.cells #[.slice B b.length d] 30)).alloc (.cells #[.slice none 0 0] 30)) := (((Ext.refl w).alloc _).alloc _).alloc _
  have c1 : (((w.alloc (.cells #[.slice A a.length c] 30)).alloc (.cells #[.slice B b.length d] 30)).alloc (.cells #[.slice none 0 0] 30)).cell? ⟨w.heap.size + 1, 0, none⟩ = some (.slice B b.length d) := by simp [go_sem]
  have c2 : (((w.alloc (.cells #[.slice A a.length c] 30)).alloc (.cells #[.slice B b.length d] 30)).alloc (.cells #[.slice none 0 0] 30)).cell? ⟨w.heap.size + 1 + 1, 0, none⟩ = some (.slice none 0 0) := by simp [go_sem]
  have f2 : (((w.alloc (.cells #[.slice A a.length c] 30)).alloc (.cells #[.slice B b.length d] 30)).alloc (.cells #[.slice none 0 0] 30)).frozen? ⟨w.heap.size + 1 + 1, 0, none⟩ = false := by simp [go_sem]
  have z2 : w.heap.size + 1 + 1 < (((w.alloc (.cells #[.slice A a.length c] 30)).alloc (.cells #[.slice B b.length d] 30)).alloc (.cells #[.slice none 0 0] 30)).heap.size := by simp
  replace ha := ha.ext hx0
  replace hb := hb.ext hx0
  have HB := Lib.hid hb
  have HBX : Hid (0 < b.length → ∀ b' o', B = some ⟨b', o', none⟩ → b' < (((w.alloc (.cells #[.slice A a.length c] 30)).alloc (.cells #[.slice B b.length d] 30)).alloc (.cells #[.slice none 0 0] 30)).heap.size) := Lib.hid (fun h b' o' e => by obtain ⟨b1, o1, e1, q, _⟩ := hb 0 h; rw [e] at e1; cases e1; exact block_of_cell q)
  have HNA := Lib.hid na
  have HNB := Lib.hid nb
  clear na nb
  generalize (((w.alloc (.cells #[.slice A a.length c] 30)).alloc (.cells #[.slice B b.length d] 30)).alloc (.cells #[.slice none 0 0] 30)) = w3 at *
  go_loopw [5, 6, 14] (fun v j i wr => ∃ (i' j' p : Nat) (M : List Sp), i' ≤ a.length ∧ i = .int .i64 i' ∧ j = .int .i64 j' ∧ LessO (a.take i') b M i' j' p ∧ LessRow w3 M v wr) (fun _ _ i _ => a.length - (intOf i).toNat)
  case atStart => exact ⟨0, 0, 0, [], Nat.zero_le _, rfl, rfl, less_nil b, World.ownsRow_nil _ _ _ _, Ext.refl w3⟩
  case round =>
    obtain ⟨i, j0, p, M, hi, rfl, rfl, hO, hown, hx⟩ := hrel
    by_cases hlt : i < a.length
    · obtain ⟨b1, o1, rfl, p0, p1⟩ := ha.ext hx i hlt
      have hxok : (a[i]).ok := HNA.out.1 _ (List.getElem_mem hlt)
      have hT : ∀ u ∈ a.take i, u.t < a[i].f := fun u hu => by
        obtain ⟨k, hk, rfl⟩ := List.mem_iff_getElem.1 hu
        rw [List.getElem_take]
        simp at hk
        exact HNA.out.lt (by omega) hlt
      have hts := List.take_succ_eq_append_getElem hlt
      have hj0 := hO.1
      have hj2 := (hO.2.2.2.2.2 _ hT).2.2
      generalize ha' : a.take i = T at *
      obtain ⟨x, hxe⟩ : ∃ x, a[i] = x := ⟨_, rfl⟩
      rw [hxe] at p0 p1 hxok hT hts hj2
      have HTS := Lib.hid hts
      have HT := Lib.hid hT
      have HOK := Lib.hid hxok
      have HO := Lib.hid hO
      have HJ := Lib.hid hj2
      obtain ⟨x1, x2, x3⟩ := id hxok
      clear hxe ha' hts hT hxok hO hj2 ha
      have C1 := hx.cell c1
      have zr := Nat.lt_of_lt_of_le z2 hx.size
      obtain ⟨VA, cva, rfl, _⟩ := own_shape hown
      go_wp2
      have hxa : Ext w3 (wr.alloc (.cells #[.int .i64 x.f, .int .i64 x.t] 48)) := hx.alloc _
      have d1 : (wr.alloc (.cells #[.int .i64 x.f, .int .i64 x.t] 48)).cell? ⟨wr.heap.size, 1, none⟩ = some (.int .i64 x.t) := by simp [go_sem]
      have hrb : wr.heap.size < (wr.alloc (.cells #[.int .i64 x.f, .int .i64 x.t] 48)).heap.size := by simp
      have hra : w3.heap.size ≤ wr.heap.size := hx.size
      have hnx : (Value.slice VA M.length cva).ownBlock ≠ some wr.heap.size := fun e => by have := own_lt hown e; omega
      replace hown := hown.alloc (.cells #[.int .i64 x.f, .int .i64 x.t] 48)
      clear p0 p1 hx
      generalize wr.alloc (.cells #[.int .i64 x.f, .int .i64 x.t] 48) = wa at *
      generalize hxb : wr.heap.size = xb at *
      have HXB := Lib.hid hxb
      clear hxb
      clear C1
      have C1 := hxa.cell c1
      go_loop [6] (fun j => ∃ j' : Nat, j = .int .i64 j' ∧ j' ≤ b.length ∧ Hid (∀ q (h : q < b.length), q < j' → b[q].t ≤ x.f)) (fun j => b.length - (intOf j).toNat)
      case atStart => exact ⟨j0, rfl, hj0, HJ⟩
      case round =>
        obtain ⟨j, rfl, hj, HJ2⟩ := hrel
        by_cases hjl : j < b.length
        · obtain ⟨b2, o2, rfl, q0, q1⟩ := hb.ext hxa j hjl
          have hjs : b[j].t ≤ x.f → ∀ q (h : q < b.length), q < j + 1 → b[q].t ≤ x.f := fun h q hq hqj => by
            rcases Nat.lt_or_ge q j with h1 | h1
            · exact HJ2.out q hq h1
            · obtain rfl : q = j := by omega
              exact h
          have HJS := Lib.hid hjs
          obtain ⟨u, hu⟩ : ∃ u, b[j] = u := ⟨_, rfl⟩
          rw [hu] at q0 q1 HJS
          have HU := Lib.hid hu
          clear hjs hu hb
          by_cases e1 : u.t ≤ x.f
          · have HJ3 := Lib.hid (HJS.out e1)
            clear HJS HJ2
            go_wp2
            go_round
            case rel => exact ⟨j + 1, by go_num, by omega, HJ3⟩
            case measure => simp [intOf]; omega
          · clear HJS
            go_wp2
            have HS := Lib.hid (less_start HOK.out HT.out HO.out j hj HJ2.out)
            go_loopw [5, 9, 10] (fun v at_ kk wr => ∃ (k p' : Nat) (M' : List Sp) (t : Int), kk = .int .i64 k ∧ at_ = .int .i64 t ∧ Hid (LessK T x b M' i t k p') ∧ wr.ownsRow w3.heap.size 48 2 v M'.length (spans M') ∧ Ext w3 wr ∧ wr.cell? ⟨xb, 1, none⟩ = some (.int .i64 x.t) ∧ v.ownBlock ≠ some xb ∧ xb < wr.heap.size) (fun _ _ kk _ => b.length - (intOf kk).toNat)
            case atStart => exact ⟨j, p, M, x.f, rfl, rfl, HS, hown, hxa, d1, hnx, hrb⟩
            case round =>
              obtain ⟨k, p', M', t, rfl, rfl, HK, hown, hx, ct, hne, hxw⟩ := hrel
              have hkk := HK.out.1
              have hpp := HK.out.2.2.2.1
              have hml := HK.out.2.2.1
              have hb3 := hx.size
              have cs := hx.cell c1
              obtain ⟨V, cv, rfl, _⟩ := own_shape hown
              by_cases hkl : k < b.length
              · obtain ⟨b3, o3, hB, r0, r1⟩ := HB.out.ext hx k hkl
                cases hB
                have HPUT := Lib.hid (fun (h1 : b[k].f < x.t) (h2 : t < b[k].f) => less_put HNB.out HOK.out HT.out HK.out hkl h1 h2)
                have HSK := Lib.hid (fun (h1 : b[k].f ≤ t) => less_skip HK.out hkl h1)
                have HKE : Hid (x.t ≤ b[k].f → ∀ h : k < b.length, x.t ≤ b[k].f) := Lib.hid (fun h1 _ => h1)
                obtain ⟨u, hu⟩ : ∃ u, b[k] = u := ⟨_, rfl⟩
                have huok := HNB.out.get hkl
                rw [hu] at r0 r1 HPUT HSK huok HKE
                obtain ⟨u1, u2, u3⟩ := huok
                have HU := Lib.hid hu
                have hbb : b2 < w3.heap.size := HBX.out (by omega) _ _ rfl
                have i0 : (0 : Int) ≤ (k : Int) := by omega
                have i1 : (k : Int) < (b.length : Int) := by omega
                have ht0 := HK.out.2.2.2.2.2.2.1
                clear hu
                by_cases e1 : u.f < x.t
                · clear HKE
                  go_wp2
                  refine wp_region_ext_lit (by kernel_rfl) (by kernel_rfl) ?_
                  intro X _ g hg hg'
                  have k0 : ∀ n, (g n).cell? ⟨w.heap.size + 1, 0, none⟩ = some (.slice (some ⟨b2, o2, none⟩) b.length d) := fun n => (hg n).cell cs
                  have k1 : ∀ n, (g n).cell? ⟨xb, 1, none⟩ = some (.int .i64 x.t) := fun n => (hg n).cell ct
                  have k2 : ∀ n, (g n).cell? ⟨b2, o2 + k * 2, none⟩ = some (.int .i64 u.f) := fun n => (hg n).cell r0
                  repeat (go_big_quiet_step (fail))
                  refine wpQuiet_nil ?_
                  rintro w' ⟨n, rfl⟩
                  have hxg := hg n
                  clear hg hg' k0 k1 k2
                  replace hx := hx.trans hxg
                  replace hown := ownsRow_ext hown hxg
                  replace ct := hxg.cell ct
                  replace cs := hxg.cell cs
                  replace hb3 := hx.size
                  replace hxw := Nat.lt_of_lt_of_le hxw hxg.size
                  replace r0 := hxg.cell r0
                  replace r1 := hxg.cell r1
                  clear hxg
                  by_cases e2 : t < u.f
                  · have HG := Lib.hid (HPUT.out e1 e2)
                    clear HPUT HSK HK
                    go_wp2_with (at_builtin; refine wpList_append_new _ rfl _ _ 22 rfl w3.heap.size 48 _ 2 16 Try.underlying22 infoSpan rfl (by omega) _ _ _ rfl hown 1 1 _ (by simp) _ rfl rfl (by simp [Value.oneCell']) (by simp [maxLen]; omega) (by omega) hb3 ?_; intro v1 w1 hown1 hm; have hx1 := ext_moved hx hown hm; have t1 := (moved_cell hm (p := ⟨xb, 1, none⟩) hxw hne).trans ct; have hne1 := moved_ne hm hxw hne; have hxw1 := Nat.lt_of_lt_of_le hxw hm.1.size; have r2 := far_cell hown hm hbb r1; have cs1 := hx1.cell c1)
                    go_roundw
                    case rel => exact ⟨k + 1, k + 1, M' ++ [⟨t, u.f⟩], max t u.t, by go_num, rfl, HG, by rw [spans_append, spans_one, List.length_append]; exact hown1, hx1, t1, hne1, hxw1⟩
                    case measure => simp [intOf]; omega
                  · have HG := Lib.hid (HSK.out (by omega))
                    clear HPUT HSK HK
                    go_wp2
                    go_roundw
                    case rel => exact ⟨k + 1, p', M', max t u.t, by go_num, rfl, HG, hown, hx, ct, hne, hxw⟩
                    case measure => simp [intOf]; omega
                · replace HKE := Lib.hid (HKE.out (by omega))
                  clear HPUT HSK
                  go_wp2
                  refine wp_region_ext_lit (by kernel_rfl) (by kernel_rfl) ?_
                  intro X _ g hg hg'
                  have k0 : ∀ n, (g n).cell? ⟨w.heap.size + 1, 0, none⟩ = some (.slice (some ⟨b2, o2, none⟩) b.length d) := fun n => (hg n).cell cs
                  have k1 : ∀ n, (g n).cell? ⟨xb, 1, none⟩ = some (.int .i64 x.t) := fun n => (hg n).cell ct
                  have k2 : ∀ n, (g n).cell? ⟨b2, o2 + k * 2, none⟩ = some (.int .i64 u.f) := fun n => (hg n).cell r0
                  repeat (go_big_quiet_step (fail))
                  refine wpQuiet_nil ?_
                  rintro w' ⟨n, rfl⟩
                  have hxg := hg n
                  clear hg hg' k0 k1 k2
                  replace hx := hx.trans hxg
                  replace hown := ownsRow_ext hown hxg
                  replace ct := hxg.cell ct
                  replace cs := hxg.cell cs
                  replace hb3 := hx.size
                  replace hxw := Nat.lt_of_lt_of_le hxw hxg.size
                  replace r0 := hxg.cell r0
                  replace r1 := hxg.cell r1
                  clear hxg
                  clear r0 r1
                  have HLL := Lib.hid (less_last HNB.out HOK.out HK.out HKE.out hj HJ2.out)
                  have hlen := HK.out.2.2.1
                  have hpl := HK.out.2.2.2.1
                  clear HKE
                  by_cases e3 : t < x.t
                  · have HG := Lib.hid (HLL.out)
                    rw [if_pos e3] at HG
                    clear HLL
                    go_wp2_with (at_builtin; refine wpList_append_new _ rfl _ _ 22 rfl w3.heap.size 48 _ 2 16 Try.underlying22 infoSpan rfl (by omega) _ _ _ rfl hown 1 1 _ (by simp) _ rfl rfl (by simp [Value.oneCell']) (by simp [maxLen]; omega) (by omega) hb3 ?_; intro v1 w1 hown1 hm; have hx1 := ext_moved hx hown hm; have t1 := (moved_cell hm (p := ⟨xb, 1, none⟩) hxw hne).trans ct; have hne1 := moved_ne hm hxw hne; have hxw1 := Nat.lt_of_lt_of_le hxw hm.1.size)
                    clear HK
                    go_roundw
                    case rel => exact ⟨i + 1, j, p', M' ++ [⟨t, x.t⟩], by omega, by go_num, rfl, by rw [HTS.out]; exact HG.out, by rw [spans_append, spans_one, List.length_append]; exact hown1, hx1⟩
                    case measure => simp [intOf]; omega
                  · have HG := Lib.hid (HLL.out)
                    rw [if_neg e3] at HG
                    clear HLL
                    go_wp2
                    clear HK
                    go_roundw
                    case rel => exact ⟨i + 1, j, p', M', by omega, by go_num, rfl, by rw [HTS.out]; exact HG.out, hown, hx⟩
                    case measure => simp [intOf]; omega
              · obtain rfl : k = b.length := by omega
                have HKE : Hid (∀ h : b.length < b.length, x.t ≤ b[b.length].f) := Lib.hid (fun h => absurd h (by omega))
                go_wp2
                refine wp_region_ext_lit (by kernel_rfl) (by kernel_rfl) ?_
                intro X _ g hg hg'
                have k0 : ∀ n, (g n).cell? ⟨w.heap.size + 1, 0, none⟩ = some (.slice (some ⟨b2, o2, none⟩) b.length d) := fun n => (hg n).cell cs
                have k1 : ∀ n, (g n).cell? ⟨xb, 1, none⟩ = some (.int .i64 x.t) := fun n => (hg n).cell ct
                repeat (go_big_quiet_step (fail))
                refine wpQuiet_nil ?_
                rintro w' ⟨n, rfl⟩
                have hxg := hg n
                clear hg hg' k0 k1 
                replace hx := hx.trans hxg
                replace hown := ownsRow_ext hown hxg
                replace ct := hxg.cell ct
                replace cs := hxg.cell cs
                replace hb3 := hx.size
                replace hxw := Nat.lt_of_lt_of_le hxw hxg.size
                clear hxg
                have HLL := Lib.hid (less_last HNB.out HOK.out HK.out HKE.out hj HJ2.out)
                have hlen := HK.out.2.2.1
                have hpl := HK.out.2.2.2.1
                clear HKE
                by_cases e3 : t < x.t
                · have HG := Lib.hid (HLL.out)
                  rw [if_pos e3] at HG
                  clear HLL
                  go_wp2_with (at_builtin; refine wpList_append_new _ rfl _ _ 22 rfl w3.heap.size 48 _ 2 16 Try.underlying22 infoSpan rfl (by omega) _ _ _ rfl hown 1 1 _ (by simp) _ rfl rfl (by simp [Value.oneCell']) (by simp [maxLen]; omega) (by omega) hb3 ?_; intro v1 w1 hown1 hm; have hx1 := ext_moved hx hown hm; have t1 := (moved_cell hm (p := ⟨xb, 1, none⟩) hxw hne).trans ct; have hne1 := moved_ne hm hxw hne; have hxw1 := Nat.lt_of_lt_of_le hxw hm.1.size)
                  clear HK
                  go_roundw
                  case rel => exact ⟨i + 1, j, p', M' ++ [⟨t, x.t⟩], by omega, by go_num, rfl, by rw [HTS.out]; exact HG.out, by rw [spans_append, spans_one, List.length_append]; exact hown1, hx1⟩
                  case measure => simp [intOf]; omega
                · have HG := Lib.hid (HLL.out)
                  rw [if_neg e3] at HG
                  clear HLL
                  go_wp2
                  clear HK
                  go_roundw
                  case rel => exact ⟨i + 1, j, p', M', by omega, by go_num, rfl, by rw [HTS.out]; exact HG.out, hown, hx⟩
                  case measure => simp [intOf]; omega
        · obtain rfl : j = b.length := by omega
          clear hb
          go_wp2
          have HS := Lib.hid (less_start HOK.out HT.out HO.out b.length hj HJ2.out)
          go_loopw [5, 9, 10] (fun v at_ kk wr => ∃ (k p' : Nat) (M' : List Sp) (t : Int), kk = .int .i64 k ∧ at_ = .int .i64 t ∧ Hid (LessK T x b M' i t k p') ∧ wr.ownsRow w3.heap.size 48 2 v M'.length (spans M') ∧ Ext w3 wr ∧ wr.cell? ⟨xb, 1, none⟩ = some (.int .i64 x.t) ∧ v.ownBlock ≠ some xb ∧ xb < wr.heap.size) (fun _ _ kk _ => b.length - (intOf kk).toNat)
          case atStart => exact ⟨b.length, p, M, x.f, rfl, rfl, HS, hown, hxa, d1, hnx, hrb⟩
          case round =>
            obtain ⟨k, p', M', t, rfl, rfl, HK, hown, hx, ct, hne, hxw⟩ := hrel
            have hkk := HK.out.1
            have hpp := HK.out.2.2.2.1
            have hml := HK.out.2.2.1
            have hb3 := hx.size
            have cs := hx.cell c1
            obtain ⟨V, cv, rfl, _⟩ := own_shape hown
            by_cases hkl : k < b.length
            · obtain ⟨b3, o3, hB, r0, r1⟩ := HB.out.ext hx k hkl
              cases hB
              have HPUT := Lib.hid (fun (h1 : b[k].f < x.t) (h2 : t < b[k].f) => less_put HNB.out HOK.out HT.out HK.out hkl h1 h2)
              have HSK := Lib.hid (fun (h1 : b[k].f ≤ t) => less_skip HK.out hkl h1)
              have HKE : Hid (x.t ≤ b[k].f → ∀ h : k < b.length, x.t ≤ b[k].f) := Lib.hid (fun h1 _ => h1)
              obtain ⟨u, hu⟩ : ∃ u, b[k] = u := ⟨_, rfl⟩
              have huok := HNB.out.get hkl
              rw [hu] at r0 r1 HPUT HSK huok HKE
              obtain ⟨u1, u2, u3⟩ := huok
              have HU := Lib.hid hu
              have hbb : b3 < w3.heap.size := HBX.out (by omega) _ _ rfl
              have i0 : (0 : Int) ≤ (k : Int) := by omega
              have i1 : (k : Int) < (b.length : Int) := by omega
              have ht0 := HK.out.2.2.2.2.2.2.1
              clear hu
              by_cases e1 : u.f < x.t
              · clear HKE
                go_wp2
                refine wp_region_ext_lit (by kernel_rfl) (by kernel_rfl) ?_
                intro X _ g hg hg'
                have k0 : ∀ n, (g n).cell? ⟨w.heap.size + 1, 0, none⟩ = some (.slice (some ⟨b3, o3, none⟩) b.length d) := fun n => (hg n).cell cs
                have k1 : ∀ n, (g n).cell? ⟨xb, 1, none⟩ = some (.int .i64 x.t) := fun n => (hg n).cell ct
                have k2 : ∀ n, (g n).cell? ⟨b3, o3 + k * 2, none⟩ = some (.int .i64 u.f) := fun n => (hg n).cell r0
                repeat (go_big_quiet_step (fail))
                refine wpQuiet_nil ?_
                rintro w' ⟨n, rfl⟩
                have hxg := hg n
                clear hg hg' k0 k1 k2
                replace hx := hx.trans hxg
                replace hown := ownsRow_ext hown hxg
                replace ct := hxg.cell ct
                replace cs := hxg.cell cs
                replace hb3 := hx.size
                replace hxw := Nat.lt_of_lt_of_le hxw hxg.size
                replace r0 := hxg.cell r0
                replace r1 := hxg.cell r1
                clear hxg
                by_cases e2 : t < u.f
                · have HG := Lib.hid (HPUT.out e1 e2)
                  clear HPUT HSK HK
                  go_wp2_with (at_builtin; refine wpList_append_new _ rfl _ _ 22 rfl w3.heap.size 48 _ 2 16 Try.underlying22 infoSpan rfl (by omega) _ _ _ rfl hown 1 1 _ (by simp) _ rfl rfl (by simp [Value.oneCell']) (by simp [maxLen]; omega) (by omega) hb3 ?_; intro v1 w1 hown1 hm; have hx1 := ext_moved hx hown hm; have t1 := (moved_cell hm (p := ⟨xb, 1, none⟩) hxw hne).trans ct; have hne1 := moved_ne hm hxw hne; have hxw1 := Nat.lt_of_lt_of_le hxw hm.1.size; have r2 := far_cell hown hm hbb r1; have cs1 := hx1.cell c1)
                  go_roundw
                  case rel => exact ⟨k + 1, k + 1, M' ++ [⟨t, u.f⟩], max t u.t, by go_num, rfl, HG, by rw [spans_append, spans_one, List.length_append]; exact hown1, hx1, t1, hne1, hxw1⟩
                  case measure => simp [intOf]; omega
                · have HG := Lib.hid (HSK.out (by omega))
                  clear HPUT HSK HK
                  go_wp2
                  go_roundw
                  case rel => exact ⟨k + 1, p', M', max t u.t, by go_num, rfl, HG, hown, hx, ct, hne, hxw⟩
                  case measure => simp [intOf]; omega
              · replace HKE := Lib.hid (HKE.out (by omega))
                clear HPUT HSK
                go_wp2
                refine wp_region_ext_lit (by kernel_rfl) (by kernel_rfl) ?_
                intro X _ g hg hg'
                have k0 : ∀ n, (g n).cell? ⟨w.heap.size + 1, 0, none⟩ = some (.slice (some ⟨b3, o3, none⟩) b.length d) := fun n => (hg n).cell cs
                have k1 : ∀ n, (g n).cell? ⟨xb, 1, none⟩ = some (.int .i64 x.t) := fun n => (hg n).cell ct
                have k2 : ∀ n, (g n).cell? ⟨b3, o3 + k * 2, none⟩ = some (.int .i64 u.f) := fun n => (hg n).cell r0
                repeat (go_big_quiet_step (fail))
                refine wpQuiet_nil ?_
                rintro w' ⟨n, rfl⟩
                have hxg := hg n
                clear hg hg' k0 k1 k2
                replace hx := hx.trans hxg
                replace hown := ownsRow_ext hown hxg
                replace ct := hxg.cell ct
                replace cs := hxg.cell cs
                replace hb3 := hx.size
                replace hxw := Nat.lt_of_lt_of_le hxw hxg.size
                replace r0 := hxg.cell r0
                replace r1 := hxg.cell r1
                clear hxg
                clear r0 r1
                have HLL := Lib.hid (less_last HNB.out HOK.out HK.out HKE.out hj HJ2.out)
                have hlen := HK.out.2.2.1
                have hpl := HK.out.2.2.2.1
                clear HKE
                by_cases e3 : t < x.t
                · have HG := Lib.hid (HLL.out)
                  rw [if_pos e3] at HG
                  clear HLL
                  go_wp2_with (at_builtin; refine wpList_append_new _ rfl _ _ 22 rfl w3.heap.size 48 _ 2 16 Try.underlying22 infoSpan rfl (by omega) _ _ _ rfl hown 1 1 _ (by simp) _ rfl rfl (by simp [Value.oneCell']) (by simp [maxLen]; omega) (by omega) hb3 ?_; intro v1 w1 hown1 hm; have hx1 := ext_moved hx hown hm; have t1 := (moved_cell hm (p := ⟨xb, 1, none⟩) hxw hne).trans ct; have hne1 := moved_ne hm hxw hne; have hxw1 := Nat.lt_of_lt_of_le hxw hm.1.size)
                  clear HK
                  go_roundw
                  case rel => exact ⟨i + 1, b.length, p', M' ++ [⟨t, x.t⟩], by omega, by go_num, rfl, by rw [HTS.out]; exact HG.out, by rw [spans_append, spans_one, List.length_append]; exact hown1, hx1⟩
                  case measure => simp [intOf]; omega
                · have HG := Lib.hid (HLL.out)
                  rw [if_neg e3] at HG
                  clear HLL
                  go_wp2
                  clear HK
                  go_roundw
                  case rel => exact ⟨i + 1, b.length, p', M', by omega, by go_num, rfl, by rw [HTS.out]; exact HG.out, hown, hx⟩
                  case measure => simp [intOf]; omega
            · obtain rfl : k = b.length := by omega
              have HKE : Hid (∀ h : b.length < b.length, x.t ≤ b[b.length].f) := Lib.hid (fun h => absurd h (by omega))
              go_wp2
              refine wp_region_ext_lit (by kernel_rfl) (by kernel_rfl) ?_
              intro X _ g hg hg'
              have k0 : ∀ n, (g n).cell? ⟨w.heap.size + 1, 0, none⟩ = some (.slice B b.length d) := fun n => (hg n).cell cs
              have k1 : ∀ n, (g n).cell? ⟨xb, 1, none⟩ = some (.int .i64 x.t) := fun n => (hg n).cell ct
              repeat (go_big_quiet_step (fail))
              refine wpQuiet_nil ?_
              rintro w' ⟨n, rfl⟩
              have hxg := hg n
              clear hg hg' k0 k1 
              replace hx := hx.trans hxg
              replace hown := ownsRow_ext hown hxg
              replace ct := hxg.cell ct
              replace cs := hxg.cell cs
              replace hb3 := hx.size
              replace hxw := Nat.lt_of_lt_of_le hxw hxg.size
              clear hxg
              have HLL := Lib.hid (less_last HNB.out HOK.out HK.out HKE.out hj HJ2.out)
              have hlen := HK.out.2.2.1
              have hpl := HK.out.2.2.2.1
              clear HKE
              by_cases e3 : t < x.t
              · have HG := Lib.hid (HLL.out)
                rw [if_pos e3] at HG
                clear HLL
                go_wp2_with (at_builtin; refine wpList_append_new _ rfl _ _ 22 rfl w3.heap.size 48 _ 2 16 Try.underlying22 infoSpan rfl (by omega) _ _ _ rfl hown 1 1 _ (by simp) _ rfl rfl (by simp [Value.oneCell']) (by simp [maxLen]; omega) (by omega) hb3 ?_; intro v1 w1 hown1 hm; have hx1 := ext_moved hx hown hm; have t1 := (moved_cell hm (p := ⟨xb, 1, none⟩) hxw hne).trans ct; have hne1 := moved_ne hm hxw hne; have hxw1 := Nat.lt_of_lt_of_le hxw hm.1.size)
                clear HK
                go_roundw
                case rel => exact ⟨i + 1, b.length, p', M' ++ [⟨t, x.t⟩], by omega, by go_num, rfl, by rw [HTS.out]; exact HG.out, by rw [spans_append, spans_one, List.length_append]; exact hown1, hx1⟩
                case measure => simp [intOf]; omega
              · have HG := Lib.hid (HLL.out)
                rw [if_neg e3] at HG
                clear HLL
                go_wp2
                clear HK
                go_roundw
                case rel => exact ⟨i + 1, b.length, p', M', by omega, by go_num, rfl, by rw [HTS.out]; exact HG.out, hown, hx⟩
                case measure => simp [intOf]; omega
    · obtain rfl : i = a.length := by omega
      rw [List.take_length] at hO
      have hG := less_end HNA.out HNB.out hO
      have hM := hO.2.2.1
      have hp := hO.2.2.2.1
      subst hG
      have hL : (lessS a b).length ≤ a.length + b.length := by omega
      have k2 := hx.cell c2
      have kf : wr.frozen? ⟨w.heap.size + 1 + 1, 0, none⟩ = false := (hx.frozen (by simpa using z2)).trans f2
      have hx2 := hx0.trans hx
      have z2' := Nat.lt_of_lt_of_le z2 hx.size
      obtain ⟨V, cv, rfl, _⟩ := own_shape hown
      clear hO ha hb HB HBX c1 c2 f2 hM hp
      go_wp2
      refine bodyPost_ret (v := .agg #[.slice V (lessS a b).length cv]) (by simp [results, Try.results28, go_sem, k2]) rfl ⟨⟨V, cv, rfl, Lib.hid ?_, Lib.hid (newA_of hown hx0.size), ?_⟩, hL⟩
      · exact sat_set hown (by exact z2) _
      · exact hx2.setCell (by show w.heap.size ≤ w.heap.size + 1 + 1; omega) _
end Go.Proofs.Ytdcdnnbijjcfmaa
