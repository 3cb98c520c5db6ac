/- The contract of Set.Or. -/
import Derived.Test.YtdcdnnbijjcfmaaGather
import Derived.Deep.Cut
namespace Go.Proofs.Ytdcdnnbijjcfmaa
open Go.RowKit

/-- What the merge of two sets has so far. -/
def OrInv (a b M : List Sp) (i j : Nat) : Prop :=
  i ≤ a.length ∧ j ≤ b.length ∧ M.length = i + j ∧ Rising M ∧ (∀ s, s ∈ M ↔ s ∈ a.take i ∨ s ∈ b.take j) ∧ (∀ s ∈ M, (∀ h : i < a.length, s.f ≤ a[i].f) ∧ (∀ h : j < b.length, s.f ≤ b[j].f))
theorem orinv_nil (a b : List Sp) : OrInv a b [] 0 0 := ⟨Nat.zero_le _, Nat.zero_le _, rfl, List.Pairwise.nil, by simp, by simp⟩
theorem rising_snoc {M : List Sp} {s : Sp} (h : Rising M) (hs : ∀ u ∈ M, u.f ≤ s.f) : Rising (M ++ [s]) :=
  List.pairwise_append.2 ⟨h, by simp, fun u hu v hv => by simp at hv; subst hv; exact hs u hu⟩
theorem orinv_a {a b M : List Sp} {i j : Nat} (ha : Norm a) (h : OrInv a b M i j) (hi : i < a.length) (hj : ∀ h : j < b.length, a[i].f ≤ b[j].f) : OrInv a b (M ++ [a[i]]) (i + 1) j := by
  obtain ⟨h1, h2, h3, h4, h5, h6⟩ := h
  refine ⟨hi, h2, by simp; omega, rising_snoc h4 (fun u hu => (h6 u hu).1 hi), fun s => ?_, fun s hs => ?_⟩
  · rw [List.mem_append, h5, List.take_succ_eq_append_getElem hi, List.mem_append]
    constructor
    · rintro ((h | h) | h) <;> simp [h]
      all_goals (simp at h; simp [h])
    · rintro ((h | h) | h) <;> simp [h]
      all_goals (simp at h; simp [h])
  · rcases List.mem_append.1 hs with hs | hs
    · refine ⟨fun h7 => ?_, (h6 s hs).2⟩
      have := (h6 s hs).1 hi
      have := ha.lt (i := i) (j := i + 1) (by omega) h7
      have := (ha.get hi).2.1
      omega
    · simp at hs
      subst hs
      refine ⟨fun h7 => ?_, hj⟩
      have := ha.lt (i := i) (j := i + 1) (by omega) h7
      have := (ha.get hi).2.1
      omega
theorem orinv_b {a b M : List Sp} {i j : Nat} (hb : Norm b) (h : OrInv a b M i j) (hj : j < b.length) (hi : ∀ h : i < a.length, b[j].f ≤ a[i].f) : OrInv a b (M ++ [b[j]]) i (j + 1) := by
  obtain ⟨h1, h2, h3, h4, h5, h6⟩ := h
  refine ⟨h1, hj, by simp; omega, rising_snoc h4 (fun u hu => (h6 u hu).2 hj), fun s => ?_, fun s hs => ?_⟩
  · rw [List.mem_append, h5, List.take_succ_eq_append_getElem hj, List.mem_append]
    constructor
    · rintro ((h | h) | h) <;> simp [h]
      all_goals (simp at h; simp [h])
    · rintro (h | (h | h)) <;> simp [h]
      all_goals (simp at h; simp [h])
  · rcases List.mem_append.1 hs with hs | hs
    · refine ⟨(h6 s hs).1, fun h7 => ?_⟩
      have := (h6 s hs).2 hj
      have := hb.lt (i := j) (j := j + 1) (by omega) h7
      have := (hb.get hj).2.1
      omega
    · simp at hs
      subst hs
      refine ⟨hi, fun h7 => ?_⟩
      have := hb.lt (i := j) (j := j + 1) (by omega) h7
      have := (hb.get hj).2.1
      omega
theorem orinv_end {a b M : List Sp} (ha : Norm a) (hb : Norm b) (h : OrInv a b M a.length b.length) : gath M = orS a b := by
  obtain ⟨_, _, _, h4, h5, _⟩ := h
  simp only [List.take_length] at h5
  have hk : ∀ s ∈ a ++ b, s.ok := fun s hs => (List.mem_append.1 hs).elim (ha.1 s) (hb.1 s)
  refine gath_of (fun s hs => hk s (List.mem_append.2 ((h5 s).1 hs))) h4 (fun s => ?_)
  rw [h5, List.mem_append]
  exact ⟨fun h => ⟨h, hk s (List.mem_append.2 h)⟩, fun h => h.1⟩

def OrLoop (w3 : World) (a b : List Sp) (v : Value) (i j : Nat) (wr : World) : Prop :=
  ∃ M, OrInv a b M i j ∧ wr.ownsRow w3.heap.size 48 2 v M.length (spans M) ∧ Ext w3 wr

set_option maxHeartbeats 8000000 in
set_option maxRecDepth 100000 in
theorem or_calls (A : Option Addr) (c : Nat) (a : List Sp) (B : Option Addr) (d : Nat) (b : List Sp) (w : World) (ha : SAt w A a) (hb : SAt w B b) (na : Norm a) (nb : Norm b) (hla : a.length ≤ 400000) (hlb : b.length ≤ 400000) :
    Calls Try.prog 27 #[.agg #[.slice A a.length c], .agg #[.slice B b.length d]] w (SetPost w (orS a b)) := by
  have hx3 : Ext w (((w.alloc (.cells #[.slice A a.length c] 30)).alloc (.cells #[.slice B b.length d] 30)).alloc (.cells #[.slice none 0 0] 30)) := (((Ext.refl w).alloc _).alloc _).alloc _
  go_enter Try.func27, Try.ntmps27
  go_upto_region 1 with (fail)
  have c1 : (((w.alloc (.cells #[.slice A a.length c] 30)).alloc (.cells #[.slice B b.length d] 30)).alloc (.cells #[.slice none 0 0] 30)).cell? ⟨w.heap.size, 0, none⟩ = some (.slice A a.length c) := by simp [go_sem]
  have c2 : (((w.alloc (.cells #[.slice A a.length c] 30)).alloc (.cells #[.slice B b.length d] 30)).alloc (.cells #[.slice none 0 0] 30)).cell? ⟨w.heap.size + 1, 0, none⟩ = some (.slice B b.length d) := by simp [go_sem]
  have c3 : (((w.alloc (.cells #[.slice A a.length c] 30)).alloc (.cells #[.slice B b.length d] 30)).alloc (.cells #[.slice none 0 0] 30)).cell? ⟨w.heap.size + 1 + 1, 0, none⟩ = some (.slice none 0 0) := by simp [go_sem]
  have f3 : (((w.alloc (.cells #[.slice A a.length c] 30)).alloc (.cells #[.slice B b.length d] 30)).alloc (.cells #[.slice none 0 0] 30)).frozen? ⟨w.heap.size + 1 + 1, 0, none⟩ = false := by simp [go_sem]
  have z3 : w.heap.size + 1 + 1 < (((w.alloc (.cells #[.slice A a.length c] 30)).alloc (.cells #[.slice B b.length d] 30)).alloc (.cells #[.slice none 0 0] 30)).heap.size := by simp
  generalize (((w.alloc (.cells #[.slice A a.length c] 30)).alloc (.cells #[.slice B b.length d] 30)).alloc (.cells #[.slice none 0 0] 30)) = w3 at *
  have zr : w.heap.size ≤ w.heap.size + 1 + 1 := by omega
  obtain ⟨i0, hi, hz0, hz1, hz2⟩ := info_parts infoSpan
  replace ha := ha.ext hx3
  replace hb := hb.ext hx3
  go_wp2_with (refine wpList_make_own _ rfl _ _ 22 rfl w3.heap.size 48 i0 (.agg #[.int .i64 0, .int .i64 0]) 2 Try.underlying22 hi hz0 hz1 .i64 .i64 _ (a.length + b.length) rfl rfl (by simp) (by rw [hz2]; omega) (by simp [maxLen]; omega) (Nat.le_refl _) ?_; intro w4 hown0 hg0)
  have hx4 : Ext w3 w4 := ext_of_grown hg0
  clear hg0 hi hz0 hz1 hz2
  go_loopw [5, 6, 7] (fun v i j wr => ∃ p q : Nat, i = .int .i64 p ∧ j = .int .i64 q ∧ OrLoop w3 a b v p q wr) (fun _ i j _ => a.length + b.length - ((intOf i).toNat + (intOf j).toNat))
  case atStart => exact ⟨0, 0, rfl, rfl, [], orinv_nil a b, hown0, hx4⟩
  case round =>
    obtain ⟨p, q, rfl, rfl, M, hI, hown, hx⟩ := hrel
    have hp := hI.1
    have hq := hI.2.1
    have hM := hI.2.2.1
    replace c1 := hx.cell c1
    replace c2 := hx.cell c2
    have hown1 : ∀ w' : World, Ext wr w' → w'.ownsRow w3.heap.size 48 2 _ M.length (spans M) := fun w' h => ownsRow_ext hown h
    obtain ⟨V, cv, rfl, _⟩ := own_shape hown
    by_cases hpl : p < a.length
    · obtain ⟨b1, o1, rfl, p0, p1⟩ := ha.ext hx p hpl
      by_cases hql : q < b.length
      · obtain ⟨b2, o2, rfl, q0, q1⟩ := hb.ext hx q hql
        have hIa : a[p].f ≤ b[q].f → OrInv a b (M ++ [a[p]]) (p + 1) q := fun hle => orinv_a na hI hpl (fun _ => hle)
        have hIb : b[q].f ≤ a[p].f → OrInv a b (M ++ [b[q]]) p (q + 1) := fun hle => orinv_b nb hI hql (fun _ => hle)
        generalize hs : a[p] = s at *
        generalize hu : b[q] = u at *
        have HIA := Lib.hid hIa
        have HIB := Lib.hid hIb
        have eq0 : ((q : Int) == (b.length : Int)) = false := by simp; omega
        have HO := Lib.hid hown1
        clear hIa hIb hI ha hb hs hu hown1 hown
        cases e1 : decide (s.f ≤ u.f)
        all_goals
          go_wp2
          refine wp_region_ext_lit (by kernel_rfl) (by kernel_rfl) ?_
          intro X _ g hg hg'
          have k1 : ∀ n, (g n).cell? ⟨w.heap.size, 0, none⟩ = some (.slice (some ⟨b1, o1, none⟩) a.length c) := fun n => (hg n).cell c1
          have k2 : ∀ n, (g n).cell? ⟨w.heap.size + 1, 0, none⟩ = some (.slice (some ⟨b2, o2, none⟩) b.length d) := fun n => (hg n).cell c2
          have k3 : ∀ n, (g n).cell? ⟨b1, o1 + p * 2, none⟩ = some (.int .i64 s.f) := fun n => (hg n).cell p0
          have k4 : ∀ n, (g n).cell? ⟨b1, o1 + p * 2 + 1, none⟩ = some (.int .i64 s.t) := fun n => (hg n).cell p1
          have k5 : ∀ n, (g n).cell? ⟨b2, o2 + q * 2, none⟩ = some (.int .i64 u.f) := fun n => (hg n).cell q0
          have k6 : ∀ n, (g n).cell? ⟨b2, o2 + q * 2 + 1, none⟩ = some (.int .i64 u.t) := fun n => (hg n).cell q1
          repeat (go_big_quiet_step (fail))
          refine wpQuiet_nil ?_
          rintro w' ⟨n, rfl⟩
          replace k1 := k1 n
          replace k2 := k2 n
          replace k3 := k3 n
          replace k4 := k4 n
          replace k5 := k5 n
          replace k6 := k6 n
          have hxg := hg n
          clear hg hg' c1 c2 p0 p1 q0 q1
          generalize g n = wg at *
        · have e2 : u.f ≤ s.f := by have : ¬ s.f ≤ u.f := by simpa using e1
                                    omega
          have hx2 := hx.trans hxg
          have hown1 := HO.out _ hxg
          have hb2 := hx2.size
          clear hxg hx
          go_wp2_with (at_builtin; refine wpList_append_new _ rfl _ _ 22 rfl w3.heap.size 48 _ 2 16 Try.underlying22 infoSpan rfl (by omega) _ _ _ rfl hown1 1 1 _ (by simp) _ rfl rfl (by simp [Value.oneCell']) (by simp [maxLen]; omega) (by omega) hb2 ?_; intro v1 w1 hown2 hm)
          have hx3 := ext_moved hx2 hown1 hm
          go_roundw
          case rel => exact ⟨p, q + 1, by go_num, by go_num, M ++ [u], HIB.out e2, by rw [spans_append, spans_one, List.length_append]; exact hown2, hx3⟩
          case measure => simp [intOf]; omega
        · have e2 : s.f ≤ u.f := by simpa using e1
          have hx2 := hx.trans hxg
          have hown1 := HO.out _ hxg
          have hb2 := hx2.size
          clear hxg hx
          go_wp2_with (at_builtin; refine wpList_append_new _ rfl _ _ 22 rfl w3.heap.size 48 _ 2 16 Try.underlying22 infoSpan rfl (by omega) _ _ _ rfl hown1 1 1 _ (by simp) _ rfl rfl (by simp [Value.oneCell']) (by simp [maxLen]; omega) (by omega) hb2 ?_; intro v1 w1 hown2 hm)
          have hx3 := ext_moved hx2 hown1 hm
          go_roundw
          case rel => exact ⟨p + 1, q, by go_num, by go_num, M ++ [s], HIA.out e2, by rw [spans_append, spans_one, List.length_append]; exact hown2, hx3⟩
          case measure => simp [intOf]; omega
      · obtain rfl : q = b.length := by omega
        have hIa : OrInv a b (M ++ [a[p]]) (p + 1) b.length := orinv_a na hI hpl (fun h => absurd h (by omega))
        generalize hs : a[p] = s at *
        have HIA := Lib.hid hIa
        have HO := Lib.hid hown1
        clear hIa hI ha hb hs hown1 hown hql
        generalize b.length = q at *
        go_wp2
        refine wp_region_ext_lit (by kernel_rfl) (by kernel_rfl) ?_
        intro X _ g hg hg'
        have k1 : ∀ n, (g n).cell? ⟨w.heap.size, 0, none⟩ = some (.slice (some ⟨b1, o1, none⟩) a.length c) := fun n => (hg n).cell c1
        have k2 : ∀ n, (g n).cell? ⟨w.heap.size + 1, 0, none⟩ = some (.slice B q d) := fun n => (hg n).cell c2
        have k3 : ∀ n, (g n).cell? ⟨b1, o1 + p * 2, none⟩ = some (.int .i64 s.f) := fun n => (hg n).cell p0
        have k4 : ∀ n, (g n).cell? ⟨b1, o1 + p * 2 + 1, none⟩ = some (.int .i64 s.t) := fun n => (hg n).cell p1
        repeat (go_big_quiet_step (fail))
        refine wpQuiet_nil ?_
        rintro w' ⟨n, rfl⟩
        replace k1 := k1 n
        replace k2 := k2 n
        replace k3 := k3 n
        replace k4 := k4 n
        have hxg := hg n
        clear hg hg' c1 c2 p0 p1
        generalize g n = wg at *
        have hx2 := hx.trans hxg
        have hown1 := HO.out _ hxg
        have hb2 := hx2.size
        clear hxg hx
        go_wp2_with (at_builtin; refine wpList_append_new _ rfl _ _ 22 rfl w3.heap.size 48 _ 2 16 Try.underlying22 infoSpan rfl (by omega) _ _ _ rfl hown1 1 1 _ (by simp) _ rfl rfl (by simp [Value.oneCell']) (by simp [maxLen]; omega) (by omega) hb2 ?_; intro v1 w1 hown2 hm)
        have hx3 := ext_moved hx2 hown1 hm
        go_roundw
        case rel => exact ⟨p + 1, q, by go_num, by go_num, M ++ [s], HIA.out, by rw [spans_append, spans_one, List.length_append]; exact hown2, hx3⟩
        case measure => simp [intOf]; omega
    · obtain rfl : p = a.length := by omega
      by_cases hql : q < b.length
      · obtain ⟨b2, o2, rfl, q0, q1⟩ := hb.ext hx q hql
        have hIb : OrInv a b (M ++ [b[q]]) a.length (q + 1) := orinv_b nb hI hql (fun h => absurd h (by omega))
        generalize hu : b[q] = u at *
        have HIB := Lib.hid hIb
        have HO := Lib.hid hown1
        have eq0 : ((q : Int) == (b.length : Int)) = false := by simp; omega
        clear hIb hI ha hb hu hown1 hown hpl
        generalize a.length = p at *
        go_wp2
        refine wp_region_ext_lit (by kernel_rfl) (by kernel_rfl) ?_
        intro X _ g hg hg'
        have k1 : ∀ n, (g n).cell? ⟨w.heap.size, 0, none⟩ = some (.slice A p c) := fun n => (hg n).cell c1
        have k2 : ∀ n, (g n).cell? ⟨w.heap.size + 1, 0, none⟩ = some (.slice (some ⟨b2, o2, none⟩) b.length d) := fun n => (hg n).cell c2
        have k5 : ∀ n, (g n).cell? ⟨b2, o2 + q * 2, none⟩ = some (.int .i64 u.f) := fun n => (hg n).cell q0
        have k6 : ∀ n, (g n).cell? ⟨b2, o2 + q * 2 + 1, none⟩ = some (.int .i64 u.t) := fun n => (hg n).cell q1
        repeat (go_big_quiet_step (fail))
        refine wpQuiet_nil ?_
        rintro w' ⟨n, rfl⟩
        replace k1 := k1 n
        replace k2 := k2 n
        replace k5 := k5 n
        replace k6 := k6 n
        have hxg := hg n
        clear hg hg' c1 c2 q0 q1
        generalize g n = wg at *
        have hx2 := hx.trans hxg
        have hown1 := HO.out _ hxg
        have hb2 := hx2.size
        clear hxg hx
        go_wp2_with (at_builtin; refine wpList_append_new _ rfl _ _ 22 rfl w3.heap.size 48 _ 2 16 Try.underlying22 infoSpan rfl (by omega) _ _ _ rfl hown1 1 1 _ (by simp) _ rfl rfl (by simp [Value.oneCell']) (by simp [maxLen]; omega) (by omega) hb2 ?_; intro v1 w1 hown2 hm)
        have hx3 := ext_moved hx2 hown1 hm
        go_roundw
        case rel => exact ⟨p, q + 1, by go_num, by go_num, M ++ [u], HIB.out, by rw [spans_append, spans_one, List.length_append]; exact hown2, hx3⟩
        case measure => simp [intOf]; omega
      · obtain rfl : q = b.length := by omega
        have hG := orinv_end na nb hI
        have hS : SAt wr V M := sat_of_own hown
        have k3 := hx.cell c3
        have z3' := Nat.lt_of_lt_of_le z3 hx.size
        have kf : wr.frozen? ⟨w.heap.size + 1 + 1, 0, none⟩ = false := (hx.frozen (by simpa using z3)).trans f3
        have hx2 := hx3.trans hx
        have HG := Lib.hid hG
        have hMl : M.length ≤ 1000000 := by omega
        clear hI hown1 hown ha hb c3 f3 hql hpl z3 hM hG hp hq hown0
        go_wp2_with fail
        refine (gather_calls V cv M _ hS hMl).mono ?_
        rintro e w5 ⟨v5, rfl, hown5, hx5⟩
        rw [HG.out] at hown5
        obtain ⟨A5, c5, rfl, _⟩ := own_shape hown5
        have k3 := hx5.cell k3
        have kf : w5.frozen? ⟨w.heap.size + 1 + 1, 0, none⟩ = false := (hx5.frozen (by simpa using z3')).trans kf
        have hS5 : SAt w5 A5 (orS a b) := sat_of_own hown5
        clear HG c1 c2
        generalize orS a b = R at *
        go_wp2
        refine bodyPost_ret (v := .agg #[.slice A5 R.length c5]) (by simp [results, Try.results27, go_sem, k3]) rfl ⟨A5, c5, rfl, Lib.hid ?_, Lib.hid (newA_of hown5 hx2.size), ?_⟩
        · exact sat_set hown5 (by exact z3') _
        · exact (hx2.trans hx5).setCell zr _
end Go.Proofs.Ytdcdnnbijjcfmaa
