/- The contract of Set.And. -/
import Derived.Test.YtdcdnnbijjcfmaaGather
import Derived.Test.YtdcdnnbijjcfmaaMeet
import Derived.Deep.Cut
import Derived.Deep.RegionHeld3
namespace Go.Proofs.Ytdcdnnbijjcfmaa
open Go.RowKit

theorem mem_take_succ {l : List Sp} {i : Nat} (hi : i < l.length) (x : Int) : Mem (l.take (i + 1)) x ↔ Mem (l.take i) x ∨ (l[i].f ≤ x ∧ x < l[i].t) := by
  rw [List.take_succ_eq_append_getElem hi, mem_append]
  simp [Mem]
theorem mem_of_take {l : List Sp} {i : Nat} {x : Int} (h : Mem (l.take i) x) : Mem l x := by
  obtain ⟨s, hs, k⟩ := h
  exact ⟨s, List.mem_of_mem_take hs, k⟩
theorem mem_at {l : List Sp} {i : Nat} (hi : i < l.length) {x : Int} (h : l[i].f ≤ x ∧ x < l[i].t) : Mem l x := ⟨l[i], List.getElem_mem _, h⟩
theorem mem_split {l : List Sp} (hn : Norm l) {j : Nat} (hj : j < l.length) {x : Int} (h : Mem l x) (hx : x ≤ l[j].t) : Mem (l.take j) x ∨ (l[j].f ≤ x ∧ x < l[j].t) := by
  obtain ⟨s, hs, k⟩ := h
  obtain ⟨n, hn', rfl⟩ := List.getElem_of_mem hs
  rcases Nat.lt_or_ge n j with h1 | h1
  · exact .inl ⟨l[n], by rw [List.mem_take_iff_getElem]; exact ⟨n, by omega, rfl⟩, k⟩
  · rcases Nat.lt_or_ge j n with h2 | h2
    · have := hn.lt h2 hn'; omega
    · obtain rfl : n = j := by omega
      exact .inr k

/-- What And has so far. -/
def AndInv (a b M : List Sp) (i j : Nat) : Prop :=
  i ≤ a.length ∧ j ≤ b.length ∧ M.length ≤ i + j ∧ Norm M ∧ (∀ x, Mem M x ↔ (Mem (a.take i) x ∧ Mem b x) ∨ (Mem a x ∧ Mem (b.take j) x)) ∧ (∀ (hi : i < a.length) (hj : j < b.length), ∀ v ∈ M, v.t < a[i].f ∨ v.t < b[j].f)
theorem andinv_nil (a b : List Sp) : AndInv a b [] 0 0 := ⟨Nat.zero_le _, Nat.zero_le _, Nat.le_refl _, norm_nil, by simp [Mem], by simp⟩
def meetL (s u : Sp) : List Sp := if max s.f u.f < min s.t u.t then [⟨max s.f u.f, min s.t u.t⟩] else []
theorem andinv_base {a b M : List Sp} {i j : Nat} (ha : Norm a) (hb : Norm b) (h : AndInv a b M i j) (hi : i < a.length) (hj : j < b.length) :
    Norm (M ++ meetL a[i] b[j]) ∧ (M ++ meetL a[i] b[j]).length ≤ i + j + 1 ∧ (∀ x, Mem (M ++ meetL a[i] b[j]) x ↔ Mem M x ∨ ((a[i].f ≤ x ∧ x < a[i].t) ∧ (b[j].f ≤ x ∧ x < b[j].t))) ∧ ∀ v ∈ M ++ meetL a[i] b[j], v ∈ M ∨ (v.t ≤ a[i].t ∧ v.t ≤ b[j].t) := by
  obtain ⟨h1, h2, h3, h4, h5, h6⟩ := h
  have h7 := h6 hi hj
  obtain ⟨a1, a2, a3⟩ := ha.get hi
  obtain ⟨b1, b2, b3⟩ := hb.get hj
  unfold meetL
  by_cases hc : max a[i].f b[j].f < min a[i].t b[j].t
  · rw [if_pos hc]
    refine ⟨norm_snoc.2 ⟨h4, ⟨by show 0 ≤ max a[i].f b[j].f; omega, hc, by show min a[i].t b[j].t ≤ _; omega⟩, fun v hv => by show v.t < max a[i].f b[j].f; have := h7 v hv; omega⟩, by simp; omega, fun x => ?_, fun v hv => ?_⟩
    · rw [mem_append]
      simp only [Mem, List.mem_singleton, exists_eq_left]
      constructor
      · rintro (h | h)
        · exact .inl h
        · exact .inr (by omega)
      · rintro (h | h)
        · exact .inl h
        · exact .inr (by omega)
    · rcases List.mem_append.1 hv with hv | hv
      · exact .inl hv
      · simp at hv
        subst hv
        exact .inr ⟨by show min a[i].t b[j].t ≤ _; omega, by show min a[i].t b[j].t ≤ _; omega⟩
  · rw [if_neg hc, List.append_nil]
    refine ⟨h4, by omega, fun x => ⟨fun h => .inl h, ?_⟩, fun v hv => .inl hv⟩
    rintro (h | h)
    · exact h
    · omega
theorem andinv_a {a b M : List Sp} {i j : Nat} (ha : Norm a) (hb : Norm b) (h : AndInv a b M i j) (hi : i < a.length) (hj : j < b.length) (hle : a[i].t ≤ b[j].t) : AndInv a b (M ++ meetL a[i] b[j]) (i + 1) j := by
  obtain ⟨n1, n2, n3, n4⟩ := andinv_base ha hb h hi hj
  obtain ⟨h1, h2, h3, h4, h5, h6⟩ := h
  refine ⟨hi, h2, by omega, n1, fun x => ?_, fun hi' hj' v hv => ?_⟩
  · rw [n3, h5, mem_take_succ hi]
    constructor
    · rintro ((⟨p, q⟩ | p) | ⟨p, q⟩)
      · exact .inl ⟨.inl p, q⟩
      · exact .inr p
      · exact .inl ⟨.inr p, mem_at hj q⟩
    · rintro (⟨p | p, q⟩ | p)
      · exact .inl (.inl ⟨p, q⟩)
      · rcases mem_split hb hj q (by omega) with q | q
        · exact .inl (.inr ⟨mem_at hi p, q⟩)
        · exact .inr ⟨p, q⟩
      · exact .inl (.inr p)
  · have hl := ha.lt (i := i) (j := i + 1) (by omega) hi'
    have := (ha.get hi).2.1
    rcases n4 v hv with hv | hv
    · have := h6 hi hj v hv; omega
    · omega
theorem andinv_b {a b M : List Sp} {i j : Nat} (ha : Norm a) (hb : Norm b) (h : AndInv a b M i j) (hi : i < a.length) (hj : j < b.length) (hle : b[j].t ≤ a[i].t) : AndInv a b (M ++ meetL a[i] b[j]) i (j + 1) := by
  obtain ⟨n1, n2, n3, n4⟩ := andinv_base ha hb h hi hj
  obtain ⟨h1, h2, h3, h4, h5, h6⟩ := h
  refine ⟨h1, hj, by omega, n1, fun x => ?_, fun hi' hj' v hv => ?_⟩
  · rw [n3, h5, mem_take_succ hj]
    constructor
    · rintro ((p | ⟨p, q⟩) | ⟨p, q⟩)
      · exact .inl p
      · exact .inr ⟨p, .inl q⟩
      · exact .inr ⟨mem_at hi p, .inr q⟩
    · rintro (p | ⟨p, q | q⟩)
      · exact .inl (.inl p)
      · exact .inl (.inr ⟨p, q⟩)
      · rcases mem_split ha hi p (by omega) with p | p
        · exact .inl (.inl ⟨p, mem_at hj q⟩)
        · exact .inr ⟨p, q⟩
  · have hl := hb.lt (i := j) (j := j + 1) (by omega) hj'
    have := (hb.get hj).2.1
    rcases n4 v hv with hv | hv
    · have := h6 hi hj v hv; omega
    · omega
theorem andinv_end {a b M : List Sp} {i j : Nat} (ha : Norm a) (hb : Norm b) (h : AndInv a b M i j) (he : i = a.length ∨ j = b.length) : M = andS a b := by
  obtain ⟨_, _, _, h4, h5, _⟩ := h
  refine norm_ext h4 (norm_and a b) fun x => ?_
  rw [h5, mem_and ha hb]
  rcases he with rfl | rfl
  · rw [List.take_length]
    exact ⟨fun h => h.elim id (fun h => ⟨h.1, mem_of_take h.2⟩), .inl⟩
  · rw [List.take_length]
    exact ⟨fun h => h.elim (fun h => ⟨mem_of_take h.1, h.2⟩) id, .inr⟩
theorem and_length_of {a b M : List Sp} {i j : Nat} (h : AndInv a b M i j) : M.length ≤ a.length + b.length := by
  have := h.1; have := h.2.1; have := h.2.2.1; omega

def AndLoop (w3 : World) (a b : List Sp) (v : Value) (i j : Nat) (wr : World) : Prop :=
  ∃ M, AndInv a b M i j ∧ wr.ownsRow w3.heap.size 48 2 v M.length (spans M) ∧ Ext w3 wr

set_option maxHeartbeats 8000000 in
set_option maxRecDepth 100000 in
theorem and_calls (A : Option Addr) (c : Nat) (a : List Sp) (B : Option Addr) (d : Nat) (b : List Sp) (w : World) (ha : SAt w A a) (hb : SAt w B b) (na : Norm a) (nb : Norm b) (hla : a.length ≤ 400000) (hlb : b.length ≤ 400000) :
    Calls Try.prog 25 #[.agg #[.slice A a.length c], .agg #[.slice B b.length d]] w fun e w' => SetPost w (andS a b) e w' ∧ (andS a b).length ≤ a.length + b.length := by
  have hx3 : Ext w (((w.alloc (.cells #[.slice A a.length c] 30)).alloc (.cells #[.slice B b.length d] 30)).alloc (.cells #[.slice none 0 0] 30)) := (((Ext.refl w).alloc _).alloc _).alloc _
  go_enter Try.func25, Try.ntmps25
  go_upto_region 1 with (fail)
  have c1 : (((w.alloc (.cells #[.slice A a.length c] 30)).alloc (.cells #[.slice B b.length d] 30)).alloc (.cells #[.slice none 0 0] 30)).cell? ⟨w.heap.size, 0, none⟩ = some (.slice A a.length c) := by simp [go_sem]
  have c2 : (((w.alloc (.cells #[.slice A a.length c] 30)).alloc (.cells #[.slice B b.length d] 30)).alloc (.cells #[.slice none 0 0] 30)).cell? ⟨w.heap.size + 1, 0, none⟩ = some (.slice B b.length d) := by simp [go_sem]
  have c3 : (((w.alloc (.cells #[.slice A a.length c] 30)).alloc (.cells #[.slice B b.length d] 30)).alloc (.cells #[.slice none 0 0] 30)).cell? ⟨w.heap.size + 1 + 1, 0, none⟩ = some (.slice none 0 0) := by simp [go_sem]
  have f3 : (((w.alloc (.cells #[.slice A a.length c] 30)).alloc (.cells #[.slice B b.length d] 30)).alloc (.cells #[.slice none 0 0] 30)).frozen? ⟨w.heap.size + 1 + 1, 0, none⟩ = false := by simp [go_sem]
  have z3 : w.heap.size + 1 + 1 < (((w.alloc (.cells #[.slice A a.length c] 30)).alloc (.cells #[.slice B b.length d] 30)).alloc (.cells #[.slice none 0 0] 30)).heap.size := by simp
  generalize (((w.alloc (.cells #[.slice A a.length c] 30)).alloc (.cells #[.slice B b.length d] 30)).alloc (.cells #[.slice none 0 0] 30)) = w3 at *
  have zr : w.heap.size ≤ w.heap.size + 1 + 1 := by omega
  replace ha := ha.ext hx3
  replace hb := hb.ext hx3
  go_wp2
  go_loopw [5, 6, 7] (fun v i j wr => ∃ p q : Nat, i = .int .i64 p ∧ j = .int .i64 q ∧ AndLoop w3 a b v p q wr) (fun _ i j _ => a.length + b.length - ((intOf i).toNat + (intOf j).toNat))
  case atStart => exact ⟨0, 0, rfl, rfl, [], andinv_nil a b, World.ownsRow_nil _ _ _ _, Ext.refl _⟩
  case round =>
    obtain ⟨p, q, rfl, rfl, M, hI, hown, hx⟩ := hrel
    have hp := hI.1
    have hq := hI.2.1
    have hM := hI.2.2.1
    replace c1 := hx.cell c1
    replace c2 := hx.cell c2
    obtain ⟨V, cv, rfl, _⟩ := own_shape hown
    by_cases hpl : p < a.length ∧ q < b.length
    · obtain ⟨hpl, hql⟩ := hpl
      obtain ⟨b1, o1, rfl, p0, p1⟩ := ha p hpl
      obtain ⟨b2, o2, rfl, q0, q1⟩ := hb q hql
      have hb1 : b1 < w3.heap.size := block_of_cell p0
      have hb2' : b2 < w3.heap.size := block_of_cell q0
      have hb3 : w.heap.size < w3.heap.size := by omega
      have hb4 : w.heap.size + 1 < w3.heap.size := by omega
      replace p0 := hx.cell p0
      replace p1 := hx.cell p1
      replace q0 := hx.cell q0
      replace q1 := hx.cell q1
      have hIa : a[p].t ≤ b[q].t → AndInv a b (M ++ meetL a[p] b[q]) (p + 1) q := fun hle => andinv_a na nb hI hpl hql hle
      have hIb : b[q].t ≤ a[p].t → AndInv a b (M ++ meetL a[p] b[q]) p (q + 1) := fun hle => andinv_b na nb hI hpl hql hle
      have hok : rightB a[p].f a[p].t = true ∧ rightB b[q].f b[q].t = true := by
        obtain ⟨a1, a2, a3⟩ := na.get hpl
        obtain ⟨b1, b2, b3⟩ := nb.get hql
        unfold rightB
        simp
        omega
      generalize a[p] = s at *
      generalize b[q] = u at *
      have HIA := Lib.hid hIa
      have HIB := Lib.hid hIb
      have hmt : meets s.f s.t u.f u.t = decide (max s.f u.f < min s.t u.t) := by unfold meets; rw [hok.1, hok.2]; rfl
      have HM := Lib.hid hmt
      have i0 : (0 : Int) ≤ (p : Int) := by omega
      have i1 : (p : Int) < (a.length : Int) := by omega
      have i2 : (0 : Int) ≤ (q : Int) := by omega
      have i3 : (q : Int) < (b.length : Int) := by omega
      clear hIa hIb hI ha hb hok hmt c3 f3
      go_wp2
      obtain ⟨mf, mt, mb, hmb, HMC, HML⟩ : ∃ (mf mt : Int) (mb : Bool), mb = decide (max s.f u.f < min s.t u.t) ∧ Hid (∀ W, Calls Try.prog 55 #[.agg #[.int .i64 s.f, .int .i64 s.t], .agg #[.int .i64 u.f, .int .i64 u.t]] W fun e w' => e = .returned (.tuple #[.agg #[.int .i64 mf, .int .i64 mt], .bool mb]) ∧ Ext W w') ∧ Hid (meetL s u = if mb then [⟨mf, mt⟩] else []) := by
        have hm := fun W => meet_calls s.f s.t u.f u.t W
        cases e1 : decide (max s.f u.f < min s.t u.t)
        · have hv : meetV s.f s.t u.f u.t = .agg #[.int .i64 0, .int .i64 0] := by unfold meetV; rw [HM.out, e1]; rfl
          rw [hv, HM.out, e1] at hm
          refine ⟨0, 0, false, rfl, Lib.hid hm, Lib.hid ?_⟩
          unfold meetL
          rw [if_neg (by simpa using e1)]
          rfl
        · have hv : meetV s.f s.t u.f u.t = .agg #[.int .i64 (max s.f u.f), .int .i64 (min s.t u.t)] := by unfold meetV; rw [HM.out, e1]; rfl
          rw [hv, HM.out, e1] at hm
          refine ⟨_, _, true, rfl, Lib.hid hm, Lib.hid ?_⟩
          unfold meetL
          rw [if_pos (by simpa using e1)]
          rfl
      clear HM hmb
      have hlp : M.length ≤ 800000 := by omega
      have HE := Lib.hid (Ext.refl wr).drew
      have hz : wr.heap.size ≤ wr.heap.size := Nat.le_refl _
      go_region_held3 (fun w' => w'.cell? ⟨w.heap.size, 0, none⟩ = some (.slice (some ⟨b1, o1, none⟩) a.length c) ∧ w'.cell? ⟨w.heap.size + 1, 0, none⟩ = some (.slice (some ⟨b2, o2, none⟩) b.length d) ∧ w'.cell? ⟨b1, o1 + p * 2, none⟩ = some (.int .i64 s.f) ∧ w'.cell? ⟨b1, o1 + p * 2 + 1, none⟩ = some (.int .i64 s.t) ∧ w'.cell? ⟨b2, o2 + q * 2, none⟩ = some (.int .i64 u.f) ∧ w'.cell? ⟨b2, o2 + q * 2 + 1, none⟩ = some (.int .i64 u.t))
        ((refine (fun hE => ⟨Ext.cell hE c1, Ext.cell hE c2, Ext.cell hE p0, Ext.cell hE p1, Ext.cell hE q0, Ext.cell hE q1⟩ : Ext wr _ → _) ?_
          (repeat' first | exact HE.out | exact Ext.refl _ | refine Ext.drew ?_ | refine Ext.alloc ?_ _ | refine Ext.setCell ?_ ?_ _)
          (all_goals first | exact Nat.le_refl _ | exact hz)))
        (first
          | (go_at_call 55
             (with_reducible refine (HMC.out _).mono ?_)
             rintro e wn ⟨rfl, hxn⟩
             have hE2 : Ext wr wn := by
               refine Ext.trans ?_ hxn
               (repeat' first | exact HE.out | exact Ext.refl _ | refine Ext.drew ?_ | refine Ext.alloc ?_ _)
             (try (refine (fun (y0 : wn.cell? ⟨wr.heap.size, 0, none⟩ = some (.int .i64 0)) => ?_) ?_; rotate_left; · (refine hxn.cell ?_; simp [go_sem]; done)))
             (try (refine (fun (y1 : wn.cell? ⟨wr.heap.size, 1, none⟩ = some (.int .i64 0)) => ?_) ?_; rotate_left; · (refine hxn.cell ?_; simp [go_sem]; done)))
             (try (refine (fun (g0 : wn.frozen? ⟨wr.heap.size, 0, none⟩ = false) => ?_) ?_; rotate_left; · (refine (hxn.frozen ?_).trans ?_ <;> simp [go_sem]; done)))
             (try (refine (fun (g1 : wn.frozen? ⟨wr.heap.size, 1, none⟩ = false) => ?_) ?_; rotate_left; · (refine (hxn.frozen ?_).trans ?_ <;> simp [go_sem]; done)))
             have hz := hE2.size
             replace HE := Lib.hid hE2
             clear hxn hE2))
      · have hE3 : Ext wr (wn.alloc (.cells #[.int .i64 mf, .int .i64 mt] 48)) := HE.out.alloc _
        have d0 : (wn.alloc (.cells #[.int .i64 mf, .int .i64 mt] 48)).cell? ⟨wn.heap.size, 0, none⟩ = some (.int .i64 mf) := by simp
        have d1 : (wn.alloc (.cells #[.int .i64 mf, .int .i64 mt] 48)).cell? ⟨wn.heap.size, 1, none⟩ = some (.int .i64 mt) := by simp
        clear HMC
        generalize wn.alloc (.cells #[.int .i64 mf, .int .i64 mt] 48) = W at *
        generalize wn.heap.size = pb at *
        have C1 := hE3.cell c1
        have C2 := hE3.cell c2
        have P1 := hE3.cell p1
        have Q1 := hE3.cell q1
        have hown1 := ownsRow_ext hown hE3
        have hx2 := hx.trans hE3
        have hb2 := hx2.size
        clear c1 c2 p0 p1 q0 q1 hown hx hE3 HE hz
        cases mb
        · go_wp2
          cases e2 : decide (s.t ≤ u.t)
          all_goals
            refine wp_region_ext_lit (by kernel_rfl) (by kernel_rfl) ?_
            intro X _ g hg hg'
            have k1 : ∀ n, (g n).cell? ⟨w.heap.size, 0, none⟩ = some (.slice (some ⟨b1, o1, none⟩) a.length c) := fun n => (hg n).cell C1
            have k2 : ∀ n, (g n).cell? ⟨w.heap.size + 1, 0, none⟩ = some (.slice (some ⟨b2, o2, none⟩) b.length d) := fun n => (hg n).cell C2
            have k4 : ∀ n, (g n).cell? ⟨b1, o1 + p * 2 + 1, none⟩ = some (.int .i64 s.t) := fun n => (hg n).cell P1
            have k6 : ∀ n, (g n).cell? ⟨b2, o2 + q * 2 + 1, none⟩ = some (.int .i64 u.t) := fun n => (hg n).cell Q1
            repeat (go_big_quiet_step (fail))
            refine wpQuiet_nil ?_
            rintro w' ⟨n, rfl⟩
            have hxg := hg n
            clear hg hg' k1 k2 k4 k6
            go_wp2
          · have e3 : u.t ≤ s.t := by
              have : ¬ s.t ≤ u.t := by simpa using e2
              omega
            go_roundw
            case rel => exact ⟨p, q + 1, rfl, by go_num, _, HIB.out e3, by rw [HML.out]; exact (by simpa using ownsRow_ext hown1 hxg), hx2.trans hxg⟩
            case measure => simp [intOf]; omega
          · have e3 : s.t ≤ u.t := by simpa using e2
            go_roundw
            case rel => exact ⟨p + 1, q, by go_num, rfl, _, HIA.out e3, by rw [HML.out]; exact (by simpa using ownsRow_ext hown1 hxg), hx2.trans hxg⟩
            case measure => simp [intOf]; omega
        · go_wp2_with (at_builtin; refine wpList_append_new _ rfl _ _ 22 rfl w3.heap.size 48 _ 2 16 Try.underlying22 infoSpan rfl (by omega) _ _ _ rfl hown1 1 1 _ (by simp) _ rfl rfl (by simp [Value.oneCell']) (by simp [maxLen]; omega) (by omega) hb2 ?_; intro v1 w1 hown2 hm)
          have hx4 := ext_moved hx2 hown1 hm
          replace C1 := far_cell hown1 hm (p := ⟨w.heap.size, 0, none⟩) hb3 C1
          replace C2 := far_cell hown1 hm (p := ⟨w.heap.size + 1, 0, none⟩) hb4 C2
          replace P1 := far_cell hown1 hm (p := ⟨b1, o1 + p * 2 + 1, none⟩) hb1 P1
          replace Q1 := far_cell hown1 hm (p := ⟨b2, o2 + q * 2 + 1, none⟩) hb2' Q1
          clear hx2 hown1 hm d0 d1
          cases e2 : decide (s.t ≤ u.t)
          all_goals
            refine wp_region_ext_lit (by kernel_rfl) (by kernel_rfl) ?_
            intro X _ g hg hg'
            have k1 : ∀ n, (g n).cell? ⟨w.heap.size, 0, none⟩ = some (.slice (some ⟨b1, o1, none⟩) a.length c) := fun n => (hg n).cell C1
            have k2 : ∀ n, (g n).cell? ⟨w.heap.size + 1, 0, none⟩ = some (.slice (some ⟨b2, o2, none⟩) b.length d) := fun n => (hg n).cell C2
            have k4 : ∀ n, (g n).cell? ⟨b1, o1 + p * 2 + 1, none⟩ = some (.int .i64 s.t) := fun n => (hg n).cell P1
            have k6 : ∀ n, (g n).cell? ⟨b2, o2 + q * 2 + 1, none⟩ = some (.int .i64 u.t) := fun n => (hg n).cell Q1
            repeat (go_big_quiet_step (fail))
            refine wpQuiet_nil ?_
            rintro w' ⟨n, rfl⟩
            have hxg := hg n
            clear hg hg' k1 k2 k4 k6
            go_wp2
          · have e3 : u.t ≤ s.t := by
              have : ¬ s.t ≤ u.t := by simpa using e2
              omega
            go_roundw
            case rel => exact ⟨p, q + 1, rfl, by go_num, _, HIB.out e3, by rw [HML.out]; exact (by rw [if_pos trivial, spans_append, spans_one, List.length_append]; exact ownsRow_ext hown2 hxg), hx4.trans hxg⟩
            case measure => simp [intOf]; omega
          · have e3 : s.t ≤ u.t := by simpa using e2
            go_roundw
            case rel => exact ⟨p + 1, q, by go_num, rfl, _, HIA.out e3, by rw [HML.out]; exact (by rw [if_pos trivial, spans_append, spans_one, List.length_append]; exact ownsRow_ext hown2 hxg), hx4.trans hxg⟩
            case measure => simp [intOf]; omega
      · have hE3 : Ext wr ((wn.setCell ⟨wr.heap.size, 0, none⟩ (.int .i64 mf)).setCell ⟨wr.heap.size, 1, none⟩ (.int .i64 mt)) := (HE.out.setCell (Nat.le_refl _) _).setCell (Nat.le_refl _) _
        have d0 : ((wn.setCell ⟨wr.heap.size, 0, none⟩ (.int .i64 mf)).setCell ⟨wr.heap.size, 1, none⟩ (.int .i64 mt)).cell? ⟨wr.heap.size, 0, none⟩ = some (.int .i64 mf) := by simp [go_sem, y0]
        have d1 : ((wn.setCell ⟨wr.heap.size, 0, none⟩ (.int .i64 mf)).setCell ⟨wr.heap.size, 1, none⟩ (.int .i64 mt)).cell? ⟨wr.heap.size, 1, none⟩ = some (.int .i64 mt) := by simp [go_sem, y1]
        clear HMC
        generalize (wn.setCell ⟨wr.heap.size, 0, none⟩ (.int .i64 mf)).setCell ⟨wr.heap.size, 1, none⟩ (.int .i64 mt) = W at *
        clear y0 y1 g0 g1
        generalize wr.heap.size = pb at *
        have C1 := hE3.cell c1
        have C2 := hE3.cell c2
        have P1 := hE3.cell p1
        have Q1 := hE3.cell q1
        have hown1 := ownsRow_ext hown hE3
        have hx2 := hx.trans hE3
        have hb2 := hx2.size
        clear c1 c2 p0 p1 q0 q1 hown hx hE3 HE hz
        cases mb
        · go_wp2
          cases e2 : decide (s.t ≤ u.t)
          all_goals
            refine wp_region_ext_lit (by kernel_rfl) (by kernel_rfl) ?_
            intro X _ g hg hg'
            have k1 : ∀ n, (g n).cell? ⟨w.heap.size, 0, none⟩ = some (.slice (some ⟨b1, o1, none⟩) a.length c) := fun n => (hg n).cell C1
            have k2 : ∀ n, (g n).cell? ⟨w.heap.size + 1, 0, none⟩ = some (.slice (some ⟨b2, o2, none⟩) b.length d) := fun n => (hg n).cell C2
            have k4 : ∀ n, (g n).cell? ⟨b1, o1 + p * 2 + 1, none⟩ = some (.int .i64 s.t) := fun n => (hg n).cell P1
            have k6 : ∀ n, (g n).cell? ⟨b2, o2 + q * 2 + 1, none⟩ = some (.int .i64 u.t) := fun n => (hg n).cell Q1
            repeat (go_big_quiet_step (fail))
            refine wpQuiet_nil ?_
            rintro w' ⟨n, rfl⟩
            have hxg := hg n
            clear hg hg' k1 k2 k4 k6
            go_wp2
          · have e3 : u.t ≤ s.t := by
              have : ¬ s.t ≤ u.t := by simpa using e2
              omega
            go_roundw
            case rel => exact ⟨p, q + 1, rfl, by go_num, _, HIB.out e3, by rw [HML.out]; exact (by simpa using ownsRow_ext hown1 hxg), hx2.trans hxg⟩
            case measure => simp [intOf]; omega
          · have e3 : s.t ≤ u.t := by simpa using e2
            go_roundw
            case rel => exact ⟨p + 1, q, by go_num, rfl, _, HIA.out e3, by rw [HML.out]; exact (by simpa using ownsRow_ext hown1 hxg), hx2.trans hxg⟩
            case measure => simp [intOf]; omega
        · go_wp2_with (at_builtin; refine wpList_append_new _ rfl _ _ 22 rfl w3.heap.size 48 _ 2 16 Try.underlying22 infoSpan rfl (by omega) _ _ _ rfl hown1 1 1 _ (by simp) _ rfl rfl (by simp [Value.oneCell']) (by simp [maxLen]; omega) (by omega) hb2 ?_; intro v1 w1 hown2 hm)
          have hx4 := ext_moved hx2 hown1 hm
          replace C1 := far_cell hown1 hm (p := ⟨w.heap.size, 0, none⟩) hb3 C1
          replace C2 := far_cell hown1 hm (p := ⟨w.heap.size + 1, 0, none⟩) hb4 C2
          replace P1 := far_cell hown1 hm (p := ⟨b1, o1 + p * 2 + 1, none⟩) hb1 P1
          replace Q1 := far_cell hown1 hm (p := ⟨b2, o2 + q * 2 + 1, none⟩) hb2' Q1
          clear hx2 hown1 hm d0 d1
          cases e2 : decide (s.t ≤ u.t)
          all_goals
            refine wp_region_ext_lit (by kernel_rfl) (by kernel_rfl) ?_
            intro X _ g hg hg'
            have k1 : ∀ n, (g n).cell? ⟨w.heap.size, 0, none⟩ = some (.slice (some ⟨b1, o1, none⟩) a.length c) := fun n => (hg n).cell C1
            have k2 : ∀ n, (g n).cell? ⟨w.heap.size + 1, 0, none⟩ = some (.slice (some ⟨b2, o2, none⟩) b.length d) := fun n => (hg n).cell C2
            have k4 : ∀ n, (g n).cell? ⟨b1, o1 + p * 2 + 1, none⟩ = some (.int .i64 s.t) := fun n => (hg n).cell P1
            have k6 : ∀ n, (g n).cell? ⟨b2, o2 + q * 2 + 1, none⟩ = some (.int .i64 u.t) := fun n => (hg n).cell Q1
            repeat (go_big_quiet_step (fail))
            refine wpQuiet_nil ?_
            rintro w' ⟨n, rfl⟩
            have hxg := hg n
            clear hg hg' k1 k2 k4 k6
            go_wp2
          · have e3 : u.t ≤ s.t := by
              have : ¬ s.t ≤ u.t := by simpa using e2
              omega
            go_roundw
            case rel => exact ⟨p, q + 1, rfl, by go_num, _, HIB.out e3, by rw [HML.out]; exact (by rw [if_pos trivial, spans_append, spans_one, List.length_append]; exact ownsRow_ext hown2 hxg), hx4.trans hxg⟩
            case measure => simp [intOf]; omega
          · have e3 : s.t ≤ u.t := by simpa using e2
            go_roundw
            case rel => exact ⟨p + 1, q, by go_num, rfl, _, HIA.out e3, by rw [HML.out]; exact (by rw [if_pos trivial, spans_append, spans_one, List.length_append]; exact ownsRow_ext hown2 hxg), hx4.trans hxg⟩
            case measure => simp [intOf]; omega
    · have he : p = a.length ∨ q = b.length := by
        by_cases h1 : p < a.length
        · exact .inr (by have := hq; omega)
        · exact .inl (by omega)
      have hG := andinv_end na nb hI he
      have hL := and_length_of hI
      subst hG
      have k3 := hx.cell c3
      have kf : wr.frozen? ⟨w.heap.size + 1 + 1, 0, none⟩ = false := (hx.frozen (by simpa using z3)).trans f3
      have hx2 := hx3.trans hx
      have z3' := Nat.lt_of_lt_of_le z3 hx.size
      have hlp : (andS a b).length ≤ 800000 := by omega
      clear hI ha hb c3 f3 he hM
      by_cases hpa : p < a.length
      · have hqa : ¬ q < b.length := by omega
        go_wp2
        refine bodyPost_ret (v := .agg #[.slice V (andS a b).length cv]) (by simp [results, Try.results25, go_sem, k3]) rfl ⟨⟨V, cv, rfl, Lib.hid ?_, Lib.hid (newA_of hown hx3.size), ?_⟩, hL⟩
        · exact sat_set hown (by exact z3) _
        · exact hx2.setCell zr _
      · go_wp2
        refine bodyPost_ret (v := .agg #[.slice V (andS a b).length cv]) (by simp [results, Try.results25, go_sem, k3]) rfl ⟨⟨V, cv, rfl, Lib.hid ?_, Lib.hid (newA_of hown hx3.size), ?_⟩, hL⟩
        · exact sat_set hown (by exact z3) _
        · exact hx2.setCell zr _
end Go.Proofs.Ytdcdnnbijjcfmaa
