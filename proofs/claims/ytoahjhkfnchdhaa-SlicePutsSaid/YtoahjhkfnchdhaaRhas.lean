/- The contract of the reference's Has. -/
import Derived.Test.YtoahjhkfnchdhaaRpm
import Derived.Deep.CutRange
namespace Go.Proofs.Ytoahjhkfnchdhaa
open Go.RowKit

/-- One byte more, behind all. -/
def extS (L : List Sp) (z : Int) : List Sp :=
  match L.getLast? with
  | none => [⟨z, z + 1⟩]
  | some s => if s.t = z then L.dropLast ++ [⟨s.f, z + 1⟩] else L ++ [⟨z, z + 1⟩]
theorem ext_nil (z : Int) : extS [] z = [⟨z, z + 1⟩] := rfl
theorem ext_snoc (L : List Sp) (q : Sp) (z : Int) : extS (L ++ [q]) z = if q.t = z then L ++ [⟨q.f, z + 1⟩] else (L ++ [q]) ++ [⟨z, z + 1⟩] := by
  unfold extS
  rw [List.getLast?_append]
  simp
def runsS (P : Nat → Bool) (f : Int) : Nat → List Sp
  | 0 => []
  | i + 1 => if P i = true then extS (runsS P f i) (f + i) else runsS P f i
theorem ext_norm {L : List Sp} {z : Int} (hn : Norm L) (hz : ∀ s ∈ L, s.t ≤ z) (h0 : 0 ≤ z) (h1 : z < 4611686018427387904) :
    Norm (extS L z) ∧ (∀ s ∈ extS L z, s.t ≤ z + 1) ∧ ∀ x, Mem (extS L z) x ↔ Mem L x ∨ x = z := by
  rcases List.eq_nil_or_concat L with rfl | ⟨L, q, rfl⟩
  · rw [ext_nil]
    refine ⟨norm_one ⟨h0, by show z < z + 1; omega, by show z + 1 ≤ _; omega⟩, by simp, fun x => ?_⟩
    rw [mem_single]
    simp only [mem_nil, false_or]
    constructor
    · intro h
      have a : z ≤ x := h.1
      have b : x < z + 1 := h.2
      omega
    · intro h
      exact ⟨by show z ≤ x; omega, by show x < z + 1; omega⟩
  · rw [List.concat_eq_append] at *
    rw [ext_snoc]
    obtain ⟨n1, n2, n3⟩ := norm_snoc.1 hn
    have hq : q.t ≤ z := hz q (by simp)
    have hq0 := n2.1
    have hq1 := n2.2.1
    split
    · rename_i e
      refine ⟨norm_snoc.2 ⟨n1, ⟨hq0, by show q.f < z + 1; omega, by show z + 1 ≤ _; omega⟩, n3⟩, ?_, fun x => ?_⟩
      · intro s hs
        rcases List.mem_append.1 hs with h | h
        · have := n3 s h
          omega
        · simp only [List.mem_singleton] at h
          subst h
          exact Int.le_refl _
      · rw [mem_append, mem_append, mem_single, mem_single]
        constructor
        · rintro (h | h)
          · exact .inl (.inl h)
          · have a : q.f ≤ x := h.1
            have b : x < z + 1 := h.2
            by_cases hx : x = z
            · exact .inr hx
            · exact .inl (.inr ⟨a, by omega⟩)
        · rintro ((h | h) | h)
          · exact .inl h
          · exact .inr ⟨h.1, by show x < z + 1; have := h.2; omega⟩
          · exact .inr ⟨by show q.f ≤ x; omega, by show x < z + 1; omega⟩
    · rename_i e
      refine ⟨norm_snoc.2 ⟨hn, ⟨h0, by show z < z + 1; omega, by show z + 1 ≤ _; omega⟩, ?_⟩, ?_, fun x => ?_⟩
      · intro u hu
        show u.t < z
        have := hz u hu
        rcases List.mem_append.1 hu with h | h
        · have := n3 u h; omega
        · simp only [List.mem_singleton] at h
          subst h
          omega
      · intro s hs
        rcases List.mem_append.1 hs with h | h
        · have := hz s h; omega
        · simp only [List.mem_singleton] at h
          subst h
          exact Int.le_refl _
      · rw [mem_append, mem_single]
        constructor
        · rintro (h | h)
          · exact .inl h
          · have a : z ≤ x := h.1
            have b : x < z + 1 := h.2
            exact .inr (by omega)
        · rintro (h | h)
          · exact .inl h
          · exact .inr ⟨by show z ≤ x; omega, by show x < z + 1; omega⟩
theorem runs_norm (P : Nat → Bool) {f : Int} (h0 : 0 ≤ f) : ∀ (i : Nat), f + i ≤ 4611686018427387904 → Norm (runsS P f i) ∧ (∀ s ∈ runsS P f i, s.t ≤ f + i) ∧ ∀ x, Mem (runsS P f i) x ↔ f ≤ x ∧ x < f + i ∧ P (x - f).toNat = true := by
  intro i
  induction i with
  | zero =>
    intro _
    refine ⟨norm_nil, by simp [runsS], fun x => ?_⟩
    simp only [runsS, mem_nil, false_iff]
    omega
  | succ i ih =>
    intro hb
    obtain ⟨i1, i2, i3⟩ := ih (by omega)
    simp only [runsS]
    by_cases hp : P i = true
    · rw [if_pos hp]
      obtain ⟨e1, e2, e3⟩ := ext_norm i1 i2 (z := f + i) (by omega) (by omega)
      refine ⟨e1, fun s hs => by have := e2 s hs; omega, fun x => ?_⟩
      rw [e3, i3]
      constructor
      · rintro (⟨a, b, c⟩ | h)
        · exact ⟨a, by omega, c⟩
        · refine ⟨by omega, by omega, ?_⟩
          rw [show (x - f).toNat = i by omega]
          exact hp
      · rintro ⟨a, b, c⟩
        by_cases hx : x = f + i
        · exact .inr hx
        · exact .inl ⟨a, by omega, c⟩
    · rw [if_neg hp]
      refine ⟨i1, fun s hs => by have := i2 s hs; omega, fun x => ?_⟩
      rw [i3]
      constructor
      · rintro ⟨a, b, c⟩
        exact ⟨a, by omega, c⟩
      · rintro ⟨a, b, c⟩
        refine ⟨a, ?_, c⟩
        by_cases hx : x = f + i
        · exfalso
          rw [show (x - f).toNat = i by omega] at c
          exact hp c
        · omega
def posB (bs : List Int) (i : Nat) : Bool := decide (0 ≤ bs.getD i (-1))
theorem runs_has {B : Bf} {R : Rb} (hr : Rel B R) : runsS (posB R.bs) B.f R.bs.length = B.hs := by
  obtain ⟨e0, e1, e2, e3, e4⟩ := hr.ends
  have hl := hr.len
  have hu := hr.u64
  obtain ⟨n1, n2, n3⟩ := runs_norm (posB R.bs) e0 R.bs.length (by omega)
  refine norm_ext n1 hr.ok.norm fun x => ?_
  rw [n3]
  constructor
  · rintro ⟨a, b, c⟩
    unfold posB at c
    have hi : (x - B.f).toNat < R.bs.length := by omega
    rw [List.getD_eq_getElem?_getD, List.getElem?_eq_getElem hi] at c
    have c' : 0 ≤ R.bs[(x - B.f).toNat] := by simpa using c
    have h2 := hr.neg hi
    have h3 : B.f + ((x - B.f).toNat : Int) = x := by omega
    rw [h3] at h2
    by_cases hm : Mem B.hs x
    · exact hm
    · have := h2.2 hm; omega
  · intro hm
    obtain ⟨m1, m2⟩ := mem_of_lies hr.ok.lies x hm
    refine ⟨m1, by omega, ?_⟩
    have hi : (x - B.f).toNat < R.bs.length := by omega
    unfold posB
    rw [List.getD_eq_getElem?_getD, List.getElem?_eq_getElem hi]
    have h2 := hr.neg hi
    have h3 : B.f + ((x - B.f).toNat : Int) = x := by omega
    rw [h3] at h2
    have : ¬ R.bs[(x - B.f).toNat] < 0 := fun h => (h2.1 h) hm
    simp
    omega
theorem runs_len (P : Nat → Bool) (f : Int) : ∀ i, (runsS P f i).length ≤ i := by
  intro i
  induction i with
  | zero => simp [runsS]
  | succ i ih =>
    simp only [runsS]
    split
    · rcases List.eq_nil_or_concat (runsS P f i) with e | ⟨L, q, e⟩
      · rw [e, ext_nil]; simp
      · rw [e, List.concat_eq_append, ext_snoc]
        rw [e, List.concat_eq_append, List.length_append] at ih
        simp only [List.length_singleton] at ih
        split <;> simp <;> omega
    · omega

set_option maxHeartbeats 4000000 in
set_option maxRecDepth 100000 in
theorem rhas_calls (lo rb : Nat) (B : Bf) (R : Rb) (hr : Rel B R) (w : World) (h : RbAt lo w rb R) :
    Calls Try.prog 32 #[.pointer (some ⟨rb, 0, none⟩)] w (RowPost w B.hs) := by
  obtain ⟨e0, e1, e2, e3, e4⟩ := hr.ends
  obtain ⟨A5, c5, hb, hrl, hI, hA5⟩ := h
  have r0 : w.cell? ⟨rb, 0, none⟩ = some (.int .i64 R.no) := by rw [cell_of_block hb]; rfl
  have r1 : w.cell? ⟨rb, 1, none⟩ = some (.int .i64 R.u) := by rw [cell_of_block hb]; rfl
  have r3 : w.cell? ⟨rb, 3, none⟩ = some (.slice A5 R.bs.length c5) := by rw [cell_of_block hb]; rfl
  have hRl := hr.len
  have hu64 := hr.u64
  have hf := hr.f
  have HH := Lib.hid (runs_has hr)
  have hlr := runs_len (posB R.bs) B.f
  have hwm : IntKind.i64.wrap (R.no * R.u) = R.no * R.u := IntWalk.i64_in _ (by omega)
  obtain ⟨b5, o5, hA, hc5⟩ := hI.at_ (by omega)
  subst hA
  generalize R.bs = bs at *
  generalize R.no = rno at *
  generalize R.u = ru at *
  obtain ⟨F, hF⟩ : ∃ F, B.f = F := ⟨_, rfl⟩
  rw [hF] at hf e0 e1 e2 hlr HH
  rw [← hf] at hwm
  have HF := Lib.hid (And.intro hF hf)
  have HR := Lib.hid hr
  rw [hf] at hwm
  have hwm2 : IntKind.i64.wrap (rno * ru) = F := by rw [hwm, ← HF.out.2]
  have hown0 := World.ownsRow_lit (base := w.heap.size) (size := 2) (e := 24) w #[] 0 (Nat.le_refl _) (by simp [maxLen]) rfl
  have hxa : Ext w (w.alloc (.cells #[] 24)) := (Ext.refl w).alloc _
  have HO := Lib.hid hown0
  clear hr hb hI hA5 hF hf hwm hown0
  go_enter Try.func32, Try.ntmps32
  go_upto_region 2 with (fail)
  generalize hw0 : w.alloc (.cells #[] 24) = w0 at *
  have p0 := hxa.cell r0
  have p1 := hxa.cell r1
  refine wp_region_ext_lit (by kernel_rfl) (by kernel_rfl) ?_
  intro X _ g hg hg'
  have k0 : ∀ n, (g n).cell? ⟨rb, 0, none⟩ = some (.int .i64 rno) := fun n => (hg n).cell p0
  have k1 : ∀ n, (g n).cell? ⟨rb, 1, none⟩ = some (.int .i64 ru) := fun n => (hg n).cell p1
  repeat (go_big_quiet_step (fail))
  refine wpQuiet_nil ?_
  rintro w' ⟨n, rfl⟩
  have hxg := hg n
  clear hg hg' k0 k1 p0 p1
  generalize g n = w1 at *
  have hx1 := hxa.trans hxg
  have HO1 := Lib.hid (ownsRow_ext HO.out hxg)
  clear HO hxa hw0 hxg hwm2
  go_wp2_with fail
  go_loopw [3, 5] (fun v i wr => ∃ (k : Nat) (A : Option Addr) (c : Nat) (L : List Sp), k ≤ bs.length ∧ i = .int .i64 k ∧ v = .slice A L.length c ∧ Hid (L = runsS (posB bs) F k) ∧ wr.ownsRow w.heap.size 24 2 (.slice A L.length c) L.length (spans L) ∧ Ext w wr) (fun _ i _ => bs.length - (intOf i).toNat)
  case atStart => exact ⟨0, _, _, [], Nat.zero_le _, rfl, rfl, rfl, HO1.out, hx1⟩
  case round =>
    clear HO1 hx1
    obtain ⟨k, A, c, L, hk, rfl, rfl, hL, hown, hxw⟩ := hrel
    replace r1 := hxw.cell r1
    replace r3 := hxw.cell r3
    have hLk : L.length ≤ k := by rw [hL.out]; exact hlr k
    by_cases hlt : k < bs.length
    · have qk := hxw.cell (hc5 k hlt)
      have hP : posB bs k = decide (0 ≤ bs[k]) := by unfold posB; rw [List.getD_eq_getElem?_getD, List.getElem?_eq_getElem hlt]; rfl
      have hT : runsS (posB bs) F (k + 1) = if posB bs k = true then extS (runsS (posB bs) F k) (F + k) else runsS (posB bs) F k := rfl
      rw [hP, ← hL.out] at hT
      have HT := Lib.hid hT
      have d0 : (0 : Int) ≤ (k : Int) := by omega
      have d1 : (k : Int) < (bs.length : Int) := by omega
      have d5 : (k : Int) < ru := by omega
      generalize bs[k] = x at *
      clear hP hT hL hlr
      by_cases hx : 0 ≤ x
      · have HT2 := Lib.hid (HT.out.trans (if_pos (decide_eq_true hx)))
        clear HT
        rcases List.eq_nil_or_concat L with rfl | ⟨L0, q, rfl⟩
        · replace hown : wr.ownsRow w.heap.size 24 2 (.slice A 0 c) 0 [] := hown
          go_wp2_with (at_builtin; refine wpList_append_new _ rfl _ _ 53 rfl w.heap.size 24 _ 2 16 Try.underlying53 infoSpan rfl (by omega) (.slice A 0 c) _ [] rfl hown 1 1 _ rfl _ rfl rfl (by simp [Value.oneCell']) (by simp [maxLen] <;> omega) (by omega) hxw.size ?_; intro v1 w4 hown4 hm4; obtain ⟨A4, c4, rfl, _⟩ := own_shape hown4; have hx4 := ext_moved hxw hown hm4)
          go_roundw
          case rel => exact ⟨k + 1, A4, c4, [⟨F + k, F + k + 1⟩], by omega, by go_num, rfl, Lib.hid (by rw [HT2.out, ext_nil]), hown4, hx4⟩
          case measure => simp [intOf]; omega
        · rw [List.concat_eq_append] at *
          have hlq : (L0 ++ [q]).length = L0.length + 1 := by simp
          generalize hm : L0.length = m at *
          generalize (L0 ++ [q]).length = n0 at *
          subst hlq
          obtain ⟨gb, cap, hvv, hgb1, _⟩ := hown.form (by omega)
          cases hvv
          have hq1 : wr.cell? ⟨gb, m * 2 + 1, none⟩ = some (.int .i64 q.t) := by rw [hown.cellAt _ (by omega), ← hm]; exact spans_at L0 q 1
          have HM := Lib.hid hm
          have m0 : (0 : Int) ≤ (m : Int) := by omega
          clear hm
          by_cases hqe : q.t = F + k
          · have e2 : (q.t == F + (k : Int)) = true := by simpa using hqe
            have fz : wr.frozen? ⟨gb, m * 2 + 1, none⟩ = false := hown.frozenAt _
            have h3 := (hown.stored (m * 2 + 1) (.int .i64 (F + k + 1))).1
            have h4 := hxw.setCell (p := ⟨gb, m * 2 + 1, none⟩) (by exact hgb1) (.int .i64 (F + k + 1))
            have H3 := Lib.hid h3
            have HQ := Lib.hid hqe
            clear h3 hown hqe
            go_wp2_with fail
            go_roundw
            case rel => exact ⟨k + 1, _, _, L0 ++ [⟨q.f, F + k + 1⟩], by omega, by go_num, by rw [List.length_append, HM.out]; rfl, Lib.hid (by rw [HT2.out, ext_snoc, if_pos HQ.out]), by rw [← HM.out, spans_set, HM.out] at H3; rw [List.length_append, HM.out]; exact H3.out, h4⟩
            case measure => simp [intOf]; omega
          · have e2 : (q.t == F + (k : Int)) = false := by simpa using hqe
            have HQ := Lib.hid hqe
            clear hqe
            go_wp2_with (at_builtin; refine wpList_append_new _ rfl _ _ 53 rfl w.heap.size 24 _ 2 16 Try.underlying53 infoSpan rfl (by omega) (.slice (some ⟨gb, 0, none⟩) (m + 1) _) _ (spans (L0 ++ [q])) rfl hown 1 1 _ rfl _ rfl rfl (by simp [Value.oneCell']) (by simp [maxLen] <;> omega) (by omega) hxw.size ?_; intro v1 w4 hown4 hm4; obtain ⟨A4, c4, rfl, _⟩ := own_shape hown4; have hx4 := ext_moved hxw hown hm4)
            go_roundw
            case rel => exact ⟨k + 1, A4, c4, (L0 ++ [q]) ++ [⟨F + k, F + k + 1⟩], by omega, by go_num, by rw [List.length_append, List.length_append, HM.out]; rfl, Lib.hid (by rw [HT2.out, ext_snoc, if_neg HQ.out]), by rw [spans_append, List.length_append, List.length_append, HM.out]; exact hown4, hx4⟩
            case measure => simp [intOf]; omega
      · have HT2 := Lib.hid (HT.out.trans (if_neg (by simpa using hx)))
        clear HT
        have hx' : x < 0 := by omega
        go_wp2_with fail
        go_roundw
        case rel => exact ⟨k + 1, A, c, L, by omega, by go_num, rfl, Lib.hid HT2.out.symm, hown, hxw⟩
        case measure => simp [intOf]; omega
    · obtain rfl : k = bs.length := by omega
      have hLh : L = B.hs := by rw [hL.out]; exact HH.out
      subst hLh
      go_wp2
      go_ret
      exact ⟨_, rfl, hown, hxw⟩
end Go.Proofs.Ytoahjhkfnchdhaa
