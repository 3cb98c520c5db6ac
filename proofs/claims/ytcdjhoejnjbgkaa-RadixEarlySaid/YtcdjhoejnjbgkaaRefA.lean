/- The contracts of the reference's Drop, From and Put. -/
import Derived.Test.YtcdjhoejnjbgkaaPairs
import Derived.Test.YtcdjhoejnjbgkaaWords
namespace Go.Proofs.Ytcdjhoejnjbgkaa
open Go.RowKit

/-- A slice of pairs that reads as l. -/
def RowP (w : World) (A : Option Addr) (l : List Pr) : Prop :=
  ∀ (k : Nat) (h : k < l.length), ∃ b, A = some ⟨b, 0, none⟩ ∧ w.cell? ⟨b, k * 2, none⟩ = some (.int .u64 (l[k].k : Int)) ∧ w.cell? ⟨b, k * 2 + 1, none⟩ = some (.int .i64 l[k].v)
theorem RowP.ext {w w' : World} {A : Option Addr} {l : List Pr} (h : RowP w A l) (hx : Ext w w') : RowP w' A l := fun k hk => by
  obtain ⟨b, hA, p0, p1⟩ := h k hk
  exact ⟨b, hA, hx.cell p0, hx.cell p1⟩
theorem flatP_length (l : List Pr) : (flatP l).length = l.length * 2 := by
  induction l with
  | nil => rfl
  | cons r l ih => simp [flatP] at ih ⊢; omega
theorem flatP_get (l : List Pr) (k j : Nat) (h : k < l.length) (hj : j < 2) : (flatP l)[k * 2 + j]? = [Value.int .u64 (l[k].k : Int), .int .i64 l[k].v][j]? := by
  induction l generalizing k with
  | nil => simp at h
  | cons r l ih =>
    have e : flatP (r :: l) = [Value.int .u64 (r.k : Int), .int .i64 r.v] ++ flatP l := by simp [flatP]
    rw [e]
    rcases k with _ | k
    · rw [List.getElem?_append_left (by simp; omega)]
      simp
    · rw [List.getElem?_append_right (by simp; omega), show (k + 1) * 2 + j - [Value.int .u64 (r.k : Int), .int .i64 r.v].length = k * 2 + j from by simp; omega, ih k (by simpa using h)]
      simp
theorem rowP_own {w : World} {base : Nat} {A : Option Addr} {c : Nat} {l : List Pr} (h : w.ownsRow base 37 2 (.slice A l.length c) l.length (flatP l)) : RowP w A l := fun k hk => by
  obtain ⟨g, cap, hv, _, _⟩ := h.form (by omega)
  cases hv
  refine ⟨g, rfl, ?_, ?_⟩
  · rw [h.cellAt _ (by omega)]; exact (flatP_get l k 0 hk (by omega)).trans rfl
  · rw [h.cellAt _ (by omega)]; exact (flatP_get l k 1 hk (by omega)).trans rfl

theorem dropL_length (k : Nat) (l : List Pr) : (dropL k l).length ≤ l.length := List.length_filter_le _ _
theorem fromL_length (k : Nat) (l : List Pr) : (fromL k l).length ≤ l.length := List.length_filter_le _ _
theorem dropL_take (k n : Nat) (l : List Pr) (h : n < l.length) : dropL k (l.take (n + 1)) = dropL k (l.take n) ++ (if (l[n].k == k) = true then [] else [l[n]]) := by
  rw [List.take_succ_eq_append_getElem h, dropL_append]
  by_cases e : l[n].k = k <;> simp [dropL, e]
theorem fromL_take (k n : Nat) (l : List Pr) (h : n < l.length) : fromL k (l.take (n + 1)) = fromL k (l.take n) ++ (if decide (k ≤ l[n].k) = true then [l[n]] else []) := by
  rw [List.take_succ_eq_append_getElem h, fromL_append]
  by_cases e : k ≤ l[n].k <;> simp [fromL, e]

theorem own_built0 (w : World) (e : TypeId) (size base : Nat) (hb : base ≤ w.heap.size) : (w.alloc (.cells #[] e)).ownsRow base e size (.slice (some ⟨w.heap.size, 0, none⟩) 0 0) 0 [] :=
  ⟨by simp, .inr ⟨w.heap.size, 0, #[], rfl, hb, heap_alloc_new w _, by omega, by simp [maxLen], by simp, by simp⟩⟩

set_option maxRecDepth 100000 in
theorem drop_ref (A : Option Addr) (c : Nat) (l : List Pr) (k : Nat) (w : World) (ha : RowP w A l) (hl : l.length ≤ 1000000) :
    Calls Try.prog 33 #[.slice A l.length c, .int .u64 k] w (ListPost w (dropL k l)) := by
  have own0 := own_built0 w 37 2 w.heap.size (Nat.le_refl _)
  have hx0 : Ext w (w.alloc (.cells #[] 37)) := (Ext.refl w).alloc _
  go_enter Try.func33, Try.ntmps33
  go_wp2
  go_loopw [5, 6] (fun v i wr => ∃ n : Nat, n ≤ l.length ∧ i = .int .i64 n ∧ wr.ownsRow w.heap.size 37 2 v (dropL k (l.take n)).length (flatP (dropL k (l.take n))) ∧ Ext w wr) (fun _ i _ => l.length - (intOf i).toNat)
  case atStart => exact ⟨0, Nat.zero_le _, rfl, own0, hx0⟩
  case round =>
    obtain ⟨n, hn, rfl, hown, hx⟩ := hrel
    clear own0 hx0
    by_cases hlt : n < l.length
    · obtain ⟨b, rfl, p0, p1⟩ := ha.ext hx n hlt
      have hst := dropL_take k n l hlt
      have hdl := dropL_length k (l.take n)
      have hln : (l.take n).length ≤ n := List.length_take_le _ _
      generalize l[n] = r at *
      generalize dropL k (l.take n) = out at *
      obtain ⟨A1, c1, rfl, _⟩ := own_shape hown
      have HS := Lib.hid hst
      clear hst
      by_cases e : r.k = k
      · have e1 : ((r.k : Int) == (k : Int)) = true := by simp [e]
        have HE := Lib.hid e
        clear e
        go_wp2
        go_roundw
        case rel => exact ⟨n + 1, by omega, by go_num, by rw [HS.out]; simpa [HE.out] using hown, hx⟩
        case measure => simp [intOf] <;> omega
      · have e1 : ((r.k : Int) == (k : Int)) = false := by simp; omega
        have HE := Lib.hid e
        clear e
        go_wp2_with (at_builtin; refine wpList_append_new _ rfl _ _ 28 rfl w.heap.size 37 _ 2 16 Try.underlying28 info37 rfl (by omega) (.slice A1 out.length c1) _ _ rfl hown 1 1 _ (by simp) _ rfl rfl (by simp [Value.oneCell']) (by simp [maxLen]; omega) (by omega) (by have := hx.size; omega) ?_; intro v1 w1 hown2 hm; obtain ⟨A2, c2, rfl, _⟩ := own_shape hown2)
        go_roundw
        case rel =>
          refine ⟨n + 1, by omega, by go_num, ?_, ext_moved hx hown hm⟩
          rw [HS.out]; simpa [HE.out, flatP_append, flatP_one] using hown2
        case measure => simp [intOf] <;> omega
    · obtain rfl : n = l.length := by omega
      rw [List.take_length] at hown
      obtain ⟨A1, c1, rfl, _⟩ := own_shape hown
      go_wp2
      go_ret
      exact ⟨_, rfl, hown, hx⟩
set_option maxRecDepth 100000 in
theorem from_ref (A : Option Addr) (c : Nat) (l : List Pr) (k : Nat) (w : World) (ha : RowP w A l) (hl : l.length ≤ 1000000) :
    Calls Try.prog 17 #[.slice A l.length c, .int .u64 k] w (ListPost w (fromL k l)) := by
  have own0 := own_built0 w 37 2 w.heap.size (Nat.le_refl _)
  have hx0 : Ext w (w.alloc (.cells #[] 37)) := (Ext.refl w).alloc _
  go_enter Try.func17, Try.ntmps17
  go_wp2
  go_loopw [5, 6] (fun v i wr => ∃ n : Nat, n ≤ l.length ∧ i = .int .i64 n ∧ wr.ownsRow w.heap.size 37 2 v (fromL k (l.take n)).length (flatP (fromL k (l.take n))) ∧ Ext w wr) (fun _ i _ => l.length - (intOf i).toNat)
  case atStart => exact ⟨0, Nat.zero_le _, rfl, own0, hx0⟩
  case round =>
    obtain ⟨n, hn, rfl, hown, hx⟩ := hrel
    clear own0 hx0
    by_cases hlt : n < l.length
    · obtain ⟨b, rfl, p0, p1⟩ := ha.ext hx n hlt
      have hst := fromL_take k n l hlt
      have hdl := fromL_length k (l.take n)
      have hln : (l.take n).length ≤ n := List.length_take_le _ _
      generalize l[n] = r at *
      generalize fromL k (l.take n) = out at *
      obtain ⟨A1, c1, rfl, _⟩ := own_shape hown
      have HS := Lib.hid hst
      clear hst
      by_cases e : k ≤ r.k
      · have e1 : decide (k ≤ r.k) = true := by simp [e]
        have e2 : (k : Int) ≤ (r.k : Int) := by omega
        have HE := Lib.hid e
        clear e
        go_wp2_with (at_builtin; refine wpList_append_new _ rfl _ _ 28 rfl w.heap.size 37 _ 2 16 Try.underlying28 info37 rfl (by omega) (.slice A1 out.length c1) _ _ rfl hown 1 1 _ (by simp) _ rfl rfl (by simp [Value.oneCell']) (by simp [maxLen]; omega) (by omega) (by have := hx.size; omega) ?_; intro v1 w1 hown2 hm; obtain ⟨A2, c2, rfl, _⟩ := own_shape hown2)
        go_roundw
        case rel =>
          refine ⟨n + 1, by omega, by go_num, ?_, ext_moved hx hown hm⟩
          rw [HS.out]; simpa [HE.out, flatP_append, flatP_one] using hown2
        case measure => simp [intOf] <;> omega
      · have e1 : decide (k ≤ r.k) = false := by simp [e]
        have e2 : ¬ (k : Int) ≤ (r.k : Int) := by omega
        have HE := Lib.hid e
        clear e
        go_wp2
        go_roundw
        case rel => exact ⟨n + 1, by omega, by go_num, by rw [HS.out]; simpa [HE.out] using hown, hx⟩
        case measure => simp [intOf] <;> omega
    · obtain rfl : n = l.length := by omega
      rw [List.take_length] at hown
      obtain ⟨A1, c1, rfl, _⟩ := own_shape hown
      go_wp2
      go_ret
      exact ⟨_, rfl, hown, hx⟩

/-- A round of the reference's Put. -/
def pstep (k : Nat) (v : Int) (s : List Pr × Bool) (r : Pr) : List Pr × Bool :=
  (s.1 ++ (if (decide (k ≤ r.k) && !s.2) = true then [⟨k, v⟩] else []) ++ (if (r.k == k) = true then [] else [r]), s.2 || decide (k ≤ r.k))
def pfold (k : Nat) (v : Int) (l : List Pr) : List Pr × Bool := l.foldl (pstep k v) ([], false)
theorem pfold_take (k : Nat) (v : Int) (n : Nat) (l : List Pr) (h : n < l.length) : pfold k v (l.take (n + 1)) = pstep k v (pfold k v (l.take n)) l[n] := by
  unfold pfold; rw [List.take_succ_eq_append_getElem h, List.foldl_append]; rfl
theorem pfold_len (k : Nat) (v : Int) (l : List Pr) : (pfold k v l).1.length ≤ 2 * l.length := by
  have : ∀ (l : List Pr) (s : List Pr × Bool), (l.foldl (pstep k v) s).1.length ≤ s.1.length + 2 * l.length := by
    intro l
    induction l with
    | nil => intro s; simp
    | cons r l ih =>
      intro s
      have h1 := ih (pstep k v s r)
      have h2 : (pstep k v s r).1.length ≤ s.1.length + 2 := by
        unfold pstep
        simp only [List.length_append]
        split <;> split <;> simp <;> omega
      simp only [List.foldl_cons, List.length_cons]
      omega
  simpa [pfold] using this l ([], false)
theorem pfold_ok (k : Nat) (v : Int) (l : List Pr) : (if (pfold k v l).2 = true then (pfold k v l).1 else (pfold k v l).1 ++ [⟨k, v⟩]) = putL k v l := by
  have : ∀ (l : List Pr) (s : List Pr × Bool), (l.foldl (pstep k v) s).1 ++ (if (l.foldl (pstep k v) s).2 = true then [] else [⟨k, v⟩]) = s.1 ++ putGo k v s.2 l := by
    intro l
    induction l with
    | nil => intro s; cases hs : s.2 <;> simp [putGo, hs]
    | cons r l ih =>
      intro s
      rw [List.foldl_cons, ih]
      simp only [pstep, putGo]
      by_cases e : r.k = k <;> simp [e]
  have h := this l ([], false)
  unfold pfold putL
  rw [List.nil_append] at h
  rw [← h]
  split <;> simp

set_option maxRecDepth 100000 in
set_option maxHeartbeats 1000000 in
theorem put_ref (A : Option Addr) (c : Nat) (l : List Pr) (k : Nat) (v : Int) (w : World) (ha : RowP w A l) (hl : l.length ≤ 1000000) :
    Calls Try.prog 32 #[.slice A l.length c, .int .u64 k, .int .i64 v] w (ListPost w (putL k v l)) := by
  have own0 := own_built0 w 37 2 w.heap.size (Nat.le_refl _)
  have hx0 : Ext w (w.alloc (.cells #[] 37)) := (Ext.refl w).alloc _
  have hfin := Lib.hid (pfold_ok k v l)
  go_enter Try.func32, Try.ntmps32
  go_wp2
  go_loopw [7, 8, 9] (fun s d i wr => ∃ n : Nat, n ≤ l.length ∧ i = .int .i64 n ∧ d = .bool (pfold k v (l.take n)).2 ∧ wr.ownsRow w.heap.size 37 2 s (pfold k v (l.take n)).1.length (flatP (pfold k v (l.take n)).1) ∧ Ext w wr) (fun _ _ i _ => l.length - (intOf i).toNat)
  case atStart => exact ⟨0, Nat.zero_le _, rfl, rfl, own0, hx0⟩
  case round =>
    obtain ⟨n, hn, rfl, rfl, hown, hx⟩ := hrel
    clear own0 hx0
    by_cases hlt : n < l.length
    · obtain ⟨b, rfl, p0, p1⟩ := ha.ext hx n hlt
      have hst := pfold_take k v n l hlt
      have hdl := pfold_len k v (l.take n)
      have hln : (l.take n).length ≤ n := List.length_take_le _ _
      generalize l[n] = r at *
      generalize pfold k v (l.take n) = st at *
      obtain ⟨out, done⟩ := st
      simp only at hown hdl
      have hbb : b < w.heap.size := by
        obtain ⟨b3, e3, p3, _⟩ := ha n hlt
        cases e3
        exact block_of_cell p3
      obtain ⟨A1, c1, rfl, _⟩ := own_shape hown
      have HS := Lib.hid hst
      clear hst
      by_cases e : r.k = k
      · have e1 : ((r.k : Int) == (k : Int)) = true := by simp [e]
        have e2 : decide (k ≤ r.k) = true := by simp [e]
        have e3 : (k : Int) ≤ (r.k : Int) := by omega
        have e4 : (r.k == k) = true := by simp [e]
        have HE := Lib.hid (And.intro e4 e2)
        clear e e4
        cases done
        · go_wp2_with (at_builtin; refine wpList_append_new _ rfl _ _ 28 rfl w.heap.size 37 _ 2 16 Try.underlying28 info37 rfl (by omega) (.slice A1 out.length c1) _ _ rfl hown 1 1 _ (by simp) _ rfl rfl (by simp [Value.oneCell']) (by simp [maxLen]; omega) (by omega) (by have := hx.size; omega) ?_; intro v1 w1 hown2 hm; obtain ⟨A2, c2, rfl, _⟩ := own_shape hown2; have hx2 := ext_moved hx hown hm; replace p0 := far_cell hown hm (p := ⟨b, n * 2, none⟩) hbb p0; replace p1 := far_cell hown hm (p := ⟨b, n * 2 + 1, none⟩) hbb p1; clear hown hm)
          go_roundw
          case rel =>
            refine ⟨n + 1, by omega, by go_num, ?_, ?_, hx2⟩
            · rw [HS.out]; simp [pstep, HE.out.2]
            · rw [HS.out]; simpa [pstep, HE.out.1, HE.out.2, flatP_append, flatP_one] using hown2
          case measure => simp [intOf] <;> omega
        · go_wp2
          go_roundw
          case rel =>
            refine ⟨n + 1, by omega, by go_num, ?_, ?_, hx⟩
            · rw [HS.out]; simp [pstep]
            · rw [HS.out]; simpa [pstep, HE.out.1] using hown
          case measure => simp [intOf] <;> omega
      · have e1 : ((r.k : Int) == (k : Int)) = false := by simp; omega
        have e4 : (r.k == k) = false := by simp [e]
        by_cases e5 : k ≤ r.k
        · have e2 : decide (k ≤ r.k) = true := by simp [e5]
          have e3 : (k : Int) ≤ (r.k : Int) := by omega
          have HE := Lib.hid (And.intro e4 e2)
          clear e e4 e5
          cases done
          · go_wp2_with (first | (at_builtin; refine wpList_append_new _ rfl _ _ 28 rfl w.heap.size 37 _ 2 16 Try.underlying28 info37 rfl (by omega) (.slice A2 (out.length + 1) c2) _ _ rfl hown2 1 1 _ (by simp) _ rfl rfl (by simp [Value.oneCell']) (by simp [maxLen]; omega) (by omega) (by have := hx2.size; omega) ?_; intro v2 w2 hown3 hm; obtain ⟨A3, c3, rfl, _⟩ := own_shape hown3; have hx3 := ext_moved hx2 hown2 hm; clear hown2 hm) | (at_builtin; refine wpList_append_new _ rfl _ _ 28 rfl w.heap.size 37 _ 2 16 Try.underlying28 info37 rfl (by omega) (.slice A1 out.length c1) _ _ rfl hown 1 1 _ (by simp) _ rfl rfl (by simp [Value.oneCell']) (by simp [maxLen]; omega) (by omega) (by have := hx.size; omega) ?_; intro v1 w1 hown2 hm; obtain ⟨A2, c2, rfl, _⟩ := own_shape hown2; have hx2 := ext_moved hx hown hm; replace p0 := far_cell hown hm (p := ⟨b, n * 2, none⟩) hbb p0; replace p1 := far_cell hown hm (p := ⟨b, n * 2 + 1, none⟩) hbb p1; clear hown hm))
            go_roundw
            case rel =>
              refine ⟨n + 1, by omega, by go_num, ?_, ?_, hx3⟩
              · rw [HS.out]; simp [pstep, HE.out.2]
              · rw [HS.out]; simpa [pstep, HE.out.1, HE.out.2, flatP_append, flatP_one, flatP, Nat.add_assoc] using hown3
            case measure => simp [intOf] <;> omega
          · go_wp2_with (at_builtin; refine wpList_append_new _ rfl _ _ 28 rfl w.heap.size 37 _ 2 16 Try.underlying28 info37 rfl (by omega) (.slice A1 out.length c1) _ _ rfl hown 1 1 _ (by simp) _ rfl rfl (by simp [Value.oneCell']) (by simp [maxLen]; omega) (by omega) (by have := hx.size; omega) ?_; intro v1 w1 hown2 hm; obtain ⟨A2, c2, rfl, _⟩ := own_shape hown2; have hx2 := ext_moved hx hown hm; replace p0 := far_cell hown hm (p := ⟨b, n * 2, none⟩) hbb p0; replace p1 := far_cell hown hm (p := ⟨b, n * 2 + 1, none⟩) hbb p1; clear hown hm)
            go_roundw
            case rel =>
              refine ⟨n + 1, by omega, by go_num, ?_, ?_, hx2⟩
              · rw [HS.out]; simp [pstep]
              · rw [HS.out]; simpa [pstep, HE.out.1, HE.out.2, flatP_append, flatP_one] using hown2
            case measure => simp [intOf] <;> omega
        · have e2 : decide (k ≤ r.k) = false := by simp [e5]
          have e3 : ¬ (k : Int) ≤ (r.k : Int) := by omega
          have HE := Lib.hid (And.intro e4 e2)
          clear e e4 e5
          go_wp2_with (at_builtin; refine wpList_append_new _ rfl _ _ 28 rfl w.heap.size 37 _ 2 16 Try.underlying28 info37 rfl (by omega) (.slice A1 out.length c1) _ _ rfl hown 1 1 _ (by simp) _ rfl rfl (by simp [Value.oneCell']) (by simp [maxLen]; omega) (by omega) (by have := hx.size; omega) ?_; intro v1 w1 hown2 hm; obtain ⟨A2, c2, rfl, _⟩ := own_shape hown2; have hx2 := ext_moved hx hown hm; replace p0 := far_cell hown hm (p := ⟨b, n * 2, none⟩) hbb p0; replace p1 := far_cell hown hm (p := ⟨b, n * 2 + 1, none⟩) hbb p1; clear hown hm)
          go_roundw
          case rel =>
            refine ⟨n + 1, by omega, by go_num, ?_, ?_, hx2⟩
            · rw [HS.out]; simp [pstep, HE.out.2]
            · rw [HS.out]; simpa [pstep, HE.out.1, HE.out.2, flatP_append, flatP_one] using hown2
          case measure => simp [intOf] <;> omega
    · obtain rfl : n = l.length := by omega
      have hdl := pfold_len k v l
      rw [List.take_length] at *
      generalize pfold k v l = st at *
      obtain ⟨out, done⟩ := st
      simp only at hown hdl hfin
      obtain ⟨A1, c1, rfl, _⟩ := own_shape hown
      cases done
      · go_wp2_with (at_builtin; refine wpList_append_new _ rfl _ _ 28 rfl w.heap.size 37 _ 2 16 Try.underlying28 info37 rfl (by omega) (.slice A1 out.length c1) _ _ rfl hown 1 1 _ (by simp) _ rfl rfl (by simp [Value.oneCell']) (by simp [maxLen]; omega) (by omega) (by have := hx.size; omega) ?_; intro v1 w1 hown2 hm; obtain ⟨A2, c2, rfl, _⟩ := own_shape hown2)
        go_ret
        have hf := hfin.out
        simp at hf
        rw [← hf]
        exact ⟨_, rfl, by simpa [flatP_append, flatP_one] using hown2, ext_moved hx hown hm⟩
      · go_wp2
        go_ret
        have hf := hfin.out
        simp at hf
        rw [← hf]
        exact ⟨_, rfl, hown, hx⟩
end Go.Proofs.Ytcdjhoejnjbgkaa
