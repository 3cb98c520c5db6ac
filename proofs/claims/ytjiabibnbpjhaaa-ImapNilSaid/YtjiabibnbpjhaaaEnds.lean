/- The contract of the reference's ends. -/
import Derived.Test.YtjiabibnbpjhaaaTold
import Derived.Test.YtjiabibnbpjhaaaWords
import Derived.Deep.Cut
namespace Go.Proofs.Ytjiabibnbpjhaaa
open Go.RowKit

theorem info2 : (Try.prog.info? 2).map (fun i => (i.zero, i.size, i.bytes)) = some (some (.int .i64 0), 1, 8) := by kernel_rfl

/-- A number put in its place; one that is there already isn't put twice. -/
def idxOf (l : List Int) (n : Int) : Nat := (l.takeWhile (fun x => decide (x < n))).length
def ins (l : List Int) (n : Int) : List Int := if l[idxOf l n]? = some n then l else l.take (idxOf l n) ++ [n] ++ l.drop (idxOf l n)
def endsStep (l : List Int) (a : Ac) : List Int := if goodB a.f a.t then ins (ins l a.f) a.t else l
def endsR (l : List Ac) : List Int := l.foldl endsStep [0]
theorem endsR_snoc (l : List Ac) (a : Ac) : endsR (l ++ [a]) = endsStep (endsR l) a := by simp [endsR]
theorem idxOf_le (l : List Int) (n : Int) : idxOf l n ≤ l.length := (List.takeWhile_sublist _).length_le
theorem ins_length (l : List Int) (n : Int) : (ins l n).length ≤ l.length + 1 := by
  unfold ins
  split
  · omega
  · simp; omega
theorem endsR_length (l : List Ac) : (endsR l).length ≤ 2 * l.length + 1 := by
  suffices h : ∀ (l : List Ac) (s : List Int), (l.foldl endsStep s).length ≤ s.length + 2 * l.length by
    have := h l [0]
    simp only [List.length_singleton] at this
    unfold endsR
    omega
  intro l
  induction l with
  | nil => intro s; simp
  | cons a l ih =>
    intro s
    have h1 := ih (endsStep s a)
    have h2 : (endsStep s a).length ≤ s.length + 2 := by
      unfold endsStep
      split
      · have := ins_length s a.f
        have := ins_length (ins s a.f) a.t
        omega
      · omega
    simp only [List.foldl_cons, List.length_cons]
    omega

theorem idxOf_lt (l : List Int) (n : Int) (m : Nat) (h : m < idxOf l n) : ∃ hm : m < l.length, l[m] < n := by
  induction l generalizing m with
  | nil => simp [idxOf] at h
  | cons x l ih =>
    unfold idxOf at h
    rw [List.takeWhile_cons] at h
    by_cases hx : x < n
    · simp only [hx, decide_true, if_true, List.length_cons] at h
      rcases m with _ | m
      · exact ⟨by simp, by simpa using hx⟩
      · obtain ⟨hm, h1⟩ := ih m (by unfold idxOf; omega)
        exact ⟨by simp; omega, by simpa using h1⟩
    · simp [hx] at h
theorem idxOf_end (l : List Int) (n : Int) (h : idxOf l n < l.length) : ¬ l[idxOf l n] < n := by
  induction l with
  | nil => simp at h
  | cons x l ih =>
    by_cases hx : x < n
    · have e : idxOf (x :: l) n = idxOf l n + 1 := by unfold idxOf; simp [hx]
      simp only [e, List.getElem_cons_succ]
      exact ih (by rw [e] at h; simpa using h)
    · have e : idxOf (x :: l) n = 0 := by unfold idxOf; simp [hx]
      simp only [e, List.getElem_cons_zero]
      exact hx

theorem ints_oneCell' (l : List Int) : ∀ u ∈ l.map (Value.int .i64), u.oneCell' = true := by
  intro u hu
  obtain ⟨x, _, rfl⟩ := List.mem_map.1 hu
  rfl

/-- A slice of numbers that reads as l. -/
def Ints (w : World) (A : Option Addr) (l : List Int) : Prop :=
  ∀ (k : Nat) (h : k < l.length), ∃ b, A = some ⟨b, 0, none⟩ ∧ w.cell? ⟨b, k, none⟩ = some (.int .i64 l[k])
theorem Ints.ext {w w' : World} {A : Option Addr} {l : List Int} (h : Ints w A l) (hx : Ext w w') : Ints w' A l := fun k hk => by
  obtain ⟨b, hA, p0⟩ := h k hk
  exact ⟨b, hA, hx.cell p0⟩
def ints (l : List Int) : List Value := l.map (Value.int .i64)
theorem ints_own {w : World} {base : Nat} {A : Option Addr} {c : Nat} {l : List Int} (h : w.ownsRow base 2 1 (.slice A l.length c) l.length (ints l)) : Ints w A l := fun k hk => by
  obtain ⟨g, cap, hv, _, _⟩ := h.form (by omega)
  cases hv
  refine ⟨g, rfl, ?_⟩
  rw [h.cellAt _ (by omega)]
  simp [ints, hk]
theorem Ints.reads {w : World} {A : Option Addr} {l : List Int} (h : Ints w A l) : Reads w w.heap.size 1 A l.length (ints l) := by
  refine ⟨by simp [ints], fun hn => ?_⟩
  obtain ⟨b, rfl, p0⟩ := h 0 hn
  refine ⟨_, rfl, block_of_cell p0, fun j u hj => ?_⟩
  simp only [ints, List.getElem?_map, Option.map_eq_some_iff] at hj
  obtain ⟨x, hx, rfl⟩ := hj
  obtain ⟨hj, rfl⟩ := List.getElem?_eq_some_iff.1 hx
  obtain ⟨b', e, p⟩ := h j hj
  simp only [Option.some.injEq, Addr.mk.injEq, and_true] at e
  subst e
  have : (⟨b, 0, none⟩ : Addr).add j = ⟨b, j, none⟩ := by unfold Addr.add; split <;> simp_all
  rw [this]; exact p

theorem ints_cut {w : World} {b k : Nat} {l : List Int} (h : Ints w (some ⟨b, 0, none⟩) l) : Reads w w.heap.size 1 (some ⟨b, k, none⟩) (l.length - k) (ints (l.drop k)) := by
  refine ⟨by simp [ints], fun hn => ⟨_, rfl, ?_, fun j u hj => ?_⟩⟩
  · obtain ⟨b', e, p⟩ := h k (by omega)
    simp only [Option.some.injEq, Addr.mk.injEq, and_true] at e
    subst e
    exact block_of_cell p
  · simp only [ints, List.getElem?_map, List.getElem?_drop, Option.map_eq_some_iff] at hj
    obtain ⟨x, hx, rfl⟩ := hj
    obtain ⟨hj, rfl⟩ := List.getElem?_eq_some_iff.1 hx
    obtain ⟨b', e, p⟩ := h (k + j) hj
    simp only [Option.some.injEq, Addr.mk.injEq, and_true] at e
    subst e
    have : (⟨b, k, none⟩ : Addr).add j = ⟨b, k + j, none⟩ := by unfold Addr.add; split <;> simp_all
    rw [this]; exact p

def EndsPost (l : List Int) (w : World) (e : Ending) (w' : World) : Prop := ∃ A c, e = .returned (.slice A l.length c) ∧ l.length ≤ c ∧ Ints w' A l ∧ Ext w w'

theorem own_cap {w : World} {base : Nat} {e : TypeId} {size : Nat} {A : Option Addr} {c n : Nat} {xs : List Value} (h : w.ownsRow base e size (.slice A n c) n xs) : c ≤ maxLen := by
  rcases h.2 with ⟨h1, _⟩ | ⟨g, cap, cur, h1, _, _, _, hm, _⟩
  · cases h1; simp [maxLen]
  · cases h1; exact hm

/-- What the loops of ends keep. -/
def EI (w wr : World) (v : Value) (l : List Int) : Prop := ∃ A c, v = .slice A l.length c ∧ l.length ≤ c ∧ c ≤ maxLen ∧ Ints wr A l ∧ Ext w wr

set_option maxRecDepth 100000 in
set_option maxHeartbeats 8000000 in
theorem ends_calls (A : Option Addr) (c : Nat) (l : List Ac) (w : World) (ha : Acts w A l) (hl : l.length ≤ 10000) :
    Calls Try.prog 36 #[.slice A l.length c] w (EndsPost (endsR l) w) := by
  have hO : Ints (w.alloc (.cells #[.int .i64 0] 2)) (some ⟨w.heap.size, 0, none⟩) [0] := fun k hk => by
    simp only [List.length_singleton] at hk
    obtain rfl : k = 0 := by omega
    exact ⟨_, rfl, by simp⟩
  have hEI : EI w (w.alloc (.cells #[.int .i64 0] 2)) (.slice (some ⟨w.heap.size, 0, none⟩) 1 1) (endsR []) := ⟨_, _, rfl, Nat.le_refl _, by simp [maxLen], hO, (Ext.refl w).alloc _⟩
  clear hO
  go_enter Try.func36, Try.ntmps36
  go_wp2
  go_loopw [3, 13] (fun v i wr => ∃ k : Nat, k ≤ l.length ∧ i = .int .i64 k ∧ EI w wr v (endsR (l.take k))) (fun _ i _ => l.length - (intOf i).toNat)
  case atStart => exact ⟨0, Nat.zero_le _, rfl, hEI⟩
  case round =>
    obtain ⟨k, hk, rfl, hei⟩ := hrel
    clear hEI
    by_cases hlt : k < l.length
    · obtain ⟨A1, c1, rfl, hc1, hc2, hI, hx⟩ := hei
      obtain ⟨b, o, rfl, p0, p1, p2, p3⟩ := ha.ext hx k hlt
      obtain ⟨r, hr⟩ : ∃ r, l[k] = r := ⟨_, rfl⟩
      rw [hr] at p0 p1 p2 p3
      have hs : endsR (l.take (k + 1)) = endsStep (endsR (l.take k)) r := by
        rw [List.take_succ_eq_append_getElem hlt, endsR_snoc, hr]
      have hlen := endsR_length (l.take k)
      have hl2 : (l.take k).length ≤ l.length := by simp <;> omega
      generalize endsR (l.take k) = out at *
      have HS := Lib.hid hs
      clear hs hr
      go_wp2_with fail
      refine (does_calls _ _ _ _ _).mono ?_
      rintro e w1 ⟨rfl, hx1⟩
      have q1 : w1.cell? ⟨wr.heap.size, 1, none⟩ = some (.int .i64 r.f) := hx1.cell (by simp)
      have q2 : w1.cell? ⟨wr.heap.size, 2, none⟩ = some (.int .i64 r.t) := hx1.cell (by simp)
      replace hx1 := ((Ext.refl wr).alloc _).trans hx1
      replace hI := hI.ext hx1
      replace hx := hx.trans hx1
      clear p0 p1 p2 p3 hx1
      cases e1 : goodB r.f r.t
      · go_wp2
        go_roundw
        case rel =>
          refine ⟨k + 1, by omega, by go_num, ?_⟩
          rw [HS.out]; unfold endsStep; rw [e1]
          exact ⟨A1, c1, rfl, hc1, hc2, hI, hx⟩
        case measure => simp [intOf] <;> omega
      · go_wp2
        have n0 : (w1.alloc (.cells #[.int .i64 r.f, .int .i64 r.t] 2)).cell? ⟨w1.heap.size, 0, none⟩ = some (.int .i64 r.f) := by simp
        have n1 : (w1.alloc (.cells #[.int .i64 r.f, .int .i64 r.t] 2)).cell? ⟨w1.heap.size, 1, none⟩ = some (.int .i64 r.t) := by simp
        have hxw : Ext w1 (w1.alloc (.cells #[.int .i64 r.f, .int .i64 r.t] 2)) := (Ext.refl _).alloc _
        replace hI := hI.ext hxw
        replace hx := hx.trans hxw
        clear hxw q1 q2
        generalize w1.alloc (.cells #[.int .i64 r.f, .int .i64 r.t] 2) = wb at *
        generalize w1.heap.size = nb at *
        have hNi : Ints wb (some ⟨nb, 0, none⟩) [r.f, r.t] := fun j hj => by
          simp only [List.length_cons, List.length_nil] at hj
          have : j = 0 ∨ j = 1 := by omega
          rcases this with rfl | rfl
          · exact ⟨_, rfl, n0⟩
          · exact ⟨_, rfl, n1⟩
        have hEI2 : EI w wb (.slice A1 out.length c1) (([r.f, r.t].take 0).foldl ins out) := ⟨A1, c1, rfl, hc1, hc2, hI, hx⟩
        clear n0 n1 hI hx hc1 hc2
        obtain ⟨wo, rfl⟩ : ∃ wo : World, wo = wr := ⟨_, rfl⟩
        go_loopw [3, 28] (fun v i wr => ∃ j : Nat, j ≤ 2 ∧ i = .int .i64 j ∧ Ext wb wr ∧ EI w wr v (([r.f, r.t].take j).foldl ins out)) (fun _ i _ => 2 - (intOf i).toNat)
        case atStart => exact ⟨0, Nat.zero_le _, rfl, Ext.refl _, hEI2⟩
        case round =>
          obtain ⟨j, hj, rfl, hxb, hei⟩ := hrel
          clear hEI2
          by_cases hj2 : j < 2
          · obtain ⟨b', e', px⟩ := hNi.ext hxb j hj2
            simp only [Option.some.injEq, Addr.mk.injEq, and_true] at e'
            subst e'
            obtain ⟨x, hxj⟩ : ∃ x, [r.f, r.t][j] = x := ⟨_, rfl⟩
            rw [hxj] at px
            have hfs : ([r.f, r.t].take (j + 1)).foldl ins out = ins (([r.f, r.t].take j).foldl ins out) x := by
              rw [List.take_succ_eq_append_getElem hj2, List.foldl_append, hxj]; rfl
            have hol : (([r.f, r.t].take j).foldl ins out).length ≤ out.length + 2 := by
              have h1 := ins_length out r.f
              have : j = 0 ∨ j = 1 := by omega
              rcases this with rfl | rfl
              · simp
              · simp; omega
            generalize ([r.f, r.t].take j).foldl ins out = o1 at *
            have HF := Lib.hid hfs
            clear hfs hxj
            obtain ⟨A2, c2, rfl, hd1, hd2, hI, hx⟩ := hei
            go_wp2
            clear px
            have hil := idxOf_le o1 x
            go_loop [8] (fun i => ∃ m : Nat, m ≤ idxOf o1 x ∧ i = .int .i64 m) (fun i => o1.length - (intOf i).toNat)
            case atStart => exact ⟨0, Nat.zero_le _, rfl⟩
            case round =>
              obtain ⟨m, hm, rfl⟩ := hrel
              by_cases hmi : m < idxOf o1 x
              · obtain ⟨hml, hmx⟩ := idxOf_lt o1 x m hmi
                obtain ⟨b2, rfl, pm⟩ := hI m hml
                go_wp2
                go_round
                case rel => exact ⟨m + 1, by omega, by go_num⟩
                case measure => simp [intOf] <;> omega
              · obtain rfl : m = idxOf o1 x := by omega
                have hend := idxOf_end o1 x
                have HI : Hid (ins o1 x = if o1[idxOf o1 x]? = some x then o1 else o1.take (idxOf o1 x) ++ [x] ++ o1.drop (idxOf o1 x)) := rfl
                generalize idxOf o1 x = kk at *
                by_cases heq : o1[kk]? = some x
                · obtain ⟨hkl, hkx⟩ := List.getElem?_eq_some_iff.1 heq
                  obtain ⟨b2, rfl, pm⟩ := hI kk hkl
                  rw [hkx] at pm
                  have HQ := Lib.hid heq
                  clear hend hkx heq
                  go_wp2
                  go_roundw
                  case rel =>
                    refine ⟨j + 1, by omega, by go_num, hxb, ?_⟩
                    rw [HF.out, HI.out, if_pos HQ.out]
                    exact ⟨_, c2, rfl, hd1, hd2, hI, hx⟩
                  case measure => simp [intOf] <;> omega
                · have hcase : kk = o1.length ∨ ∃ (h : kk < o1.length) (y : Int), o1[kk] = y ∧ x < y := by
                    by_cases h : kk < o1.length
                    · refine .inr ⟨h, _, rfl, ?_⟩
                      have h1 := hend h
                      have h2 : o1[kk] ≠ x := fun e => heq (by rw [List.getElem?_eq_getElem h, e])
                      omega
                    · exact .inl (by omega)
                  have HQ := Lib.hid heq
                  clear hend heq
                  have hown0 : (wr.alloc (.cells #[] 2)).ownsRow wr.heap.size 2 1 (.slice (some ⟨wr.heap.size, 0, none⟩) 0 0) 0 [] := by
                    have := World.ownsRow_lit wr #[] 0 (base := wr.heap.size) (e := 2) (size := 1) (Nat.le_refl _) (by simp [maxLen]) rfl
                    exact this
                  have hx1 : Ext wr (wr.alloc (.cells #[] 2)) := (Ext.refl wr).alloc _
                  have hR0 := (hI.ext hx1).reads
                  have hR1 : Reads (wr.alloc (.cells #[] 2)) (wr.alloc (.cells #[] 2)).heap.size 1 A2 kk (ints (o1.take kk)) := by
                    refine ⟨by simp [ints]; omega, fun hn => ?_⟩
                    obtain ⟨ad, h1, h2, h3⟩ := hR0.2 (by omega)
                    refine ⟨ad, h1, h2, fun j u hu => h3 j u ?_⟩
                    rw [← hu]; simp only [ints, List.map_take]
                    rw [List.getElem?_take_of_lt]
                    have := (List.getElem?_eq_some_iff.1 hu).1
                    simp [ints] at this; omega
                  have hx0 : Ext w (wr.alloc (.cells #[] 2)) := hx.trans hx1
                  have hcut : ∀ w3, Ext wr w3 → Reads w3 w3.heap.size 1 (if c2 = kk then A2 else A2.map (·.add (kk * 1))) (o1.length - kk) (ints (o1.drop kk)) := fun w3 h3 => by
                    have := ((hI.ext h3).reads).cut hil hd1
                    simpa [ints, List.map_drop] using this
                  have HC := hide hcut
                  clear hcut hR0
                  rcases hcase with rfl | ⟨hkl, y, hy, hyx⟩
                  · have hlu : ¬ o1.length < o1.length := by omega
                    go_wp2_with (first | (at_builtin; refine wpList_append_src _ rfl (.tmp 58) (.tmp 61) 53 rfl wr.heap.size 2 _ 1 8 Try.underlying53 info2 rfl (by omega) (.slice (some ⟨wr.heap.size, 0, none⟩) 0 0) 0 [] rfl hown0 _ _ _ _ _ rfl hR1 (ints_oneCell' _) (by simp [maxLen]; omega) (by omega) hx1.size ?_; intro v1 w2 hown2 hm1; have hx2 := ext_moved hx1 hown0 hm1) | (at_builtin; refine wpList_append_new _ rfl (.tmp 63) (.tmp 65) 53 rfl wr.heap.size 2 _ 1 8 Try.underlying53 info2 rfl (by omega) v1 _ _ rfl hown2 1 1 _ (by simp) _ rfl rfl (by simp [Value.oneCell']) (by simp [maxLen]; omega) (by omega) hx2.size ?_; intro v2 w3 hown3 hm2; have hx3 := ext_moved hx2 hown2 hm2; clear hx2 hm2 hown2 hm1) | (at_builtin; refine wpList_append_src _ rfl (.tmp 67) (.tmp 70) 53 rfl wr.heap.size 2 _ 1 8 Try.underlying53 info2 rfl (by omega) v2 _ _ rfl hown3 w3.heap.size _ _ _ (ints (o1.drop o1.length)) rfl (by have := unhide HC w3 hx3; simpa using this) (by simp only [ints]; exact ints_oneCell' _) (by simp [maxLen]; omega) (by omega) hx3.size ?_; intro v3 w4 hown4 hm3; have hx4 := ext_moved hx3 hown3 hm3; clear hx3 hm3 hown3))
                    clear hI hR1 hown0 hx1 hx0 HC
                    go_roundw
                    case rel =>
                      have hne := HQ.out
                      refine ⟨j + 1, by omega, by go_num, hxb.trans hx4, ?_⟩
                      rw [HF.out, HI.out, if_neg hne]
                      have hlen4 : (o1.take o1.length ++ [x] ++ o1.drop o1.length).length = 0 + o1.length + 1 + (o1.length - o1.length) := by simp <;> omega
                      have hown5 : w4.ownsRow wr.heap.size 2 1 v3 (o1.take o1.length ++ [x] ++ o1.drop o1.length).length (ints (o1.take o1.length ++ [x] ++ o1.drop o1.length)) := by
                        rw [hlen4]; simpa [ints] using hown4
                      obtain ⟨A4, c4, rfl, hc4⟩ := own_shape hown5
                      exact ⟨A4, c4, rfl, hc4, own_cap hown5, ints_own hown5, hx.trans hx4⟩
                    case measure => simp [intOf] <;> omega
                  · obtain ⟨b2, rfl, pm⟩ := hI kk hkl
                    rw [hy] at pm
                    have hcut2 : ∀ w3, Ext wr w3 → Reads w3 w3.heap.size 1 (some ⟨b2, kk, none⟩) (o1.length - kk) (ints (o1.drop kk)) := fun w3 h3 => ints_cut (hI.ext h3)
                    have HC2 := hide hcut2
                    clear hcut2
                    go_wp2_with (first | (at_builtin; refine wpList_append_src _ rfl (.tmp 58) (.tmp 61) 53 rfl wr.heap.size 2 _ 1 8 Try.underlying53 info2 rfl (by omega) (.slice (some ⟨wr.heap.size, 0, none⟩) 0 0) 0 [] rfl hown0 _ _ _ _ _ rfl hR1 (ints_oneCell' _) (by simp [maxLen]; omega) (by omega) hx1.size ?_; intro v1 w2 hown2 hm1; have hx2 := ext_moved hx1 hown0 hm1) | (at_builtin; refine wpList_append_new _ rfl (.tmp 63) (.tmp 65) 53 rfl wr.heap.size 2 _ 1 8 Try.underlying53 info2 rfl (by omega) v1 _ _ rfl hown2 1 1 _ (by simp) _ rfl rfl (by simp [Value.oneCell']) (by simp [maxLen]; omega) (by omega) hx2.size ?_; intro v2 w3 hown3 hm2; have hx3 := ext_moved hx2 hown2 hm2; clear hx2 hm2 hown2 hm1) | (at_builtin; refine wpList_append_src _ rfl (.tmp 67) (.tmp 70) 53 rfl wr.heap.size 2 _ 1 8 Try.underlying53 info2 rfl (by omega) v2 _ _ rfl hown3 w3.heap.size _ _ _ (ints (o1.drop kk)) rfl (by have := unhide HC2 w3 hx3; simpa using this) (by simp only [ints]; exact ints_oneCell' _) (by simp [maxLen]; omega) (by omega) hx3.size ?_; intro v3 w4 hown4 hm3; have hx4 := ext_moved hx3 hown3 hm3; clear hx3 hm3 hown3))
                    clear hI hR1 hown0 hx1 hx0 HC
                    go_roundw
                    case rel =>
                      have hne := HQ.out
                      refine ⟨j + 1, by omega, by go_num, hxb.trans hx4, ?_⟩
                      rw [HF.out, HI.out, if_neg hne]
                      have hlen4 : (o1.take kk ++ [x] ++ o1.drop kk).length = 0 + kk + 1 + (o1.length - kk) := by simp <;> omega
                      have hown5 : w4.ownsRow wr.heap.size 2 1 v3 (o1.take kk ++ [x] ++ o1.drop kk).length (ints (o1.take kk ++ [x] ++ o1.drop kk)) := by
                        rw [hlen4]; simpa [ints] using hown4
                      obtain ⟨A4, c4, rfl, hc4⟩ := own_shape hown5
                      exact ⟨A4, c4, rfl, hc4, own_cap hown5, ints_own hown5, hx.trans hx4⟩
                    case measure => simp [intOf] <;> omega
          · obtain rfl : j = 2 := by omega
            go_wp2
            go_roundw
            case rel =>
              refine ⟨k + 1, by omega, by go_num, ?_⟩
              rw [HS.out]; unfold endsStep; rw [e1]; exact hei
            case measure => simp [intOf] <;> omega
    · obtain rfl : k = l.length := by omega
      rw [List.take_length] at hei
      obtain ⟨A1, c1, rfl, hc1, hc2, hI, hx⟩ := hei
      go_wp2
      go_ret
      exact ⟨A1, c1, rfl, hc1, hI, hx⟩
end Go.Proofs.Ytjiabibnbpjhaaa
