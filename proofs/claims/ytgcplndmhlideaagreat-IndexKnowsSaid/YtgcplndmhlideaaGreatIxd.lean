/- What a drop and a forgetting make of an index. -/
import Derived.Test.YtgcplndmhlideaaGreatIput
namespace Go.Proofs.YtgcplndmhlideaaGreat
open Go.RowKit

theorem filter_isN {L : List Sl} (hd : Dis L) {v n : Int} {s : Sl} (hg : getS L v n = some s) : L.filter (isN v n) = [s] := by
  induction L with
  | nil => simp [getS] at hg
  | cons r L ih =>
    obtain ⟨h1, h2⟩ := List.pairwise_cons.1 hd
    unfold getS at hg
    cases hr : isN v n r with
    | true =>
      rw [List.find?_cons_of_pos hr] at hg
      injection hg with hg
      subst hg
      rw [List.filter_cons_of_pos hr]
      have : L.filter (isN v n) = [] := by
        rw [List.filter_eq_nil_iff]
        intro t ht hq
        have a := isN_iff.1 hr
        have b := isN_iff.1 hq
        exact h1 t ht ⟨by omega, by omega⟩
      rw [this]
    | false =>
      rw [List.find?_cons_of_neg (by rw [hr]; decide)] at hg
      rw [List.filter_cons_of_neg (by rw [hr]; decide)]
      exact ih h2 hg
theorem sum_drop {u : Int} {x : Ix} (h : IxOk u x) {v n : Int} {s : Sl} (hg : getS x.L v n = some s) : sumS (dropS x.L v n) = sumS x.L - s.b := by
  have h1 := sum_split x.L (isN v n)
  rw [filter_isN h.dis hg] at h1
  have h2 : sumS [s] = s.b := by simp [sumS]
  unfold dropS
  omega
theorem sum_forget (L : List Sl) (v : Int) : sumS (forgS L v) = sumS L - sumS (L.filter fun s => decide (s.v = v)) := by
  have h1 := sum_split L fun s => decide (s.v = v)
  have h2 : (L.filter fun s => !decide (s.v = v)) = forgS L v := by
    unfold forgS
    congr 1
    funext s
    simp
  rw [h2] at h1
  omega
section
variable {w : World} {xb : Nat} {u : Int} {x : Ix} {kv kn : Nat} {p q p' : Option Addr} {lv : List (Pr Mp)} {s : Sl}
/-- Behind a drop that leaves something of its version. -/
theorem ix_drop1 (hf : Fit u x) (hg : getS x.L kv kn = some s)
    (hb : w.heap[xb]? = some (.cells #[.int .i64 u, .pointer p, .pointer q, .int .i64 x.c, .int .i64 (sumS x.L - s.b)] 77 (0, 0)))
    (hv : Vers w lv x.L) (hu : Up lv) (hp : MpAt w p (putL kv p' lv)) (hi : ItAt w p' (dropL kn (itemsOf x.L kv))) (hne : dropL kn (itemsOf x.L kv) ≠ []) (hq : NmAt w q (dropL s.c.toNat (cntOf x.L))) : IxAt w xb u ⟨dropS x.L kv kn, x.c⟩ := by
  have hid := fun v' => items_drop hf.ok kv kn (by omega) v'
  have e1 : itemsOf (dropS x.L kv kn) kv = dropL kn (itemsOf x.L kv) := by rw [hid, if_pos rfl]; simp
  refine ⟨p, q, putL kv p' lv, ?_, hp, ?_, ?_⟩
  · rw [hb]
    have : sumS (dropS x.L kv kn) = sumS x.L - s.b := sum_drop hf.ok hg
    rw [this]
  · show NmAt w q (cntOf (dropS x.L kv kn))
    rw [cnt_drop hf.ok hg]; exact hq
  · exact hv.put hu (by rw [e1]; exact hi) (by rw [e1]; exact hne) (fun v' hne => by rw [hid, if_neg hne]) fun s hs _ => (List.mem_filter.1 hs).1
/-- Behind a drop of a version's last slice. -/
theorem ix_drop0 (hf : Fit u x) (hg : getS x.L kv kn = some s)
    (hb : w.heap[xb]? = some (.cells #[.int .i64 u, .pointer p, .pointer q, .int .i64 x.c, .int .i64 (sumS x.L - s.b)] 77 (0, 0)))
    (hv : Vers w lv x.L) (hp : MpAt w p (dropL kv lv)) (he : dropL kn (itemsOf x.L kv) = []) (hq : NmAt w q (dropL s.c.toNat (cntOf x.L))) : IxAt w xb u ⟨dropS x.L kv kn, x.c⟩ := by
  have hid := fun v' => items_drop hf.ok kv kn (by omega) v'
  have e1 : itemsOf (dropS x.L kv kn) kv = dropL kn (itemsOf x.L kv) := by rw [hid, if_pos rfl]; simp
  have hok := hf.ok.filter fun s => !isN kv kn s
  refine ⟨p, q, dropL kv lv, ?_, hp, ?_, ?_⟩
  · rw [hb]
    have : sumS (dropS x.L kv kn) = sumS x.L - s.b := sum_drop hf.ok hg
    rw [this]
  · show NmAt w q (cntOf (dropS x.L kv kn))
    rw [cnt_drop hf.ok hg]; exact hq
  · exact hv.drop ((items_nil hok.dis hok.n0 _).1 (e1.trans he)) (fun v' hne => by rw [hid, if_neg hne]) fun s hs _ => (List.mem_filter.1 hs).1
/-- Behind a forgetting. -/
theorem ix_forget (hf : Fit u x)
    (hb : w.heap[xb]? = some (.cells #[.int .i64 u, .pointer p, .pointer q, .int .i64 x.c, .int .i64 (sumS x.L - sumS (x.L.filter fun s => decide (s.v = kv)))] 77 (0, 0)))
    (hv : Vers w lv x.L) (hp : MpAt w p (dropL kv lv)) (hq : NmAt w q (dropAll ((itemsOf x.L kv).map (·.v.c.toNat)) (cntOf x.L))) : IxAt w xb u ⟨forgS x.L kv, x.c⟩ := by
  refine ⟨p, q, dropL kv lv, ?_, hp, ?_, ?_⟩
  · rw [hb]
    have : sumS (forgS x.L kv) = sumS x.L - sumS (x.L.filter fun s => decide (s.v = kv)) := sum_forget x.L kv
    rw [this]
  · show NmAt w q (cntOf (forgS x.L kv))
    rw [cnt_forget hf.ok]; exact hq
  · exact hv.drop (fun s hs => by simpa using (List.mem_filter.1 hs).2) (fun v' hne => by rw [items_forget hf.ok, if_neg hne]) fun s hs _ => (List.mem_filter.1 hs).1
end
end Go.Proofs.YtgcplndmhlideaaGreat
