/- The contract of the reference's Start. -/
import Derived.Test.YtaanbgagdanalaaREnd
import Derived.Test.YtaanbgagdanalaaStart
import Derived.BigRegion
import Derived.Deep.RegionLaw
import Derived.Deep.Cut
namespace Go.Proofs.Ytaanbgagdanalaa
open Go.RowKit

theorem RTabAt.push {N : Nat} {w w' : World} {tb : Nat} {lv lv' : Value} {ys : List Ry} {last last' : Int} {f' : Fl} (h : RTabAt N w tb lv ys last)
    (hw : f'.who = []) (htb : w'.heap[tb]? = some (.cells #[lv', .int .i64 last'] 51 (0, 0))) (ht : Turn (tb :: ob lv) w w') (ho : Of (ob lv) (ob lv') w)
    (hr : w'.ownsRow N 57 16 lv' (ys.length + 1) (rows (ys ++ [⟨f', .slice none 0 0⟩]))) :
    RTabAt N w' tb lv' (ys ++ [⟨f', .slice none 0 0⟩]) last' ∧ Of (ownR tb lv ys) (ownR tb lv' (ys ++ [⟨f', .slice none 0 0⟩])) w := by
  have hlt := blk_lt h.blk
  have hd1 : tb ∉ ob lv' := fun e => by
    rcases ho _ e with e | e
    · exact h.d1 e
    · omega
  have hget : ∀ j (hj : j < (ys ++ [(⟨f', .slice none 0 0⟩ : Ry)]).length), (∃ hj' : j < ys.length, (ys ++ [(⟨f', .slice none 0 0⟩ : Ry)])[j] = ys[j]) ∨ (j = ys.length ∧ (ys ++ [(⟨f', .slice none 0 0⟩ : Ry)])[j] = ⟨f', .slice none 0 0⟩) := fun j hj => by
    by_cases hj' : j < ys.length
    · exact .inl ⟨hj', by rw [List.getElem_append_left hj']⟩
    · have : j = ys.length := by simp at hj; omega
      subst this
      exact .inr ⟨rfl, by simp⟩
  have hnil : ob (.slice none 0 0) = [] := rfl
  refine ⟨⟨h.low, htb, by simpa using hr, ?_, hd1, ?_, ?_⟩, ?_⟩
  · intro j hj
    rcases hget j hj with ⟨hj', e⟩ | ⟨rfl, e⟩
    · rw [e]; exact ht.row (h.all j hj') (h.d2 j hj')
    · rw [e, hw]; exact World.ownsRow_nil _ _ _ _
  · intro j hj
    rcases hget j hj with ⟨hj', e⟩ | ⟨rfl, e⟩
    · rw [e]
      intro x hx e2
      have hx2 := (row_lies (h.all j hj') x hx).2
      rcases List.mem_cons.1 e2 with rfl | e2
      · exact h.d2 j hj' _ hx (List.mem_cons_self ..)
      · rcases ho _ e2 with e3 | e3
        · exact h.d2 j hj' _ hx (List.mem_cons_of_mem _ e3)
        · omega
    · rw [e]; intro x hx; rw [hnil] at hx; cases hx
  · intro i j hi hj hij
    rcases hget i hi with ⟨hi', e⟩ | ⟨rfl, e⟩ <;> rcases hget j hj with ⟨hj', e2⟩ | ⟨rfl, e2⟩
    · rw [e, e2]; exact h.d3 i j hi' hj' hij
    · rw [e2]; intro x _ hx; rw [hnil] at hx; cases hx
    · rw [e]; intro x hx; rw [hnil] at hx; cases hx
    · omega
  · intro x hx
    rcases mem_ownR.1 hx with rfl | hx | ⟨j, hj, hx⟩
    · exact .inl (mem_ownR.2 (.inl rfl))
    · exact (ho x hx).imp_left fun e => mem_ownR.2 (.inr (.inl e))
    · rcases hget j hj with ⟨hj', e⟩ | ⟨rfl, e⟩
      · rw [e] at hx; exact .inl (mem_ownR.2 (.inr (.inr ⟨j, hj', hx⟩)))
      · rw [e, hnil] at hx; cases hx

set_option maxHeartbeats 4000000 in
set_option maxRecDepth 100000 in
theorem startR_no (N tb : Nat) (O : List Nat) (t : Tab) (f : Fl) (w : World) (h : RTabR N w tb O t) (hf : starts f = false) :
    Calls Try.prog 19 #[.pointer (some ⟨tb, 0, none⟩), agR { f with stop := 0 } (.slice none 0 0)] w (RAct N w tb O t (.tuple #[.int .i64 0, .int .i64 1])) := by
  unfold agR
  have ha : ∀ w', Ext w w' → RAct N w tb O t (.tuple #[.int .i64 0, .int .i64 1]) (.returned (.tuple #[.int .i64 0, .int .i64 1])) w' := fun w' hx => RAct.ext h hx
  have HA := Lib.hid ha
  have hs := starts_no f hf
  obtain ⟨id, obj, fr, to, mt, mw, nt, nw, en, sa, mo, ge, pl, he, stop, who⟩ := f
  dsimp only at hs ⊢
  rw [show heI ⟨id, obj, fr, to, mt, mw, nt, nw, en, sa, mo, ge, pl, he, 0, who⟩ = if he then 1 else 0 from rfl]
  clear ha h hf
  cases hm : mt.toList.isEmpty
  case false =>
    have hm2 : (mt.toList == []) = mt.toList.isEmpty := by rw [Bool.eq_iff_iff]; simp
    rw [hm] at hm2
    have hm3 := hm
    simp only [List.isEmpty_iff, List.isEmpty_eq_false_iff, ne_eq] at hm3
    rcases hs with h | ⟨rfl, h⟩ | ⟨rfl, rfl, h⟩ | ⟨rfl, rfl, h3, h⟩ | ⟨rfl, rfl, h3, h4, h⟩ | ⟨rfl, rfl, h3, h4, h⟩
    · have e1 : (id == 0) = false := by simp [h]
      have e2 : (id != 0) = true := by simp [h]
      generalize (if he then (1 : Int) else 0) = hz
      clear h
      go_enter Try.func19, Try.ntmps19
      go_wp2
      exact bodyPost_ret (v := .tuple #[.int .i64 0, .int .i64 1]) (by simp [results, Try.results19, go_sem]) rfl (HA.out _ (((Ext.refl w).alloc _).alloc _))
    · have e1 : (pl == 0) = false := by simp [h]
      have e2 : (pl != 0) = true := by simp [h]
      generalize (if he then (1 : Int) else 0) = hz
      clear h
      go_enter Try.func19, Try.ntmps19
      go_wp2
      exact bodyPost_ret (v := .tuple #[.int .i64 0, .int .i64 1]) (by simp [results, Try.results19, go_sem]) rfl (HA.out _ (((Ext.refl w).alloc _).alloc _))
    · subst h
      rw [if_pos rfl]
      go_enter Try.func19, Try.ntmps19
      go_wp2
      exact bodyPost_ret (v := .tuple #[.int .i64 0, .int .i64 1]) (by simp [results, Try.results19, go_sem]) rfl (HA.out _ (((Ext.refl w).alloc _).alloc _))
    · subst h3
      rw [if_neg (by simp)]
      go_enter Try.func19, Try.ntmps19
      go_wp2
      exact bodyPost_ret (v := .tuple #[.int .i64 0, .int .i64 1]) (by simp [results, Try.results19, go_sem]) rfl (HA.out _ (((Ext.refl w).alloc _).alloc _))
    · rw [hm2] at h; simp at h
    · subst h3
      rw [if_neg (by simp)]
      have e1 : ¬ en < 0 := by rcases h4 with h4 | h4 <;> omega
      have hsp : fr < 0 ∨ ¬ fr < 0 ∧ to ≤ fr ∨ ¬ fr < 0 ∧ ¬ to ≤ fr ∧ 4611686018427387904 < to := by
        rcases h with h | ⟨h, rfl⟩
        · simp [rightB] at h; omega
        · simp [rightB] at h; omega
      clear h
      rcases h4 with rfl | ⟨h4, h5⟩
      · clear hm2
        rcases hsp with h | ⟨h, h'⟩ | ⟨h, h', h''⟩
        all_goals
          go_enter Try.func19, Try.ntmps19
          go_wp2
          exact bodyPost_ret (v := .tuple #[.int .i64 0, .int .i64 1]) (by simp [results, Try.results19, go_sem]) rfl (HA.out _ (((Ext.refl w).alloc _).alloc _))
      · have e2 : (en == 0) = false := by simp; omega
        have e3 : (en != 0) = true := by simp; omega
        clear h5
        rcases hsp with h | ⟨h, h'⟩ | ⟨h, h', h''⟩
        all_goals
          go_enter Try.func19, Try.ntmps19
          go_wp2
          exact bodyPost_ret (v := .tuple #[.int .i64 0, .int .i64 1]) (by simp [results, Try.results19, go_sem]) rfl (HA.out _ (((Ext.refl w).alloc _).alloc _))
  case true =>
    have hm2 : (mt.toList == []) = mt.toList.isEmpty := by rw [Bool.eq_iff_iff]; simp
    rw [hm] at hm2
    have hm3 := hm
    simp only [List.isEmpty_iff, List.isEmpty_eq_false_iff, ne_eq] at hm3
    rcases hs with h | ⟨rfl, h⟩ | ⟨rfl, rfl, h⟩ | ⟨rfl, rfl, h3, h⟩ | ⟨rfl, rfl, h3, h4, h⟩ | ⟨rfl, rfl, h3, h4, h⟩
    · have e1 : (id == 0) = false := by simp [h]
      have e2 : (id != 0) = true := by simp [h]
      generalize (if he then (1 : Int) else 0) = hz
      clear h
      go_enter Try.func19, Try.ntmps19
      go_wp2
      exact bodyPost_ret (v := .tuple #[.int .i64 0, .int .i64 1]) (by simp [results, Try.results19, go_sem]) rfl (HA.out _ (((Ext.refl w).alloc _).alloc _))
    · have e1 : (pl == 0) = false := by simp [h]
      have e2 : (pl != 0) = true := by simp [h]
      generalize (if he then (1 : Int) else 0) = hz
      clear h
      go_enter Try.func19, Try.ntmps19
      go_wp2
      exact bodyPost_ret (v := .tuple #[.int .i64 0, .int .i64 1]) (by simp [results, Try.results19, go_sem]) rfl (HA.out _ (((Ext.refl w).alloc _).alloc _))
    · subst h
      rw [if_pos rfl]
      go_enter Try.func19, Try.ntmps19
      go_wp2
      exact bodyPost_ret (v := .tuple #[.int .i64 0, .int .i64 1]) (by simp [results, Try.results19, go_sem]) rfl (HA.out _ (((Ext.refl w).alloc _).alloc _))
    · subst h3
      rw [if_neg (by simp)]
      go_enter Try.func19, Try.ntmps19
      go_wp2
      exact bodyPost_ret (v := .tuple #[.int .i64 0, .int .i64 1]) (by simp [results, Try.results19, go_sem]) rfl (HA.out _ (((Ext.refl w).alloc _).alloc _))
    · subst h3
      rw [if_neg (by simp)]
      have hw : mw = false := by rw [hm2] at h; simpa using h
      subst hw
      have e1 : ¬ en < 0 := by omega
      have e2 : (en == 0) = false := by simp; omega
      have e3 : (en != 0) = true := by simp; omega
      clear h
      go_enter Try.func19, Try.ntmps19
      go_wp2
      exact bodyPost_ret (v := .tuple #[.int .i64 0, .int .i64 1]) (by simp [results, Try.results19, go_sem]) rfl (HA.out _ (((Ext.refl w).alloc _).alloc _))
    · subst h3
      rw [if_neg (by simp)]
      have e1 : ¬ en < 0 := by rcases h4 with h4 | h4 <;> omega
      have hsp : fr < 0 ∨ ¬ fr < 0 ∧ to ≤ fr ∨ ¬ fr < 0 ∧ ¬ to ≤ fr ∧ 4611686018427387904 < to := by
        rcases h with h | ⟨h, rfl⟩
        · simp [rightB] at h; omega
        · simp [rightB] at h; omega
      clear h
      rcases h4 with rfl | ⟨h4, h5⟩
      · clear hm2
        rcases hsp with h | ⟨h, h'⟩ | ⟨h, h', h''⟩
        all_goals
          go_enter Try.func19, Try.ntmps19
          go_wp2
          exact bodyPost_ret (v := .tuple #[.int .i64 0, .int .i64 1]) (by simp [results, Try.results19, go_sem]) rfl (HA.out _ (((Ext.refl w).alloc _).alloc _))
      · have e2 : (en == 0) = false := by simp; omega
        have e3 : (en != 0) = true := by simp; omega
        have hw : mw = true := by rw [hm2] at h5; simpa using h5
        subst hw
        clear h5
        rcases hsp with h | ⟨h, h'⟩ | ⟨h, h', h''⟩
        all_goals
          go_enter Try.func19, Try.ntmps19
          go_wp2
          exact bodyPost_ret (v := .tuple #[.int .i64 0, .int .i64 1]) (by simp [results, Try.results19, go_sem]) rfl (HA.out _ (((Ext.refl w).alloc _).alloc _))
end Go.Proofs.Ytaanbgagdanalaa
