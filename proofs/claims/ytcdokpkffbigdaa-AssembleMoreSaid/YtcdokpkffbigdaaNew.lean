/- assemble.New. -/
import Derived.Test.YtcdokpkffbigdaaRdy
import Derived.Deep.RegionHeld3
import Derived.Deep.RegionLaw
namespace Go.Proofs.Ytcdokpkffbigdaa
open Go.RowKit

def Pt.nz (p : Pt) : Pt := if p.s = [] then p else ⟨p.s, 0, 0⟩
/-- May it be a part of a body? -/
def Pt.okB (p : Pt) (last : Bool) : Bool := !(p.s == []) || (rightB p.f p.t && !(p.f == p.t) && (!(p.t == 4611686018427387904) || last))
def okL : List Pt → Bool
  | [] => true
  | p :: l => p.okB l.isEmpty && okL l
def NewPost (w : World) (L : List Pt) (e : Ending) (w' : World) : Prop :=
  if okL L = true then Ext w w' ∧ ∃ pb, e = .returned (.tuple #[.pointer (some ⟨pb, 0, none⟩), .int .i64 0]) ∧ Hid (BodyAt w.heap.size w'.heap.size w' pb (L.map Pt.nz) 0)
  else Ext w w' ∧ e = .returned (.tuple #[.pointer none, .int .i64 1])
/-- The body under way. -/
def Mk (w wr : World) (l : List Pt) (c : Nat) (A : Option Addr) : Prop :=
  wr.heap[w.heap.size]? = some (.cells #[.slice A l.length c, .int .i64 0] 76 (0, 0)) ∧ wr.ownsRow (w.heap.size + 1) 40 3 (.slice A l.length c) l.length (pts l) ∧ Ext w wr
theorem Mk.push {w W w3 : World} {l : List Pt} {c c1 : Nat} {A A1 : Option Addr} {p : Pt} (h : Mk w W l c A) (own3 : w3.ownsRow (w.heap.size + 1) 40 3 (.slice A1 (l.length + 1) c1) (l.length + 1) (pts l ++ p.cells)) (hm : Moved W w3 (.slice A l.length c) (.slice A1 (l.length + 1) c1)) :
    w3.cell? ⟨w.heap.size, 0, none⟩ = some (.slice A l.length c) ∧ w3.frozen? ⟨w.heap.size, 0, none⟩ = false ∧ W.heap.size ≤ w3.heap.size ∧ Mk w (w3.setCell ⟨w.heap.size, 0, none⟩ (.slice A1 (l.length + 1) c1)) (l ++ [p]) c1 A1 := by
  obtain ⟨h1, h2, h3⟩ := h
  have hne : ∀ g, (Value.slice A l.length c).ownBlock = some g → w.heap.size < g := fun g e => own_base h2 e
  have hb : ∀ k, k < W.heap.size → k ≤ w.heap.size → w3.heap[k]? = W.heap[k]? := fun k hk hle => hm.1.block k hk (fun e => by have := hne k e.symm; omega)
  have hlt := (Array.getElem?_eq_some_iff.1 h1).1
  have h4 : w3.heap[w.heap.size]? = some (.cells #[.slice A l.length c, .int .i64 0] 76 (0, 0)) := (hb _ hlt (Nat.le_refl _)).trans h1
  refine ⟨by rw [cell_of_row _ _ _ _ _ _ h4]; rfl, by simp [World.frozen?, h4], hm.1.size, ?_, ?_, ?_⟩
  · rw [heap_setCell_same _ _ _ _ _ _ h4, List.length_append]
    rfl
  · rw [List.length_append, pts_append]
    refine ⟨own3.1, ?_⟩
    rcases own3.2 with h5 | ⟨g, cap, cur, hv, hg, hh, r⟩
    · exact .inl h5
    · exact .inr ⟨g, cap, cur, hv, hg, (Below.heap_setCell w3 _ _ g (fun e => by simp at e; omega)).trans hh, r⟩
  · refine Ext.setCell ⟨hm.1.os.trans h3.os, hm.1.tape.trans h3.tape, hm.1.output.trans h3.output, Nat.le_trans h3.size hm.1.size, fun k hk => ?_⟩ (Nat.le_refl _) _
    exact (hb k (Nat.lt_of_lt_of_le hk h3.size) (by omega)).trans (Below.block h3 k hk)
theorem Mk.ext {w wr wa : World} {l : List Pt} {c : Nat} {A : Option Addr} (h : Mk w wr l c A) (hx : Ext wr wa) : Mk w wa l c A := ⟨hx.block h.1, ownsRow_ext h.2.1 hx, h.2.2.trans hx⟩
theorem NewPost.bad {w w' : World} {L : List Pt} (h : okL L = false) (hx : Ext w w') : NewPost w L (.returned (.tuple #[.pointer none, .int .i64 1])) w' := by
  unfold NewPost
  rw [h, if_neg (by simp)]
  exact ⟨hx, rfl⟩
theorem NewPost.good {w w' : World} {L l : List Pt} {c : Nat} {A : Option Addr} (h : okL L = true) (hl : l = L.map Pt.nz) (hm : Mk w w' l c A) : NewPost w L (.returned (.tuple #[.pointer (some ⟨w.heap.size, 0, none⟩), .int .i64 0])) w' := by
  unfold NewPost
  rw [if_pos h, ← hl]
  obtain ⟨h1, h2, h3⟩ := hm
  obtain ⟨A', c', hv, hc⟩ := own_shape h2
  cases hv
  refine ⟨h3, _, rfl, Lib.hid ⟨A, c, h1, Nat.le_refl _, (Array.getElem?_eq_some_iff.1 h1).1, hc, fun k hk => ?_⟩⟩
  obtain ⟨g, cap, hv, hg, hlt⟩ := h2.form (by omega)
  cases hv
  obtain ⟨b, o, e, p⟩ := pat_of_own h2 k hk
  cases e
  have hb := own_base h2 (g := g) rfl
  exact ⟨g, 0, rfl, ⟨by omega, hlt, by omega⟩, fun j => h2.frozenAt j, p⟩
set_option maxHeartbeats 4000000 in
set_option maxRecDepth 100000 in
theorem new_calls (A : Option Addr) (c : Nat) (L : List Pt) (w : World) (h : PAt w A L) (hl : L.length ≤ 1000) :
    Calls Try.prog 11 #[.slice A L.length c] w (NewPost w L) := by
  have hx0 : Ext w (w.alloc (.cells #[.slice none 0 0, .int .i64 0] 76)) := (Ext.refl w).alloc _
  have b0 := heap_alloc_new w (.cells #[.slice none 0 0, .int .i64 0] 76)
  have HP := Lib.hid (fun W (hx : Ext w W) => h.ext hx)
  clear h
  go_enter Try.func11, Try.ntmps11
  go_wp2
  go_loopw [11] (fun i wr => ∃ (k : Nat) (l : List Pt) (A' : Option Addr) (c' : Nat), k ≤ L.length ∧ i = .int .i64 k ∧ Hid (okL L = okL (L.drop k)) ∧ Hid (l = (L.take k).map Pt.nz) ∧ Hid (Mk w wr l c' A')) (fun i _ => L.length - (intOf i).toNat)
  case atStart => exact ⟨0, [], none, 0, Nat.zero_le _, rfl, Lib.hid rfl, Lib.hid rfl, Lib.hid ⟨b0, World.ownsRow_nil _ _ _ _, hx0⟩⟩
  case round =>
    clear b0 hx0
    obtain ⟨k, l, A', c', hk, rfl, hok, hll, hmk⟩ := hrel
    by_cases hlt : k < L.length
    · obtain ⟨b, o, rfl, p0, p1, p2⟩ := HP.out wr hmk.out.2.2 k hlt
      have hd : L.drop k = L[k] :: L.drop (k + 1) := List.drop_eq_getElem_cons hlt
      have ht : L.take (k + 1) = L.take k ++ [L[k]] := List.take_succ_eq_append_getElem hlt
      obtain ⟨lb, hlb⟩ : ∃ lb, decide ((k : Int) < (L.length : Int) - 1) = lb := ⟨_, rfl⟩
      have hle : (L.drop (k + 1)).isEmpty = !lb := by
        rw [Bool.eq_iff_iff, List.isEmpty_iff, List.drop_eq_nil_iff, ← hlb]; simp; omega
      rw [hd, okL, hle] at hok
      have HLB := Lib.hid hlb
      clear hlb
      generalize L[k] = p at *
      have hlk : l.length = k := by rw [hll.out]; simp; omega
      have hl2 : l.length < 1000 := by omega
      have HLL : Hid (l ++ [p.nz] = (L.take (k + 1)).map Pt.nz) := Lib.hid (by rw [ht, List.map_append, ← hll.out]; rfl)
      rcases p with ⟨s, f, t⟩
      simp only at p0 p1 p2
      clear hd ht hle
      clear hlk
      have hmkb := hmk.out.1
      have cb0 : wr.cell? ⟨w.heap.size, 0, none⟩ = some (.slice A' l.length c') := by rw [cell_of_row _ _ _ _ _ _ hmkb]; rfl
      have hwr : w.heap.size < wr.heap.size := (Array.getElem?_eq_some_iff.1 hmkb).1
      clear hmkb
      cases e1 : (s == [])
      · have hs : ¬ s = [] := by simpa using e1
        have HOK : Hid (okL L = okL (L.drop (k + 1))) := Lib.hid (by rw [hok.out]; simp [Pt.okB, hs])
        have hnz : Pt.nz ⟨s, f, t⟩ = ⟨s, 0, 0⟩ := by simp [Pt.nz, hs]
        rw [hnz] at HLL
        clear hok hnz
        have hxa : Ext wr (wr.alloc (.cells #[.string ⟨s.toArray⟩, .int .i64 0, .int .i64 0] 40)) := (Ext.refl wr).alloc _
        have ba := heap_alloc_new wr (.cells #[.string ⟨s.toArray⟩, .int .i64 0, .int .i64 0] 40)
        go_upto_region 9 with (fail)
        clear hs
        generalize wr.alloc (.cells #[.string ⟨s.toArray⟩, .int .i64 0, .int .i64 0] 40) = wa at *
        have q0 : wa.cell? ⟨wr.heap.size, 0, none⟩ = some (.string ⟨s.toArray⟩) := by rw [cell_of_row _ _ _ _ _ _ ba]; rfl
        have q1 : wa.cell? ⟨wr.heap.size, 1, none⟩ = some (.int .i64 0) := by rw [cell_of_row _ _ _ _ _ _ ba]; rfl
        have q2 : wa.cell? ⟨wr.heap.size, 2, none⟩ = some (.int .i64 0) := by rw [cell_of_row _ _ _ _ _ _ ba]; rfl
        have cba := hxa.cell cb0
        have e2 : ∀ o, (wa.alloc o).cell? ⟨w.heap.size, 0, none⟩ = some (.slice A' l.length c') := fun o => ((Ext.refl wa).alloc o).cell cba
        have HM := Lib.hid (fun o => (hmk.out.ext hxa).ext ((Ext.refl wa).alloc o).drew)
        have HN2 := Lib.hid (fun cs => heap_alloc_new wa (.cells cs 40))
        have HB := Lib.hid (fun o => Nat.le_trans (Nat.succ_le_of_lt hwr) (Nat.le_trans hxa.size ((Ext.refl wa).alloc o).size))
        clear p0 p1 p2 e1 hxa hmk ba
        go_region_law (refine step_append_new _ (by rfl) _ _ 22 (by rfl) (w.heap.size + 1) 40 _ 3 32 Try.underlying22 infoPart rfl (by omega) (.slice A' l.length c') l.length _ (by rfl) (HM.out _).2.1 wa.heap.size 1 1 #[.string ⟨s.toArray⟩, .int .i64 0, .int .i64 0] (0, 0) (by rfl) (HN2.out _) (by rfl) (by simp [Value.oneCell']) (by simp [maxLen]; omega) (by omega) (HB.out _) ?_; intro v1 w3 hown2 hm2; obtain ⟨A1, k1, rfl, _⟩ := own_shape hown2; obtain ⟨d1, d2, d3, d4⟩ := Mk.push (p := ⟨s, 0, 0⟩) (HM.out _) hown2 hm2; have D4 := Lib.hid d4; clear d3 d4)
        all_goals
          go_wp2
          go_roundw
          case rel => exact ⟨k + 1, l ++ [⟨s, 0, 0⟩], A1, k1, hlt, by go_num, HOK, HLL, D4⟩
          case measure => simp [intOf]; omega
      · have hs : s = [] := by simpa using e1
        have hnz : Pt.nz ⟨s, f, t⟩ = ⟨s, f, t⟩ := by simp [Pt.nz, hs]
        rw [hnz] at HLL
        have hxa : Ext wr (wr.alloc (.cells #[.string ⟨s.toArray⟩, .int .i64 f, .int .i64 t] 40)) := (Ext.refl wr).alloc _
        have ba := heap_alloc_new wr (.cells #[.string ⟨s.toArray⟩, .int .i64 f, .int .i64 t] 40)
        have hop : Pt.open_ ⟨s, f, t⟩ = (t == 4611686018427387904) := by simp [Pt.open_, hs]
        have hokB : Pt.okB ⟨s, f, t⟩ (!lb) = (rightB f t && !(f == t) && (!(t == 4611686018427387904) || !lb)) := by simp [Pt.okB, hs]
        rw [hokB, ← hop] at hok
        clear hnz hs hop hokB
        go_wp2_with fail
        generalize wr.alloc (.cells #[.string ⟨s.toArray⟩, .int .i64 f, .int .i64 t] 40) = wa at *
        refine (right_calls _ _ _).mono ?_
        rintro e w2 ⟨rfl, hx2⟩
        replace ba := hx2.block ba
        replace hxa := hxa.trans hx2
        clear hx2 wa
        have q0 : w2.cell? ⟨wr.heap.size, 0, none⟩ = some (.string ⟨s.toArray⟩) := by rw [cell_of_row _ _ _ _ _ _ ba]; rfl
        have q1 : w2.cell? ⟨wr.heap.size, 1, none⟩ = some (.int .i64 f) := by rw [cell_of_row _ _ _ _ _ _ ba]; rfl
        have q2 : w2.cell? ⟨wr.heap.size, 2, none⟩ = some (.int .i64 t) := by rw [cell_of_row _ _ _ _ _ _ ba]; rfl
        cases eR : rightB f t
        · have HOK : Hid (okL L = false) := Lib.hid (by rw [hok.out, eR]; rfl)
          clear hok eR
          go_wp2
          go_ret2
          exact NewPost.bad HOK.out (hmk.out.2.2.trans hxa)
        · cases e2 : decide (f = t)
          · have e3 : ¬ f = t := by simpa using e2
            have e4 : (f == t) = false := by simpa using e3
            have hok2 : Hid (okL L = ((!Pt.open_ ⟨s, f, t⟩ || !lb) && okL (L.drop (k + 1)))) := Lib.hid (by rw [hok.out, eR, e4]; rfl)
            clear hok eR e2 e3
            go_wp2_with fail
            refine (open_calls s f t _).mono ?_
            rintro e wa ⟨rfl, hx2⟩
            replace ba := hx2.block ba
            replace hxa := hxa.trans hx2
            clear q0 q1 q2
            cases eO : Pt.open_ ⟨s, f, t⟩
            · have HOK : Hid (okL L = okL (L.drop (k + 1))) := Lib.hid (by rw [hok2.out, eO]; rfl)
              clear hok2 eO
              go_upto_region 9 with (fail)
              clear hx2
              have q0 : wa.cell? ⟨wr.heap.size, 0, none⟩ = some (.string ⟨s.toArray⟩) := by rw [cell_of_row _ _ _ _ _ _ ba]; rfl
              have q1 : wa.cell? ⟨wr.heap.size, 1, none⟩ = some (.int .i64 f) := by rw [cell_of_row _ _ _ _ _ _ ba]; rfl
              have q2 : wa.cell? ⟨wr.heap.size, 2, none⟩ = some (.int .i64 t) := by rw [cell_of_row _ _ _ _ _ _ ba]; rfl
              have cba := hxa.cell cb0
              have e2 : ∀ o, (wa.alloc o).cell? ⟨w.heap.size, 0, none⟩ = some (.slice A' l.length c') := fun o => ((Ext.refl wa).alloc o).cell cba
              have HM := Lib.hid (fun o => (hmk.out.ext hxa).ext ((Ext.refl wa).alloc o).drew)
              have HN2 := Lib.hid (fun cs => heap_alloc_new wa (.cells cs 40))
              have HB := Lib.hid (fun o => Nat.le_trans (Nat.succ_le_of_lt hwr) (Nat.le_trans hxa.size ((Ext.refl wa).alloc o).size))
              clear p0 p1 p2 e1 hxa hmk ba
              go_region_law (refine step_append_new _ (by rfl) _ _ 22 (by rfl) (w.heap.size + 1) 40 _ 3 32 Try.underlying22 infoPart rfl (by omega) (.slice A' l.length c') l.length _ (by rfl) (HM.out _).2.1 wa.heap.size 1 1 #[.string ⟨s.toArray⟩, .int .i64 f, .int .i64 t] (0, 0) (by rfl) (HN2.out _) (by rfl) (by simp [Value.oneCell']) (by simp [maxLen]; omega) (by omega) (HB.out _) ?_; intro v1 w3 hown2 hm2; obtain ⟨A1, k1, rfl, _⟩ := own_shape hown2; obtain ⟨d1, d2, d3, d4⟩ := Mk.push (p := ⟨s, f, t⟩) (HM.out _) hown2 hm2; have D4 := Lib.hid d4; clear d3 d4)
              all_goals
                go_wp2
                go_roundw
                case rel => exact ⟨k + 1, l ++ [⟨s, f, t⟩], A1, k1, hlt, by go_num, HOK, HLL, D4⟩
                case measure => simp [intOf]; omega
            · cases lb
              · have eL2 := HLB.out
                have HOK : Hid (okL L = okL (L.drop (k + 1))) := Lib.hid (by rw [hok2.out, eO]; rfl)
                clear hok2 eO
                go_upto_region 9 with (fail)
                clear hx2 eL2
                have q0 : wa.cell? ⟨wr.heap.size, 0, none⟩ = some (.string ⟨s.toArray⟩) := by rw [cell_of_row _ _ _ _ _ _ ba]; rfl
                have q1 : wa.cell? ⟨wr.heap.size, 1, none⟩ = some (.int .i64 f) := by rw [cell_of_row _ _ _ _ _ _ ba]; rfl
                have q2 : wa.cell? ⟨wr.heap.size, 2, none⟩ = some (.int .i64 t) := by rw [cell_of_row _ _ _ _ _ _ ba]; rfl
                have cba := hxa.cell cb0
                have e2 : ∀ o, (wa.alloc o).cell? ⟨w.heap.size, 0, none⟩ = some (.slice A' l.length c') := fun o => ((Ext.refl wa).alloc o).cell cba
                have HM := Lib.hid (fun o => (hmk.out.ext hxa).ext ((Ext.refl wa).alloc o).drew)
                have HN2 := Lib.hid (fun cs => heap_alloc_new wa (.cells cs 40))
                have HB := Lib.hid (fun o => Nat.le_trans (Nat.succ_le_of_lt hwr) (Nat.le_trans hxa.size ((Ext.refl wa).alloc o).size))
                clear p0 p1 p2 e1 hxa hmk ba
                go_region_law (refine step_append_new _ (by rfl) _ _ 22 (by rfl) (w.heap.size + 1) 40 _ 3 32 Try.underlying22 infoPart rfl (by omega) (.slice A' l.length c') l.length _ (by rfl) (HM.out _).2.1 wa.heap.size 1 1 #[.string ⟨s.toArray⟩, .int .i64 f, .int .i64 t] (0, 0) (by rfl) (HN2.out _) (by rfl) (by simp [Value.oneCell']) (by simp [maxLen]; omega) (by omega) (HB.out _) ?_; intro v1 w3 hown2 hm2; obtain ⟨A1, k1, rfl, _⟩ := own_shape hown2; obtain ⟨d1, d2, d3, d4⟩ := Mk.push (p := ⟨s, f, t⟩) (HM.out _) hown2 hm2; have D4 := Lib.hid d4; clear d3 d4)
                all_goals
                  go_wp2
                  go_roundw
                  case rel => exact ⟨k + 1, l ++ [⟨s, f, t⟩], A1, k1, hlt, by go_num, HOK, HLL, D4⟩
                  case measure => simp [intOf]; omega
              · have eL2 := HLB.out
                have HOK : Hid (okL L = false) := Lib.hid (by rw [hok2.out, eO]; rfl)
                clear hok2 eO
                go_wp2
                go_ret2
                exact NewPost.bad HOK.out (hmk.out.2.2.trans hxa)
          · have e3 : f = t := by simpa using e2
            have HOK : Hid (okL L = false) := Lib.hid (by rw [hok.out, eR]; simp [e3])
            clear hok eR e2
            go_wp2
            go_ret2
            exact NewPost.bad HOK.out (hmk.out.2.2.trans hxa)
    · obtain rfl : k = L.length := by omega
      have HOK : Hid (okL L = true) := Lib.hid (by rw [hok.out, List.drop_length]; rfl)
      have HLL : Hid (l = L.map Pt.nz) := Lib.hid (by rw [hll.out, List.take_length])
      have hlk : l.length = L.length := by rw [HLL.out, List.length_map]
      have hm := hmk.out
      clear hok hll
      go_wp2
      go_ret2
      exact NewPost.good HOK.out HLL.out hmk.out
end Go.Proofs.Ytcdokpkffbigdaa
