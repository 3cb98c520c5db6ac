/- ImapGets: whatever byte is asked for, the map and the reference tell the same run. The walk. -/
import Derived.Test.YtjiabibnbpjhaaaGet
import Derived.Test.YtjiabibnbpjhaaaAlive
import Derived.Test.YtjiabibnbpjhaaaOpen
namespace Go.Proofs.Ytjiabibnbpjhaaa
open Go.RowKit

def inB (r : Rn) (x : Int) : Bool := decide (r.f ≤ x) && decide (x < r.t)
def findL (l : List Rn) (x : Int) : Option Rn := l.find? fun r => inB r x
def rnOf (o : Option Rn) : Rn := match o with | some r => r | none => ⟨0, 0, 0⟩

theorem gotV_eq (o : Option Rn) : gotV o = (rnOf o).v := by cases o <;> rfl
theorem gotF_eq (o : Option Rn) : gotF o = (rnOf o).f := by cases o <;> rfl
theorem gotT_eq (o : Option Rn) : gotT o = (rnOf o).t := by cases o <;> rfl

theorem find_eq {lo : Int} {lv : Option Int} {l : List Rn} (h : WF lo lv l) (h0 : 0 ≤ lo) (x : Int) : findR l x = findL l x := by
  induction l generalizing lo lv with
  | nil => rfl
  | cons r l ih =>
    obtain ⟨h1, _, h3, h4, h5⟩ := h
    have hr : rightB r.f r.t = true := by
      unfold rightB
      unfold OPEN at h4
      simp only [Bool.and_eq_true, decide_eq_true_eq]
      omega
    have hh : hasB r.f r.t x = inB r x := by unfold hasB inB; rw [hr]; rfl
    have e := ih h5 (by omega)
    unfold findR findL at e ⊢
    rw [List.find?_cons, List.find?_cons, hh, e]

set_option maxHeartbeats 4000000 in
set_option maxRecDepth 100000 in
theorem refget_calls (A : Option Addr) (c : Nat) (l : List Ac) (x : Int) (w : World) (ha : Acts w A l) (hl : l.length ≤ 10000) :
    Calls Try.prog 27 #[.slice A l.length c, .int .i64 x] w fun e w' =>
      e = .returned (.tuple #[.agg #[.int .i64 (rnOf (findL (runsR l) x)).f, .int .i64 (rnOf (findL (runsR l) x)).t, .int .i64 (rnOf (findL (runsR l) x)).v], .bool (findL (runsR l) x).isSome]) ∧ Ext w w' := by
  have hlen : (runsR l).length ≤ 1000000 := by
    have := appR_length l
    rw [appR_eq] at this
    omega
  obtain ⟨rs, hrs⟩ : ∃ rs, runsR l = rs := ⟨_, rfl⟩
  rw [hrs] at hlen ⊢
  have HRS := hide hrs
  clear hrs
  go_enter Try.func27, Try.ntmps27
  have ha' : Acts (w.alloc (.cells #[.int .i64 0, .int .i64 0, .int .i64 0] 50)) A l := ha.ext ((Ext.refl w).alloc _)
  have hx0 : Ext w (w.alloc (.cells #[.int .i64 0, .int .i64 0, .int .i64 0] 50)) := (Ext.refl w).alloc _
  have hbx : (w.alloc (.cells #[.int .i64 0, .int .i64 0, .int .i64 0] 50)).heap[w.heap.size]? = some (.cells #[.int .i64 0, .int .i64 0, .int .i64 0] 50 (0, 0)) := heap_alloc_new w _
  have HB := hide hbx
  clear hbx
  go_wp2_with fail
  refine (runs_calls A c l _ ha' hl).mono ?_
  rintro e w1 ⟨v, rfl, hown, hx⟩
  rw [unhide HRS] at hown
  obtain ⟨A2, c2, rfl, _⟩ := own_shape hown
  have hru := row3_own hown
  have hbl := hide (hx.block (unhide HB))
  replace hx := hx0.trans hx
  clear HB hown ha ha' hx0
  go_wp2
  go_loopw [11] (fun i wr => ∃ k : Nat, k ≤ rs.length ∧ i = .int .i64 k ∧ findL rs x = findL (rs.drop k) x ∧ Ext w1 wr) (fun i _ => rs.length - (intOf i).toNat)
  case atStart => exact ⟨0, Nat.zero_le _, rfl, rfl, Ext.refl _⟩
  case round =>
    obtain ⟨k, hk, rfl, hfind, hx1⟩ := hrel
    have HF := hide hfind
    clear hfind
    have hxw := hx.trans hx1
    have hb1 := hx1.block (unhide hbl)
    have b0 : wr.cell? ⟨w.heap.size, 0, none⟩ = some (.int .i64 0) := by rw [cell_of_row _ _ 0 _ _ _ hb1]; rfl
    have b1 : wr.cell? ⟨w.heap.size, 1, none⟩ = some (.int .i64 0) := by rw [cell_of_row _ _ 1 _ _ _ hb1]; rfl
    have b2 : wr.cell? ⟨w.heap.size, 2, none⟩ = some (.int .i64 0) := by rw [cell_of_row _ _ 2 _ _ _ hb1]; rfl
    have bf : ∀ i, wr.frozen? ⟨w.heap.size, i, none⟩ = false := fun i => by simp [World.frozen?, hb1]
    have z1 : w.heap.size < wr.heap.size := (Array.getElem?_eq_some_iff.1 hb1).1
    have HX1 := hide hx1
    have HXW := hide hxw
    clear hb1 hx1 hxw
    by_cases hlt : k < rs.length
    · obtain ⟨b, rfl, p0, p1, p2⟩ := (hru.ext (unhide HX1)) k hlt
      obtain ⟨r, hr⟩ : ∃ r, rs[k] = r := ⟨_, rfl⟩
      rw [hr] at p0 p1 p2
      have hs : findL (rs.drop k) x = if inB r x then some r else findL (rs.drop (k + 1)) x := by
        rw [List.drop_eq_getElem_cons hlt, hr]
        unfold findL
        rw [List.find?_cons]
        cases inB r x <;> rfl
      have HS := hide hs
      have hxa : Ext wr (wr.alloc (.cells #[.int .i64 r.f, .int .i64 r.t, .int .i64 r.v] 50)) := (Ext.refl wr).alloc _
      have HXA := hide hxa
      have hn : wr.heap.size ≠ w.heap.size := by omega
      have hn' : w.heap.size ≠ wr.heap.size := by omega
      clear hs hr hxa
      cases e0 : decide (r.f ≤ x) <;> cases e1 : decide (x < r.t)
      rotate_left 3
      · have hh : findL rs x = some r := by rw [unhide HF, unhide HS]; unfold inB; rw [e0, e1]; rfl
        have HH := hide hh
        have q0 : (wr.alloc (.cells #[.int .i64 r.f, .int .i64 r.t, .int .i64 r.v] 50)).frozen? ⟨w.heap.size, 0, none⟩ = false := ((unhide HXA).frozen (p := ⟨w.heap.size, 0, none⟩) z1).trans (bf 0)
        clear hh
        have hxe : Ext w ((((wr.setCell ⟨w.heap.size, 0, none⟩ (.int .i64 r.f)).setCell ⟨w.heap.size, 1, none⟩ (.int .i64 r.t)).setCell ⟨w.heap.size, 2, none⟩ (.int .i64 r.v)).alloc (.cells #[.int .i64 r.f, .int .i64 r.t, .int .i64 r.v] 50)) :=
          ((((unhide HXW).setCell (p := ⟨w.heap.size, 0, none⟩) (Nat.le_refl _) _).setCell (p := ⟨w.heap.size, 1, none⟩) (Nat.le_refl _) _).setCell (p := ⟨w.heap.size, 2, none⟩) (Nat.le_refl _) _).alloc _
        have HXE := hide hxe
        clear hxe
        have g0 : ((((wr.setCell ⟨w.heap.size, 0, none⟩ (.int .i64 r.f)).setCell ⟨w.heap.size, 1, none⟩ (.int .i64 r.t)).setCell ⟨w.heap.size, 2, none⟩ (.int .i64 r.v)).alloc (.cells #[.int .i64 r.f, .int .i64 r.t, .int .i64 r.v] 50)).cell? ⟨w.heap.size, 0, none⟩ = some (.int .i64 r.f) := ((Ext.refl _).alloc _).cell (by simp [go_sem, b0, b1, b2])
        have g1 : ((((wr.setCell ⟨w.heap.size, 0, none⟩ (.int .i64 r.f)).setCell ⟨w.heap.size, 1, none⟩ (.int .i64 r.t)).setCell ⟨w.heap.size, 2, none⟩ (.int .i64 r.v)).alloc (.cells #[.int .i64 r.f, .int .i64 r.t, .int .i64 r.v] 50)).cell? ⟨w.heap.size, 1, none⟩ = some (.int .i64 r.t) := ((Ext.refl _).alloc _).cell (by simp [go_sem, b0, b1, b2])
        have g2 : ((((wr.setCell ⟨w.heap.size, 0, none⟩ (.int .i64 r.f)).setCell ⟨w.heap.size, 1, none⟩ (.int .i64 r.t)).setCell ⟨w.heap.size, 2, none⟩ (.int .i64 r.v)).alloc (.cells #[.int .i64 r.f, .int .i64 r.t, .int .i64 r.v] 50)).cell? ⟨w.heap.size, 2, none⟩ = some (.int .i64 r.v) := ((Ext.refl _).alloc _).cell (by simp [go_sem, b0, b1, b2])
        go_wp2
        exact bodyPost_ret (v := .tuple #[.agg #[.int .i64 r.f, .int .i64 r.t, .int .i64 r.v], .bool true]) (by simp [results, Try.results27, go_sem, g0, g1, g2]) rfl ⟨by rw [unhide HH]; rfl, unhide HXE⟩
      all_goals
        have hh : findL (rs.drop k) x = findL (rs.drop (k + 1)) x := by rw [unhide HS]; unfold inB; rw [e0, e1]; rfl
        have HH := hide hh
        clear hh
        go_wp2
        go_roundw
        case rel => exact ⟨k + 1, by omega, by go_num, by rw [unhide HF, unhide HH], (unhide HX1).trans (unhide HXA)⟩
        case measure => simp [intOf] <;> omega
    · obtain rfl : k = rs.length := by omega
      have hh : findL rs x = none := by rw [unhide HF, List.drop_length]; rfl
      have HH := hide hh
      clear hh
      have hxe : Ext w (((wr.setCell ⟨w.heap.size, 0, none⟩ (.int .i64 0)).setCell ⟨w.heap.size, 1, none⟩ (.int .i64 0)).setCell ⟨w.heap.size, 2, none⟩ (.int .i64 0)) :=
        (((unhide HXW).setCell (p := ⟨w.heap.size, 0, none⟩) (Nat.le_refl _) _).setCell (p := ⟨w.heap.size, 1, none⟩) (Nat.le_refl _) _).setCell (p := ⟨w.heap.size, 2, none⟩) (Nat.le_refl _) _
      have HXE := hide hxe
      clear hxe
      go_wp2
      exact bodyPost_ret (v := .tuple #[.agg #[.int .i64 0, .int .i64 0, .int .i64 0], .bool false]) (by simp [results, Try.results27, go_sem, b0, b1, b2]) rfl ⟨by rw [unhide HH]; rfl, unhide HXE⟩

theorem neq34 (a b a' b' : Int) (w : World) : (binOp .neq 34 (.agg #[.int .i64 a, .int .i64 b]) (.agg #[.int .i64 a', .int .i64 b'])).run Try.prog w = .ok (.bool (!(a == a' && b == b'))) w := by
  have h3 : Try.prog.underlying 34 = some (.struct (Try.prog.fieldsOf 34)) := by kernel_rfl
  have h4 : Try.prog.stoodInHeld 34 = false := by kernel_rfl
  rw [run_neq_struct, run_equalIn_agg _ _ _ _ _ h3 h4]
  simp [go_sem]
  by_cases x1 : a = a' <;> by_cases x2 : b = b' <;> simp [x1, x2]

set_option maxHeartbeats 4000000 in
set_option maxRecDepth 100000 in
theorem lawGets_calls (A : Option Addr) (c : Nat) (l : List Ac) (B : Option Addr) (d : Nat) (ns : List Int) (w : World) (ha : Acts w A l) (hb : Nums w B ns) :
    Calls Try.prog 7 #[.slice A l.length c, .slice B ns.length d] w fun e w' => e = .returned (.bool true) ∧ Ext w w' := by
  go_enter Try.func7, Try.ntmps7
  go_wp2_with fail
  refine (alive_calls _).mono ?_
  rintro e w1 ⟨rfl, hx⟩
  replace ha := ha.ext hx
  replace hb := hb.ext hx
  by_cases hl : 40 < l.length
  · go_wp2
    go_ret
    exact ⟨rfl, hx⟩
  by_cases hl2 : 20 < ns.length
  · go_wp2
    go_ret
    exact ⟨rfl, hx⟩
  go_wp2_with fail
  refine (made_calls A c l _ ha (by omega)).mono ?_
  rintro e w2 ⟨mb, rfl, hm, _, hx2⟩
  replace ha := ha.ext hx2
  replace hb := hb.ext hx2
  replace hx := hx.trans hx2
  have hlen := appR_length l
  rw [appR_eq] at hm hlen
  have hwf := runsR_wf l
  obtain ⟨rs, hrs⟩ : ∃ rs, runsR l = rs := ⟨_, rfl⟩
  have HRS := hide hrs
  rw [hrs] at hm hlen hwf
  clear hx2 hrs
  go_wp2
  go_loopw [31] (fun i wr => ∃ k : Nat, k ≤ ns.length ∧ i = .int .i64 k ∧ Ext w2 wr) (fun i _ => ns.length - (intOf i).toNat)
  case atStart => exact ⟨0, Nat.zero_le _, rfl, Ext.refl _⟩
  case round =>
    obtain ⟨k, hk, rfl, hx1⟩ := hrel
    by_cases hlt : k < ns.length
    · obtain ⟨b, o, rfl, p0⟩ := (hb.ext hx1) k hlt
      obtain ⟨x, hxn⟩ : ∃ x, ns[k] = x := ⟨_, rfl⟩
      rw [hxn] at p0
      clear hxn
      go_wp2_with fail
      refine (get_calls mb rs x _ (hm.ext hx1) (by omega)).mono ?_
      rintro e w3 ⟨rfl, hx3⟩
      replace hx1 := hx1.trans hx3
      rw [gotV_eq, gotF_eq, gotT_eq, find_eq hwf (Int.le_refl _)]
      clear hx3
      have hxa : Ext w3 (w3.alloc (.cells #[.int .i64 (rnOf (findL rs x)).f, .int .i64 (rnOf (findL rs x)).t] 34)) := (Ext.refl _).alloc _
      have har := ha.ext (hx1.trans hxa)
      have HA := hide har
      clear har
      go_wp2_with fail
      refine (refget_calls A c l x _ (unhide HA) (by omega)).mono ?_
      rintro e w4 ⟨rfl, hx4⟩
      rw [unhide HRS]
      have hn34 := neq34
      generalize rnOf (findL rs x) = r at *
      generalize (findL rs x).isSome = q at *
      have c0 : w4.cell? ⟨w3.heap.size, 0, none⟩ = some (.int .i64 r.f) := hx4.cell (by simp)
      have c1 : w4.cell? ⟨w3.heap.size, 1, none⟩ = some (.int .i64 r.t) := hx4.cell (by simp)
      replace c0 := ((Ext.refl w4).alloc (.cells #[.int .i64 r.f, .int .i64 r.t, .int .i64 r.v] 50)).cell c0
      replace c1 := ((Ext.refl w4).alloc (.cells #[.int .i64 r.f, .int .i64 r.t, .int .i64 r.v] 50)).cell c1
      have hxe := (hx1.trans hxa).trans hx4
      clear hx1 hxa hx4 p0
      go_wp2
      go_roundw
      case rel => first | exact ⟨k + 1, by omega, by go_num, hxe.alloc _⟩ | exact ⟨k + 1, by omega, by go_num, hxe⟩
      case measure => simp [intOf] <;> omega
    · obtain rfl : k = ns.length := by omega
      go_wp2
      go_ret
      exact ⟨rfl, hx.trans hx1⟩
end Go.Proofs.Ytjiabibnbpjhaaa
