/- The contracts of the law's do and want. -/
import Derived.Test.YtcdjhoejnjbgkaaMaps
namespace Go.Proofs.Ytcdjhoejnjbgkaa
open Go.RowKit

/-- A call: 1 Put, 2 Drop. -/
structure Ac where
  kind : Int
  k : Nat
  v : Int

def doO (t : Option Nd) (a : Ac) : Option Nd := if a.kind = 1 then some (putO a.k a.v t) else if a.kind = 2 then dropO a.k t else t
def wantL (l : List Pr) (a : Ac) : List Pr := if a.kind = 1 then putL a.k a.v l else if a.kind = 2 then dropL a.k l else l
def Ac.val (a : Ac) : Value := .agg #[.int .i64 a.kind, .int .u64 (a.k : Int), .int .i64 a.v]

theorem putO_ok {k : Nat} {v : Int} (hk : k < 2 ^ 64) {t : Option Nd} (h : Nd.oWF t) : (putO k v t).WF ∧ (putO k v t).toL = putL k v (Nd.oL t) := by
  cases t with
  | none => exact ⟨hk, rfl⟩
  | some t => exact put_ok hk h
theorem dropO_ok {k : Nat} {t : Option Nd} (h : Nd.oWF t) : Nd.oWF (dropO k t) ∧ Nd.oL (dropO k t) = dropL k (Nd.oL t) := by
  cases t with
  | none => exact ⟨trivial, rfl⟩
  | some t => exact drop_ok h
theorem doO_ok {a : Ac} (hk : a.k < 2 ^ 64) {t : Option Nd} (h : Nd.oWF t) : Nd.oWF (doO t a) ∧ Nd.oL (doO t a) = wantL (Nd.oL t) a := by
  unfold doO wantL
  split
  · exact putO_ok hk h
  · split
    · exact dropO_ok h
    · exact ⟨h, rfl⟩

theorem do_calls (p : Option Addr) (t : Option Nd) (a : Ac) (w : World) (h : MapIs w p t) (hk : a.k < 2 ^ 64) :
    Calls Try.prog 11 #[.agg #[.pointer p], a.val] w (MapPost w (doO t a)) := by
  obtain ⟨kind, k, v⟩ := a
  have hx0 : Ext w (((w.alloc (.cells #[.pointer p] 27)).alloc (.cells #[.int .i64 kind, .int .u64 (k : Int), .int .i64 v] 30)).alloc (.cells #[.pointer none] 27)) := (((Ext.refl w).alloc _).alloc _).alloc _
  have H0 := Lib.hid (h.ext hx0)
  have hblk0 : (((w.alloc (.cells #[.pointer p] 27)).alloc (.cells #[.int .i64 kind, .int .u64 (k : Int), .int .i64 v] 30)).alloc (.cells #[.pointer none] 27)).heap[w.heap.size + 1 + 1]? = some (.cells #[.pointer none] 27 (0, 0)) := by
    have := heap_alloc_new ((w.alloc (.cells #[.pointer p] 27)).alloc (.cells #[.int .i64 kind, .int .u64 (k : Int), .int .i64 v] 30)) (.cells #[.pointer none] 27)
    simpa using this
  have HB := Lib.hid hblk0
  have HH := Lib.hid h.1
  clear hblk0 h
  have fin : ∀ (w1 : World) (q : Option Addr) (t' : Option Nd), AtO w1 q t' → Ext (((w.alloc (.cells #[.pointer p] 27)).alloc (.cells #[.int .i64 kind, .int .u64 (k : Int), .int .i64 v] 30)).alloc (.cells #[.pointer none] 27)) w1 →
      (w1.setCell ⟨w.heap.size + 1 + 1, 0, none⟩ (.pointer q)).cell? ⟨w.heap.size + 1 + 1, 0, none⟩ = some (.pointer q) ∧ AtO (w1.setCell ⟨w.heap.size + 1 + 1, 0, none⟩ (.pointer q)) q t' ∧ Ext w (w1.setCell ⟨w.heap.size + 1 + 1, 0, none⟩ (.pointer q)) ∧
      w1.cell? ⟨w.heap.size + 1 + 1, 0, none⟩ = some (.pointer none) ∧ w1.frozen? ⟨w.heap.size + 1 + 1, 0, none⟩ = false := by
    intro w1 q t' hat hx
    have hb := hx.block HB.out
    refine ⟨?_, AtO.keep (nodes_set hb (by decide) 0 _) hat, (hx0.trans hx).setCell (p := ⟨w.heap.size + 1 + 1, 0, none⟩) (by simp; omega) _, ?_, ?_⟩
    · rw [cell_of_row _ _ 0 _ _ _ (heap_setCell_same w1 _ 0 _ 27 _ hb)]; rfl
    · rw [cell_of_row _ _ 0 _ _ _ hb]; rfl
    · simp [World.frozen?, hb]
  have HF := Lib.hid fin
  clear fin
  unfold Ac.val
  simp only at *
  by_cases e1 : kind = 1
  · subst e1
    go_enter Try.func11, Try.ntmps11
    go_wp2_with fail
    refine (mput_calls p t k v _ H0.out hk).mono ?_
    rintro e w1 ⟨q, rfl, hat, hx⟩
    obtain ⟨g0, g1, g2, g3, g4⟩ := HF.out w1 q _ hat hx
    have hs := hx.size
    simp only [World.size_alloc] at hs
    have G := Lib.hid (And.intro g1 g2)
    clear hat hx hx0 g1 g2
    go_wp2
    exact bodyPost_ret (v := .agg #[.pointer q]) (by simp [results, Try.results11, go_sem, g0]) rfl ⟨_, rfl, by simpa [doO] using G.out.1, G.out.2⟩
  · by_cases e2 : kind = 2
    · subst e2
      go_enter Try.func11, Try.ntmps11
      go_wp2_with fail
      refine (mdrop_calls p t k _ H0.out hk).mono ?_
      rintro e w1 ⟨q, rfl, hat, hx⟩
      obtain ⟨g0, g1, g2, g3, g4⟩ := HF.out w1 q _ hat hx
      have hs := hx.size
      simp only [World.size_alloc] at hs
      have G := Lib.hid (And.intro g1 g2)
      clear hat hx hx0 g1 g2
      go_wp2
      exact bodyPost_ret (v := .agg #[.pointer q]) (by simp [results, Try.results11, go_sem, g0]) rfl ⟨_, rfl, by simpa [doO] using G.out.1, G.out.2⟩
    · have d1 : (kind == 1) = false := by simp [e1]
      have d2 : (kind == 2) = false := by simp [e2]
      have E := Lib.hid (And.intro e1 e2)
      clear e1 e2
      clear hx0
      go_enter Try.func11, Try.ntmps11
      go_wp2
      have hx9 : Ext w (((w.alloc (.cells #[.pointer p] 27)).alloc (.cells #[.int .i64 kind, .int .u64 (k : Int), .int .i64 v] 30)).alloc (.cells #[.pointer p] 27)) := (((Ext.refl w).alloc _).alloc _).alloc _
      exact bodyPost_ret (v := .agg #[.pointer p]) (by simp [results, Try.results11, go_sem]) rfl ⟨_, rfl, by simpa [doO, E.out.1, E.out.2] using HH.out.ext hx9, hx9⟩

/-- A readable slice of pairs. -/
def Reads2 (w : World) (v : Value) (l : List Pr) : Prop := ∃ A c, v = .slice A l.length c ∧ RowP w A l
theorem Reads2.ext {w w' : World} {v : Value} {l : List Pr} (h : Reads2 w v l) (hx : Ext w w') : Reads2 w' v l := by
  obtain ⟨A, c, e, h⟩ := h
  exact ⟨A, c, e, h.ext hx⟩
theorem reads_own {w : World} {base : Nat} {v : Value} {l : List Pr} (h : w.ownsRow base 37 2 v l.length (flatP l)) : Reads2 w v l := by
  obtain ⟨A, c, rfl, _⟩ := own_shape h
  exact ⟨A, c, rfl, rowP_own h⟩
def LPost (w : World) (l : List Pr) (e : Ending) (w' : World) : Prop := ∃ v, e = .returned v ∧ Reads2 w' v l ∧ Ext w w'

theorem want_calls (A : Option Addr) (c : Nat) (l : List Pr) (a : Ac) (w : World) (h : RowP w A l) (hl : l.length ≤ 1000000) :
    Calls Try.prog 12 #[.slice A l.length c, a.val] w (LPost w (wantL l a)) := by
  obtain ⟨kind, k, v⟩ := a
  have hx0 : Ext w (w.alloc (.cells #[.int .i64 kind, .int .u64 (k : Int), .int .i64 v] 30)) := (Ext.refl w).alloc _
  unfold Ac.val
  simp only at *
  by_cases e1 : kind = 1
  · subst e1
    go_enter Try.func12, Try.ntmps12
    go_wp2_with fail
    refine (put_ref A c l k v _ (h.ext hx0) hl).mono ?_
    rintro e w1 ⟨q, rfl, hown, hx⟩
    go_wp2
    go_ret
    exact ⟨_, rfl, reads_own (by simpa [wantL] using hown), hx0.trans hx⟩
  · by_cases e2 : kind = 2
    · subst e2
      go_enter Try.func12, Try.ntmps12
      go_wp2_with fail
      refine (drop_ref A c l k _ (h.ext hx0) hl).mono ?_
      rintro e w1 ⟨q, rfl, hown, hx⟩
      go_wp2
      go_ret
      exact ⟨_, rfl, reads_own (by simpa [wantL] using hown), hx0.trans hx⟩
    · have d1 : (kind == 1) = false := by simp [e1]
      have d2 : (kind == 2) = false := by simp [e2]
      have E := Lib.hid (And.intro e1 e2)
      clear e1 e2
      go_enter Try.func12, Try.ntmps12
      go_wp2
      go_ret
      exact ⟨_, rfl, ⟨A, c, by simp [wantL, E.out.1, E.out.2], by simpa [wantL, E.out.1, E.out.2] using h.ext hx0⟩, hx0⟩
end Go.Proofs.Ytcdjhoejnjbgkaa
