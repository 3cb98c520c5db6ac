/- Next of both sides, in one form. -/
import Derived.Test.YtcdokpkffbigdaaPrs
namespace Go.Proofs.Ytcdokpkffbigdaa
open Go.RowKit

theorem Chg.alloc_ {lo hi : Nat} {a w : World} (h : Chg lo hi a w) (o : Obj) : Chg lo hi a (w.alloc o) := h.trans (Chg.of_ext ((Ext.refl w).alloc o))
theorem PAt.chg_ {lo hi : Nat} {w w' : World} {A : Option Addr} {l : List Pt} (h : PAt w A l) (hx : Chg lo hi w w') (ho : 0 < l.length → OutA lo hi A) : PAt w' A l := fun k hk => h.chg hx (ho (by omega)) k hk
/-- What Next comes to, whatever it tells. -/
def NuPost (lo hi pb : Nat) (x : List Pt × Int × Pt × Bool) (w : World) (e : Ending) (w' : World) : Prop :=
  e = .returned (.tuple #[.agg #[.string ⟨x.2.2.1.s.toArray⟩, .int .i64 x.2.2.1.f, .int .i64 x.2.2.1.t], .bool x.2.2.2]) ∧ Hid (BodyAt lo hi w' pb (x.1.map Pt.nz) x.2.1) ∧ Chg lo hi w w'
theorem nu_calls (lo hi pb : Nat) (R : List Pt) (n : Int) (A : Option Addr) (c : Nat) (S : List Sp) (most : Int) (w : World) (h : BodyAt lo hi w pb (R.map Pt.nz) n) (hS : SAt w A S) (hN : Norm S) (hlS : S.length ≤ 1000000) (hR : ROk R) (hn : 0 ≤ n ∧ n + sumS R ≤ 9000000000000000000) (hhi : hi ≤ w.heap.size) :
    Calls Try.prog 16 #[.pointer (some ⟨pb, 0, none⟩), .agg #[.slice A S.length c], .int .i64 most] w (NuPost lo hi pb (nextR R n S most) w) := by
  refine (nx_calls lo hi pb R n A c S most w h hS hN hlS hR hn hhi).mono fun e w' hp => ?_
  unfold NxPost at hp
  cases hx : nextS R S most with
  | none =>
    rw [hx] at hp
    rw [nextR_none hx]
    exact ⟨hp.1, Lib.hid (h.ext hp.2), Chg.of_ext hp.2⟩
  | some x =>
    rw [hx] at hp
    rw [nextR_some hx]
    exact hp
theorem nextR_ok {R : List Pt} {n : Int} {S : List Sp} {most : Int} (h : LOk R) (hn : 0 ≤ n ∧ n + sumS R ≤ 9000000000000000000) : LOk (nextR R n S most).1 ∧ (0 ≤ (nextR R n S most).2.1 ∧ (nextR R n S most).2.1 + sumS (nextR R n S most).1 ≤ 9000000000000000000) := by
  cases hx : nextS R S most with
  | none => rw [nextR_none hx]; exact ⟨h, hn⟩
  | some x =>
    rcases x with ⟨q, R2, m⟩
    rw [nextR_some hx]
    have h1 := next_lok h hx
    obtain ⟨_, h2, _, h3⟩ := next_ok h.rok hx
    exact ⟨h1, by simp only; omega⟩
theorem lok_sum {L : List Pt} (h : LOk L) : sumS L ≤ 6000000000000000000 := by
  have key : ∀ L : List Pt, LOk L → (∀ p ∈ L, p.open_ = false) → sumS L ≤ 1099511627776 * L.length := by
    intro L
    induction L with
    | nil => intro _ _; simp [sumS]
    | cons p l ih =>
      intro h ho
      rw [sumS_cons]
      have h1 := (h.size (p := p) (by simp) (ho p (by simp))).2
      have h2 := ih h.tail (fun q hq => ho q (by simp [hq]))
      simp only [List.length_cons]
      omega
  rcases List.eq_nil_or_concat L with rfl | ⟨l, p, rfl⟩
  · simp [sumS]
  · rw [List.concat_eq_append] at *
    have hl : LOk l := ⟨by have := h.len; simp at this; omega, fun q hq => h.each q (by simp [hq]), fun k hk => by
      have := h.shut k (by simp; omega)
      rwa [List.getElem_append_left (by omega)] at this⟩
    have ho : ∀ q ∈ l, q.open_ = false := fun q hq => by
      obtain ⟨k, hk, rfl⟩ := List.mem_iff_getElem.1 hq
      have := h.shut k (by simp; omega)
      rwa [List.getElem_append_left hk] at this
    have h1 := key l hl ho
    have h2 := (h.rok.size (p := p) (by simp)).2
    have h3 := h.len
    simp at h3
    rw [sumS_append]
    have e1 : sumS [p] = p.size := by simp [sumS]
    rw [e1]
    have : (l.length : Int) ≤ 30 := by omega
    omega
end Go.Proofs.Ytcdokpkffbigdaa
