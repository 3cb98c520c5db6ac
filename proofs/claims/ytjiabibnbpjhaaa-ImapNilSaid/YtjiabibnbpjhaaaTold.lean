/- The contracts of the reference's does and Told. -/
import Derived.Test.YtjiabibnbpjhaaaSpan
namespace Go.Proofs.Ytjiabibnbpjhaaa
open Go.RowKit

/-- A Put of v, or a Drop. -/
structure Ac where
  d : Bool
  f : Int
  t : Int
  v : Int

def goodB (f t : Int) : Bool := rightB f t && decide (f < t)

/-- A slice of acts that reads as l. -/
def Acts (w : World) (A : Option Addr) (l : List Ac) : Prop :=
  ∀ (k : Nat) (h : k < l.length), ∃ b o, A = some ⟨b, o, none⟩ ∧ w.cell? ⟨b, o + k * 4, none⟩ = some (.bool l[k].d) ∧ w.cell? ⟨b, o + k * 4 + 1, none⟩ = some (.int .i64 l[k].f) ∧
    w.cell? ⟨b, o + k * 4 + 2, none⟩ = some (.int .i64 l[k].t) ∧ w.cell? ⟨b, o + k * 4 + 3, none⟩ = some (.int .i64 l[k].v)
theorem Acts.ext {w w' : World} {A : Option Addr} {l : List Ac} (h : Acts w A l) (hx : Ext w w') : Acts w' A l := fun k hk => by
  obtain ⟨b, o, hA, p0, p1, p2, p3⟩ := h k hk
  exact ⟨b, o, hA, hx.cell p0, hx.cell p1, hx.cell p2, hx.cell p3⟩

theorem does_calls (d : Bool) (f t v : Int) (w : World) :
    Calls Try.prog 44 #[.agg #[.bool d, .int .i64 f, .int .i64 t, .int .i64 v]] w fun e w' => e = .returned (.bool (goodB f t)) ∧ Ext w w' := by
  unfold goodB
  go_enter Try.func44, Try.ntmps44
  go_wp2_with fail
  refine (refright_calls _ _ _).mono ?_
  rintro e w1 ⟨rfl, hx⟩
  have c1 : w1.cell? ⟨w.heap.size, 1, none⟩ = some (.int .i64 f) := hx.cell (by simp)
  have c2 : w1.cell? ⟨w.heap.size, 2, none⟩ = some (.int .i64 t) := hx.cell (by simp)
  replace hx := ((Ext.refl w).alloc _).trans hx
  cases e1 : rightB f t
  all_goals
    go_wp2
    go_ret
    exact ⟨by simp [e1], hx⟩

def hitB (a : Ac) (x : Int) : Bool := goodB a.f a.t && decide (a.f ≤ x) && decide (x < a.t)
/-- The last act of the first n that had the byte. -/
def lastHit (l : List Ac) (x : Int) : Option Ac := l.reverse.find? fun a => hitB a x
theorem lastHit_snoc (l : List Ac) (a : Ac) (x : Int) : lastHit (l ++ [a]) x = if hitB a x then some a else lastHit l x := by
  unfold lastHit
  rw [List.reverse_append]
  simp only [List.reverse_cons, List.reverse_nil, List.nil_append, List.cons_append, List.find?_cons]
  cases hitB a x <;> rfl
def toldV (l : List Ac) (x : Int) : Int := match lastHit l x with | some a => a.v | none => 0
def toldB (l : List Ac) (x : Int) : Bool := match lastHit l x with | some a => !a.d | none => false

set_option maxRecDepth 100000 in
theorem told_calls (A : Option Addr) (c : Nat) (l : List Ac) (x : Int) (w : World) (ha : Acts w A l) (hl : l.length ≤ 1000000) :
    Calls Try.prog 28 #[.slice A l.length c, .int .i64 x] w fun e w' => e = .returned (.tuple #[.int .i64 (toldV l x), .bool (toldB l x)]) ∧ Ext w w' := by
  go_enter Try.func28, Try.ntmps28
  go_wp2
  go_loopw [6] (fun i wr => ∃ k : Nat, k ≤ l.length ∧ i = .int .i64 ((k : Int) - 1) ∧ lastHit l x = lastHit (l.take k) x ∧ Ext w wr) (fun i _ => (intOf i + 1).toNat)
  case atStart => exact ⟨l.length, Nat.le_refl _, by simp, by rw [List.take_length], Ext.refl _⟩
  case round =>
    obtain ⟨k, hk, rfl, hlast, hx⟩ := hrel
    have HL := Lib.hid hlast
    clear hlast
    by_cases hk0 : 0 < k
    · obtain ⟨j, rfl⟩ : ∃ j, k = j + 1 := ⟨k - 1, by omega⟩
      obtain ⟨b, o, rfl, p0, p1, p2, p3⟩ := ha.ext hx j (by omega)
      obtain ⟨r, hr⟩ : ∃ r, l[j] = r := ⟨_, rfl⟩
      rw [hr] at p0 p1 p2 p3
      have hs : lastHit (l.take (j + 1)) x = if hitB r x then some r else lastHit (l.take j) x := by
        rw [List.take_succ_eq_append_getElem (by omega), lastHit_snoc, hr]
      have HS := Lib.hid hs
      clear hs hr
      rw [show ((j + 1 : Nat) : Int) - 1 = (j : Int) from by omega]
      go_wp2_with fail
      refine (does_calls _ _ _ _ _).mono ?_
      rintro e w1 ⟨rfl, hx1⟩
      replace p0 := hx1.cell p0
      replace p1 := hx1.cell p1
      replace p2 := hx1.cell p2
      replace p3 := hx1.cell p3
      replace hx := hx.trans hx1
      clear hx1 ha
      cases e1 : goodB r.f r.t
      · have hh : hitB r x = false := by simp [hitB, e1]
        go_wp2
        go_roundw
        case rel => exact ⟨j, by omega, by go_num, by rw [HL.out, HS.out, hh]; rfl, hx⟩
        case measure => simp [intOf] <;> omega
      · cases e2 : decide (r.f ≤ x)
        · have hh : hitB r x = false := by simp only [hitB, e2, Bool.and_false, Bool.false_and]
          have e2' : ¬ r.f ≤ x := by simpa using e2
          go_wp2
          go_roundw
          case rel => exact ⟨j, by omega, by go_num, by rw [HL.out, HS.out, hh]; rfl, hx⟩
          case measure => simp [intOf] <;> omega
        · cases e3 : decide (x < r.t)
          · have hh : hitB r x = false := by simp only [hitB, e3, Bool.and_false]
            have e3' : ¬ x < r.t := by simpa using e3
            go_wp2
            go_roundw
            case rel => exact ⟨j, by omega, by go_num, by rw [HL.out, HS.out, hh]; rfl, hx⟩
            case measure => simp [intOf] <;> omega
          · have hh : hitB r x = true := by simp only [hitB, e1, e2, e3, Bool.and_true]
            go_wp2
            refine wp_region_ext_lit (by kernel_rfl) (by kernel_rfl) ?_
            intro X _ g hg hg'
            have q0 : ∀ n, (g n).cell? ⟨b, o + j * 4, none⟩ = some (.bool r.d) := fun n => (hg n).cell p0
            have q3 : ∀ n, (g n).cell? ⟨b, o + j * 4 + 3, none⟩ = some (.int .i64 r.v) := fun n => (hg n).cell p3
            repeat (go_big_quiet_step (fail))
            refine wpQuiet_nil ?_
            rintro w2 ⟨n, rfl⟩
            go_wp2
            go_ret2
            have h1 : lastHit l x = some r := by rw [HL.out, HS.out, hh]; rfl
            exact ⟨by simp [toldV, toldB, h1], hx.trans (hg n)⟩
    · obtain rfl : k = 0 := by omega
      go_wp2
      go_ret2
      have h1 : lastHit l x = none := by rw [HL.out]; rfl
      exact ⟨by simp [toldV, toldB, h1], hx⟩
end Go.Proofs.Ytjiabibnbpjhaaa
