/- The contracts of the reference's And, Less, Len, Holds of sets. -/
import Derived.Test.YtdcdnnbijjcfmaaRefC
import Derived.Test.YtdcdnnbijjcfmaaLen
namespace Go.Proofs.Ytdcdnnbijjcfmaa
open Go.RowKit

theorem refLess_calls (A : Option Addr) (c : Nat) (a : List Sp) (B : Option Addr) (d : Nat) (b : List Sp) (w : World) (ha : SAt w A a) (hb : SAt w B b) (hla : a.length ≤ 200000) (hlb : b.length ≤ 200000) :
    Calls Try.prog 38 #[.slice A a.length c, .slice B b.length d] w (SPostN w (lessS (ofS a) (ofS b))) := by
  have hof := refofN_calls 3 (.inr (.inr rfl)) A c a B d b w ha hb hla hlb
  rw [ofL_three] at hof
  have HO := Lib.hid hof
  clear hof
  generalize lessS (ofS a) (ofS b) = R at *
  go_enter Try.func38, Try.ntmps38
  go_wp2_with fail
  refine HO.out.mono ?_
  rintro e w1 ⟨V, cv, rfl, HS, HN, hx⟩
  go_wp2
  go_ret
  exact ⟨V, cv, rfl, HS, HN, hx⟩
theorem refAnd_calls (A : Option Addr) (c : Nat) (a : List Sp) (B : Option Addr) (d : Nat) (b : List Sp) (w : World) (ha : SAt w A a) (hb : SAt w B b) (hla : a.length ≤ 200000) (hlb : b.length ≤ 200000) :
    Calls Try.prog 42 #[.slice A a.length c, .slice B b.length d] w (SPostN w (andS (ofS a) (ofS b))) := by
  have hof := refofN_calls 2 (.inr (.inl rfl)) A c a B d b w ha hb hla hlb
  rw [ofL_two] at hof
  have HO := Lib.hid hof
  clear hof
  generalize andS (ofS a) (ofS b) = R at *
  go_enter Try.func42, Try.ntmps42
  go_wp2_with fail
  refine HO.out.mono ?_
  rintro e w1 ⟨V, cv, rfl, HS, HN, hx⟩
  go_wp2
  go_ret
  exact ⟨V, cv, rfl, HS, HN, hx⟩

set_option maxHeartbeats 1000000 in
set_option maxRecDepth 100000 in
theorem refLen_calls (A : Option Addr) (c : Nat) (l : List Sp) (w : World) (h : SAt w A l) (hn : Norm l) (hl : l.length ≤ 1000000) :
    Calls Try.prog 54 #[.slice A l.length c] w fun e w' => e = .returned (.int .i64 (lenS l)) ∧ Ext w w' := by
  go_enter Try.func54, Try.ntmps54
  go_wp2
  go_loopw [3, 4] (fun n i wr => ∃ k : Nat, k ≤ l.length ∧ i = .int .i64 k ∧ n = .int .i64 (sumS (l.take k)) ∧ (l.take k).any (fun s => s.t == 4611686018427387904) = false ∧ Ext w wr) (fun _ i _ => l.length - (intOf i).toNat)
  case atStart => exact ⟨0, Nat.zero_le _, rfl, rfl, rfl, Ext.refl w⟩
  case round =>
    obtain ⟨k, hk, rfl, rfl, hno, hx⟩ := hrel
    by_cases hlt : k < l.length
    · obtain ⟨b, o, rfl, p0, p1⟩ := h.ext hx k hlt
      have hb := sumS_bound hn k hk
      have hbf := hb.2.1 hlt
      have hb0 := hb.1
      have hg := hn.get hlt
      have hts := List.take_succ_eq_append_getElem hlt
      have hsm : sumS (l.take (k + 1)) = sumS (l.take k) + l[k].t - l[k].f := by rw [hts, sumS_snoc]; omega
      have han : (l.take (k + 1)).any (fun s => s.t == 4611686018427387904) = (l[k].t == 4611686018427387904) := by rw [hts, List.any_append, hno]; simp
      have hal : (l[k].t == 4611686018427387904) = true → lenS l = 4611686018427387904 := fun h => by
        unfold lenS
        rw [if_pos (List.any_eq_true.2 ⟨l[k], List.getElem_mem _, h⟩)]
      generalize l[k] = s at *
      generalize sumS (l.take k) = n at *
      have HS := Lib.hid hsm
      have HA := Lib.hid han
      have HL := Lib.hid hal
      obtain ⟨g1, g2, g3⟩ := hg
      clear hb hts hsm han hal hno h
      cases eO : (s.t == 4611686018427387904)
      · have HA2 : Hid ((l.take (k + 1)).any (fun s => s.t == 4611686018427387904) = false) := Lib.hid (by rw [HA.out, eO])
        clear HA HL
        go_wp2
        refine wp_region_ext_lit (by kernel_rfl) (by kernel_rfl) ?_
        intro X _ g hg hg'
        have k1 : ∀ n, (g n).cell? ⟨b, o + k * 2, none⟩ = some (.int .i64 s.f) := fun n => (hg n).cell p0
        have k2 : ∀ n, (g n).cell? ⟨b, o + k * 2 + 1, none⟩ = some (.int .i64 s.t) := fun n => (hg n).cell p1
        repeat (go_big_quiet_step (fail))
        refine wpQuiet_nil ?_
        rintro w' ⟨m, rfl⟩
        have hxg := hg m
        clear hg hg' k1 k2
        go_wp2
        go_roundw
        case rel => exact ⟨k + 1, by omega, by go_num, by rw [HS.out], HA2.out, hx.trans hxg⟩
        case measure => simp [intOf]; omega
      · have HL2 := Lib.hid (HL.out eO)
        clear HA HL
        go_wp2
        go_ret
        exact ⟨by rw [HL2.out]; rfl, hx⟩
    · obtain rfl : k = l.length := by omega
      rw [List.take_length] at hno
      have hL : lenS l = sumS l := by unfold lenS; rw [hno]; rfl
      have HL := Lib.hid hL
      clear hno hL h
      go_wp2
      go_ret
      exact ⟨by rw [HL.out]; simp, hx⟩

theorem of_right_no {f t : Int} (h : rightB f t = false) : ofS [⟨f, t⟩] = [] := by
  unfold ofS
  have : ¬ (Sp.mk f t).ok := fun ⟨a, b, c⟩ => by
    simp [rightB] at h
    have := h a (by simpa using Int.le_of_lt b)
    have c' : t ≤ 4611686018427387904 := c
    omega
  simp [this]
/-- Is all of a span in a set? -/
def refholdsS (l : List Sp) (f t : Int) : Bool := rightB f t && (lessS (ofS [⟨f, t⟩]) (ofS l)).length == 0
set_option maxHeartbeats 1000000 in
set_option maxRecDepth 100000 in
theorem refHolds_calls (A : Option Addr) (c : Nat) (l : List Sp) (f t : Int) (w : World) (h : SAt w A l) (hl : l.length ≤ 200000) :
    Calls Try.prog 61 #[.slice A l.length c, .agg #[.int .i64 f, .int .i64 t]] w fun e w' => e = .returned (.bool (refholdsS l f t)) ∧ Ext w w' := by
  have hx0 : Ext w (w.alloc (.cells #[.int .i64 f, .int .i64 t] 48)) := (Ext.refl w).alloc _
  have hdef : refholdsS l f t = (rightB f t && (lessS (ofS [⟨f, t⟩]) (ofS l)).length == 0) := rfl
  generalize refholdsS l f t = R at *
  have HD := Lib.hid hdef
  clear hdef
  go_enter Try.func61, Try.ntmps61
  go_wp2_with fail
  refine (refright_calls _ _ _).mono ?_
  rintro e w1 ⟨rfl, hx1⟩
  have a0 : w1.cell? ⟨w.heap.size, 0, none⟩ = some (.int .i64 f) := hx1.cell (by simp [go_sem])
  have a1 : w1.cell? ⟨w.heap.size, 1, none⟩ = some (.int .i64 t) := hx1.cell (by simp [go_sem])
  replace hx1 := hx0.trans hx1
  clear hx0
  cases eR : rightB f t
  · have HD2 : Hid (R = false) := Lib.hid (by rw [HD.out, eR]; rfl)
    clear HD
    go_wp2
    go_ret
    exact ⟨by rw [HD2.out]; rfl, hx1⟩
  · have HD2 : Hid (R = ((lessS (ofS [⟨f, t⟩]) (ofS l)).length == 0)) := Lib.hid (by rw [HD.out, eR]; rfl)
    clear HD
    have hx2 := hx1.alloc (.cells #[.int .i64 f, .int .i64 t] 48)
    have hS : SAt (w1.alloc (.cells #[.int .i64 f, .int .i64 t] 48)) (some ⟨w1.heap.size, 0, none⟩) [⟨f, t⟩] := fun k hk => by
      obtain rfl : k = 0 := by simpa using hk
      exact ⟨_, _, rfl, by simp, by simp⟩
    have hc := fun c' => refLess_calls (some ⟨w1.heap.size, 0, none⟩) c' [⟨f, t⟩] A c l _ hS (h.ext hx2) (by simp) hl
    have HC := Lib.hid hc
    generalize lessS (ofS [⟨f, t⟩]) (ofS l) = L at *
    clear hc h
    go_wp2_with fail
    refine (HC.out _).mono ?_
    rintro e w2 ⟨V, cv, rfl, HS, HN, hx3⟩
    have hlen : ((L.length : Int) == 0) = (L.length == 0) := by
      rw [Bool.eq_iff_iff]; simp
    have HL := Lib.hid hlen
    clear hlen
    go_wp2
    go_ret
    exact ⟨by rw [HD2.out, ← HL.out]; rfl, hx2.trans hx3⟩
end Go.Proofs.Ytdcdnnbijjcfmaa
