/- The contracts of span.Right, Start and New. -/
import Derived.Test.YtaanbgagdanalaaAct
import Derived.Laws.StructEq
import Derived.BigRegion
import Derived.Deep.RegionLaw
namespace Go.Proofs.Ytaanbgagdanalaa
open Go.RowKit

def rightB (f t : Int) : Bool := decide (0 ≤ f) && (decide (f ≤ t) && decide (t ≤ 4611686018427387904))
theorem right_calls (f t : Int) (w : World) : Calls Try.prog 40 #[.agg #[.int .i64 f, .int .i64 t]] w fun e w' => e = .returned (.bool (rightB f t)) ∧ Ext w w' := by
  unfold rightB
  cases e1 : decide (0 ≤ f) <;> cases e2 : decide (f ≤ t) <;> cases e3 : decide (t ≤ 4611686018427387904)
  all_goals
    go_enter Try.func40, Try.ntmps40
    go_wp2
    go_ret
    exact ⟨by simp [e1, e2, e3], (Ext.refl w).alloc _⟩

theorem eql26 (a : ByteArray) (b : Bool) (a' : ByteArray) (b' : Bool) (w : World) : (binOp .eql 26 (.agg #[.string a, .bool b]) (.agg #[.string a', .bool b'])).run Try.prog w = .ok (.bool (a.toList == a'.toList && b == b')) w := by
  have h1 : Try.prog.underlying 26 = some (.struct (Try.prog.fieldsOf 26)) := by kernel_rfl
  have h2 : Try.prog.stoodInHeld 26 = false := by kernel_rfl
  rw [run_eql_struct, run_equalIn_agg _ _ _ _ _ h1 h2]
  simp [go_sem]
  by_cases x1 : a.toList = a'.toList <;> by_cases x2 : b = b' <;> simp [x1, x2]
theorem eql26z (a : ByteArray) (b : Bool) (w : World) : (binOp .eql 26 (.agg #[.string a, .bool b]) (.agg #[.string ⟨#[]⟩, .bool false])).run Try.prog w = .ok (.bool (a.toList == [] && !b)) w := by
  rw [eql26]
  cases b <;> simp
theorem guard26 : Try.prog.eqGuardType Try.prog.depth 26 = false := by kernel_rfl

def agF (f : Fl) : Value := .agg #[.int .i64 f.id, .string f.obj, .int .i64 f.fr, .int .i64 f.to, .string f.mt, .bool f.mw, .string f.nt, .bool f.nw, .int .i64 f.en, .int .i64 f.sa, .int .i64 f.mo, .int .i64 f.ge, .int .i64 f.pl, .bool f.he]

theorem starts_no (f : Fl) (h : starts f = false) : f.id ≠ 0 ∨ (f.id = 0 ∧ f.pl ≠ 0) ∨ (f.id = 0 ∧ f.pl = 0 ∧ f.he = true) ∨ (f.id = 0 ∧ f.pl = 0 ∧ f.he = false ∧ f.en < 0) ∨
    (f.id = 0 ∧ f.pl = 0 ∧ f.he = false ∧ 0 < f.en ∧ (f.mt.toList == [] && !f.mw) = true) ∨
    (f.id = 0 ∧ f.pl = 0 ∧ f.he = false ∧ (f.en = 0 ∨ 0 < f.en ∧ (f.mt.toList == [] && !f.mw) = false) ∧ (rightB f.fr f.to = false ∨ rightB f.fr f.to = true ∧ f.fr = f.to)) := by
  by_cases h1 : f.id = 0
  · by_cases h2 : f.pl = 0
    · cases h3 : f.he
      · by_cases h4 : f.en < 0
        · exact .inr (.inr (.inr (.inl ⟨h1, h2, rfl, h4⟩)))
        · by_cases h5 : f.en = 0
          · refine .inr (.inr (.inr (.inr (.inr ⟨h1, h2, rfl, .inl h5, ?_⟩))))
            cases h6 : rightB f.fr f.to
            · exact .inl rfl
            · refine .inr ⟨rfl, ?_⟩
              simp [starts, rightB, h1, h2, h3, h5] at h h6
              omega
          · cases h7 : (f.mt.toList == [] && !f.mw)
            · refine .inr (.inr (.inr (.inr (.inr ⟨h1, h2, rfl, .inr ⟨by omega, rfl⟩, ?_⟩))))
              cases h6 : rightB f.fr f.to
              · exact .inl rfl
              · refine .inr ⟨rfl, ?_⟩
                have h8 : decide (0 ≤ f.en) = true := by simp; omega
                have h9 : (f.en == 0) = false := by simp [h5]
                simp only [starts, h1, h2, h3, h7, h8, h9] at h
                simp [rightB] at h h6
                omega
            · exact .inr (.inr (.inr (.inr (.inl ⟨h1, h2, rfl, by omega, rfl⟩))))
      · exact .inr (.inr (.inl ⟨h1, h2, rfl⟩))
    · exact .inr (.inl ⟨h1, h2⟩)
  · exact .inl h1
theorem starts_yes (f : Fl) (h : starts f = true) : f.id = 0 ∧ f.pl = 0 ∧ f.he = false ∧ (f.en = 0 ∨ 0 < f.en ∧ (f.mt.toList == [] && !f.mw) = false) ∧ rightB f.fr f.to = true ∧ f.fr < f.to ∧ 0 ≤ f.fr ∧ f.to ≤ 4611686018427387904 := by
  simp only [starts, Bool.and_eq_true, Bool.or_eq_true, Bool.not_eq_true', decide_eq_true_eq, beq_iff_eq] at h
  obtain ⟨h1, h2, h3, h4, h5, h6, h7, h8⟩ := h
  refine ⟨h1, h2, h3, ?_, ?_, h7, h6, h8⟩
  · by_cases h9 : f.en = 0
    · exact .inl h9
    · exact .inr ⟨by omega, h5.resolve_left h9⟩
  · simp [rightB]; omega

set_option maxHeartbeats 4000000 in
set_option maxRecDepth 100000 in
theorem start_no (N tb : Nat) (O : List Nat) (t : Tab) (f : Fl) (w : World) (h : TabR N w tb O t) (hf : starts f = false) :
    Calls Try.prog 11 #[.pointer (some ⟨tb, 0, none⟩), agF f] w (Act N w tb O t (.tuple #[.int .i64 0, .int .i64 1])) := by
  unfold agF
  have ha : ∀ w', Ext w w' → Act N w tb O t (.tuple #[.int .i64 0, .int .i64 1]) (.returned (.tuple #[.int .i64 0, .int .i64 1])) w' := fun w' hx => Act.ext h hx
  have HA := Lib.hid ha
  have HB := Lib.hid eql26
  have hg26 := guard26
  clear ha h
  rcases starts_no f hf with h | ⟨h1, h⟩ | ⟨h1, h2, h⟩ | ⟨h1, h2, h3, h⟩ | ⟨h1, h2, h3, h4, h⟩ | ⟨h1, h2, h3, h4, h⟩
  · clear hf HB hg26
    have e1 : (f.id == 0) = false := by simp [h]
    have e2 : (f.id != 0) = true := by simp [h]
    go_enter Try.func11, Try.ntmps11
    go_wp2
    exact bodyPost_ret (v := .tuple #[.int .i64 0, .int .i64 1]) (by simp [results, Try.results11, go_sem]) rfl (HA.out _ (((Ext.refl w).alloc _).alloc _))
  · clear hf HB hg26
    have e1 : (f.pl == 0) = false := by simp [h]
    have e2 : (f.pl != 0) = true := by simp [h]
    go_enter Try.func11, Try.ntmps11
    go_wp2
    exact bodyPost_ret (v := .tuple #[.int .i64 0, .int .i64 1]) (by simp [results, Try.results11, go_sem]) rfl (HA.out _ (((Ext.refl w).alloc _).alloc _))
  · clear hf HB hg26
    go_enter Try.func11, Try.ntmps11
    go_wp2
    exact bodyPost_ret (v := .tuple #[.int .i64 0, .int .i64 1]) (by simp [results, Try.results11, go_sem]) rfl (HA.out _ (((Ext.refl w).alloc _).alloc _))
  · clear hf HB hg26
    go_enter Try.func11, Try.ntmps11
    go_wp2
    exact bodyPost_ret (v := .tuple #[.int .i64 0, .int .i64 1]) (by simp [results, Try.results11, go_sem]) rfl (HA.out _ (((Ext.refl w).alloc _).alloc _))
  · have hb : ∀ w, (binOp .eql 26 (.agg #[.string f.mt, .bool f.mw]) (.agg #[.string ⟨#[]⟩, .bool false])).run Try.prog w = .ok (.bool true) w := fun w => by
      rw [eql26z, h]
    have e1 : ¬ f.en < 0 := by omega
    have e2 : (f.en == 0) = false := by simp; omega
    have e3 : (f.en != 0) = true := by simp; omega
    clear hf HB h
    go_enter Try.func11, Try.ntmps11
    go_wp2
    exact bodyPost_ret (v := .tuple #[.int .i64 0, .int .i64 1]) (by simp [results, Try.results11, go_sem]) rfl (HA.out _ (((Ext.refl w).alloc _).alloc _))
  · have h8 : ¬ f.en < 0 := by rcases h4 with h4 | h4 <;> omega
    generalize f.fr = fr at *
    generalize f.to = to at *
    have HR := Lib.hid h
    clear hf h
    rcases h4 with h4 | ⟨h4, h5⟩
    · clear HB hg26
      rcases HR.out with hr | ⟨hr, rfl⟩
      · go_enter Try.func11, Try.ntmps11
        go_wp2_with fail
        refine (right_calls fr to _).mono ?_
        rintro e w1 ⟨rfl, hx⟩
        have hx1 := (((Ext.refl w).alloc _).alloc _).trans hx
        clear hx
        go_wp2
        exact bodyPost_ret (v := .tuple #[.int .i64 0, .int .i64 1]) (by simp [results, Try.results11, go_sem]) rfl (HA.out _ hx1)
      · go_enter Try.func11, Try.ntmps11
        go_wp2_with fail
        refine (right_calls fr fr _).mono ?_
        rintro e w1 ⟨rfl, hx⟩
        have c0 : w1.cell? ⟨w.heap.size + 1, 0, none⟩ = some (.int .i64 fr) := hx.cell (by simp)
        have c1 : w1.cell? ⟨w.heap.size + 1, 1, none⟩ = some (.int .i64 fr) := hx.cell (by simp)
        have hx1 := (((Ext.refl w).alloc _).alloc _).trans hx
        clear hx
        go_wp2
        exact bodyPost_ret (v := .tuple #[.int .i64 0, .int .i64 1]) (by simp [results, Try.results11, go_sem]) rfl (HA.out _ hx1)
    · have hb : ∀ w, (binOp .eql 26 (.agg #[.string f.mt, .bool f.mw]) (.agg #[.string ⟨#[]⟩, .bool false])).run Try.prog w = .ok (.bool false) w := fun w => by
        rw [eql26z, h5]
      have e2 : (f.en == 0) = false := by simp; omega
      have e3 : (f.en != 0) = true := by simp; omega
      clear HB h5
      rcases HR.out with hr | ⟨hr, rfl⟩
      · go_enter Try.func11, Try.ntmps11
        go_wp2_with fail
        refine (right_calls fr to _).mono ?_
        rintro e w1 ⟨rfl, hx⟩
        have hx1 := (((Ext.refl w).alloc _).alloc _).trans hx
        clear hx
        go_wp2
        exact bodyPost_ret (v := .tuple #[.int .i64 0, .int .i64 1]) (by simp [results, Try.results11, go_sem]) rfl (HA.out _ hx1)
      · go_enter Try.func11, Try.ntmps11
        go_wp2_with fail
        refine (right_calls fr fr _).mono ?_
        rintro e w1 ⟨rfl, hx⟩
        have c0 : w1.cell? ⟨w.heap.size + 1, 0, none⟩ = some (.int .i64 fr) := hx.cell (by simp)
        have c1 : w1.cell? ⟨w.heap.size + 1, 1, none⟩ = some (.int .i64 fr) := hx.cell (by simp)
        have hx1 := (((Ext.refl w).alloc _).alloc _).trans hx
        clear hx
        go_wp2
        exact bodyPost_ret (v := .tuple #[.int .i64 0, .int .i64 1]) (by simp [results, Try.results11, go_sem]) rfl (HA.out _ hx1)
end Go.Proofs.Ytaanbgagdanalaa
