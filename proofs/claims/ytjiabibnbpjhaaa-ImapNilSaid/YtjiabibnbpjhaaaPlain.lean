/- Plain Lean: lists of runs in their one form; what Put and Drop make of them, and what the reference's Runs are. -/
import Derived.Test.YtjiabibnbpjhaaaRuns
import Derived.Test.YtjiabibnbpjhaaaDrop
namespace Go.Proofs.Ytjiabibnbpjhaaa

def OPEN : Int := 4611686018427387904

theorem Rn.same {a b : Rn} (h1 : a.f = b.f) (h2 : a.t = b.t) (h3 : a.v = b.v) : a = b := by
  cases a; cases b; simp_all

/-- What is told of a place. -/
def tell : List Rn → Int → Option Int
  | [], _ => none
  | r :: l, x => if r.f ≤ x ∧ x < r.t then some r.v else tell l x

/-- Rising, from lo on; none empty; what touches what stands ahead tells another thing. -/
def WF (lo : Int) (lv : Option Int) : List Rn → Prop
  | [] => True
  | r :: l => lo ≤ r.f ∧ (r.f = lo → lv ≠ some r.v) ∧ r.f < r.t ∧ r.t ≤ OPEN ∧ WF r.t (some r.v) l

/-- Where a list ends, and what it tells last. -/
def endOf (lo : Int) (lv : Option Int) : List Rn → Int × Option Int
  | [] => (lo, lv)
  | r :: l => endOf r.t (some r.v) l

theorem WF.lo_le {lo : Int} {lv : Option Int} {l : List Rn} (h : WF lo lv l) : lo ≤ (endOf lo lv l).1 := by
  induction l generalizing lo lv with
  | nil => exact Int.le_refl _
  | cons r l ih =>
    obtain ⟨h1, _, h3, _, h5⟩ := h
    have := ih h5
    simp only [endOf]
    omega
theorem tell_ge {lo : Int} {lv : Option Int} {l : List Rn} (h : WF lo lv l) {x u : Int} (ht : tell l x = some u) : lo ≤ x ∧ x < (endOf lo lv l).1 := by
  induction l generalizing lo lv with
  | nil => simp [tell] at ht
  | cons r l ih =>
    obtain ⟨h1, _, h3, _, h5⟩ := h
    unfold tell at ht
    have hle := h5.lo_le
    simp only [endOf]
    split at ht
    · omega
    · have := ih h5 ht
      omega
theorem tell_lt {lo : Int} {lv : Option Int} {l : List Rn} (h : WF lo lv l) {x : Int} (hx : x < lo) : tell l x = none := by
  cases ht : tell l x with
  | none => rfl
  | some u => have := (tell_ge h ht).1; omega
theorem tell_end {lo : Int} {lv : Option Int} {l : List Rn} (h : WF lo lv l) {x : Int} (hx : (endOf lo lv l).1 ≤ x) : tell l x = none := by
  cases ht : tell l x with
  | none => rfl
  | some u => have := (tell_ge h ht).2; omega
theorem tell_lo {lo v : Int} {l : List Rn} (h : WF lo (some v) l) : tell l lo ≠ some v := by
  cases l with
  | nil => simp [tell]
  | cons r l =>
    obtain ⟨h1, h2, h3, _, h5⟩ := h
    unfold tell
    split
    · have : r.f = lo := by omega
      intro e
      exact h2 this (by rw [← e])
    · rw [tell_lt h5 (by omega)]; simp

/-- One form: what tells the same is the same. -/
theorem WF.unique {lo : Int} {lv lv' : Option Int} {l m : List Rn} (h : WF lo lv l) (k : WF lo lv' m) (e : ∀ x, lo ≤ x → tell l x = tell m x) : l = m := by
  induction l generalizing lo lv lv' m with
  | nil =>
    cases m with
    | nil => rfl
    | cons r m =>
      have h1 := e r.f k.1
      simp [tell, k.2.2.1] at h1
  | cons r l ih =>
    cases m with
    | nil =>
      have h1 := e r.f h.1
      simp [tell, h.2.2.1] at h1
    | cons s m =>
      obtain ⟨h1, h2, h3, h4, h5⟩ := h
      obtain ⟨k1, k2, k3, k4, k5⟩ := k
      have ef : r.f = s.f := by
        rcases Int.lt_trichotomy r.f s.f with c | c | c
        · have h6 := e r.f h1
          simp only [tell, Int.le_refl, h3, and_self, if_true] at h6
          rw [if_neg (by omega), tell_lt k5 (by omega)] at h6
          cases h6
        · exact c
        · have h6 := e s.f k1
          simp only [tell, Int.le_refl, k3, and_self, if_true] at h6
          rw [if_neg (by omega), tell_lt h5 (by omega)] at h6
          cases h6
      have ev : r.v = s.v := by
        have h6 := e r.f h1
        simp only [tell, Int.le_refl, h3, and_self, if_true] at h6
        rw [if_pos (by omega)] at h6
        exact Option.some.inj h6
      have et : r.t = s.t := by
        rcases Int.lt_trichotomy r.t s.t with c | c | c
        · have h6 := e r.t (by omega)
          unfold tell at h6
          rw [if_neg (by omega), if_pos (by omega)] at h6
          rw [← ev] at h6
          exact (tell_lo h5 h6).elim
        · exact c
        · have h6 := e s.t (by omega)
          unfold tell at h6
          rw [if_pos (by omega), if_neg (by omega)] at h6
          rw [ev] at h6
          exact (tell_lo k5 h6.symm).elim
      have ers : r = s := Rn.same ef et ev
      subst ers
      rw [ih h5 k5 fun x hx => by
        have h6 := e x (by omega)
        unfold tell at h6
        rw [if_neg (by omega), if_neg (by omega)] at h6
        exact h6]

theorem endOf_snoc (lo : Int) (lv : Option Int) (l : List Rn) (r : Rn) : endOf lo lv (l ++ [r]) = (r.t, some r.v) := by
  induction l generalizing lo lv with
  | nil => rfl
  | cons s l ih => exact ih _ _
theorem WF_snoc {lo : Int} {lv : Option Int} {l : List Rn} {r : Rn} (h : WF lo lv l) (h1 : (endOf lo lv l).1 ≤ r.f) (h2 : r.f = (endOf lo lv l).1 → (endOf lo lv l).2 ≠ some r.v) (h3 : r.f < r.t) (h4 : r.t ≤ OPEN) : WF lo lv (l ++ [r]) := by
  induction l generalizing lo lv with
  | nil => exact ⟨h1, h2, h3, h4, trivial⟩
  | cons s l ih => exact ⟨h.1, h.2.1, h.2.2.1, h.2.2.2.1, ih h.2.2.2.2 h1 h2⟩
theorem WF_init {lo : Int} {lv : Option Int} {l : List Rn} {r : Rn} (h : WF lo lv (l ++ [r])) : WF lo lv l ∧ (endOf lo lv l).1 ≤ r.f ∧ (r.f = (endOf lo lv l).1 → (endOf lo lv l).2 ≠ some r.v) ∧ r.f < r.t ∧ r.t ≤ OPEN := by
  induction l generalizing lo lv with
  | nil => exact ⟨trivial, h.1, h.2.1, h.2.2.1, h.2.2.2.1⟩
  | cons s l ih =>
    obtain ⟨a, b⟩ := ih h.2.2.2.2
    exact ⟨⟨h.1, h.2.1, h.2.2.1, h.2.2.2.1, a⟩, b⟩
theorem tell_append (l m : List Rn) (x : Int) : tell (l ++ m) x = (tell l x).or (tell m x) := by
  induction l with
  | nil => rfl
  | cons r l ih =>
    simp only [List.cons_append, tell]
    split
    · rfl
    · exact ih
theorem tell_snoc (l : List Rn) (r : Rn) (x : Int) : tell (l ++ [r]) x = (tell l x).or (if r.f ≤ x ∧ x < r.t then some r.v else none) := by
  rw [tell_append]; rfl

/-- push keeps the form. -/
theorem push_wf {l : List Rn} {r : Rn} (h : WF 0 none l) (h1 : (endOf 0 none l).1 ≤ r.f) (h3 : r.f < r.t) (h4 : r.t ≤ OPEN) :
    WF 0 none (pushR l r) ∧ (endOf 0 none (pushR l r)).1 = r.t ∧ ∀ x, tell (pushR l r) x = (tell l x).or (if r.f ≤ x ∧ x < r.t then some r.v else none) := by
  rcases List.eq_nil_or_concat l with rfl | ⟨l0, q, rfl⟩
  · refine ⟨?_, rfl, fun x => rfl⟩
    exact ⟨h1, by simp, h3, h4, trivial⟩
  · rw [List.concat_eq_append] at *
    rw [endOf_snoc] at h1
    obtain ⟨h5, h6, h7, h8, h9⟩ := WF_init h
    cases hj : joins q r
    · rw [pushR_two _ _ _ hj]
      refine ⟨WF_snoc h (by rw [endOf_snoc]; exact h1) (fun e => ?_) h3 h4, by rw [endOf_snoc], fun x => tell_snoc _ _ _⟩
      rw [endOf_snoc] at e ⊢
      simp only [Option.some.injEq, ne_eq]
      intro ev
      simp [joins, ev] at hj
      exact hj e.symm
    · rw [pushR_one _ _ _ hj]
      simp only [joins, Bool.and_eq_true, beq_iff_eq] at hj
      refine ⟨WF_snoc h5 h6 h7 (by simp only; omega) h4, by rw [endOf_snoc], fun x => ?_⟩
      rw [tell_snoc, tell_snoc]
      cases hx : tell l0 x with
      | some u => rfl
      | none =>
        simp only [Option.none_or]
        rw [← hj.2]
        simp only at h1 ⊢
        by_cases c1 : q.f ≤ x ∧ x < q.t
        · rw [if_pos c1, if_pos (by omega)]; rfl
        · rw [if_neg c1, Option.none_or]
          by_cases c2 : r.f ≤ x ∧ x < r.t
          · rw [if_pos c2, if_pos (by omega)]
          · rw [if_neg c2, if_neg (by omega)]

/-- What a Put leaves: of the span's places the new value, of the others what was told. -/
theorem put_go (f t v : Int) (_hf : 0 ≤ f) (hft : f < t) (ht : t ≤ OPEN) (l : List Rn) : ∀ (lo : Int) (lv : Option Int) (out : List Rn) (put : Bool), WF lo lv l → WF 0 none out →
    (put = false → (endOf 0 none out).1 ≤ lo ∧ (endOf 0 none out).1 ≤ f) → (put = true → f ≤ lo ∧ ((endOf 0 none out).1 ≤ lo ∨ (endOf 0 none out).1 ≤ t) ∧ ∀ x, f ≤ x → x < t → tell out x = some v) →
    ∀ R, R = (let s := l.foldl (putStep f t v) (out, put); if s.2 then s.1 else pushR s.1 ⟨f, t, v⟩) → WF 0 none R ∧ ∀ x, tell R x = if f ≤ x ∧ x < t then some v else (tell out x).or (tell l x) := by
  induction l with
  | nil =>
    intro lo lv out put _ ho hp hq R hR
    simp only [List.foldl_nil] at hR
    cases put
    · obtain ⟨h1, h2⟩ := hp rfl
      simp only [Bool.false_eq_true, if_false] at hR
      subst hR
      obtain ⟨a, _, c⟩ := push_wf (r := ⟨f, t, v⟩) ho h2 hft ht
      refine ⟨a, fun x => ?_⟩
      rw [c]
      simp only [tell, Option.or_none]
      by_cases hx : f ≤ x ∧ x < t
      · rw [if_pos hx, if_pos hx, tell_end ho (by omega)]; rfl
      · rw [if_neg hx, if_neg hx, Option.or_none]
    · obtain ⟨h1, h2, h3⟩ := hq rfl
      simp only [if_true] at hR
      subst hR
      refine ⟨ho, fun x => ?_⟩
      simp only [tell, Option.or_none]
      by_cases hx : f ≤ x ∧ x < t
      · rw [if_pos hx]; exact h3 x hx.1 hx.2
      · rw [if_neg hx]
  | cons r l ih =>
    intro lo lv out put hl ho hp hq R hR
    obtain ⟨l1, l2, l3, l4, l5⟩ := hl
    rw [List.foldl_cons] at hR
    cases put
    · obtain ⟨h1, h2⟩ := hp rfl
      -- the piece ahead
      have s1 : WF 0 none (put1 f r out) ∧ (endOf 0 none (put1 f r out)).1 ≤ f ∧ (endOf 0 none (put1 f r out)).1 ≤ r.t ∧ ∀ x, tell (put1 f r out) x = (tell out x).or (if r.f ≤ x ∧ x < r.t ∧ x < f then some r.v else none) := by
        unfold put1
        split
        · rename_i hc
          obtain ⟨a, b, c⟩ := push_wf (r := ⟨r.f, min r.t f, r.v⟩) ho (by simp only; omega) (by simp only; omega) (by simp only; omega)
          refine ⟨a, by rw [b]; simp only; omega, by rw [b]; simp only; omega, fun x => ?_⟩
          rw [c]
          simp only
          by_cases hx : r.f ≤ x ∧ x < r.t ∧ x < f
          · rw [if_pos hx, if_pos (by omega)]
          · rw [if_neg hx, if_neg (by omega)]
        · refine ⟨ho, h2, by omega, fun x => ?_⟩
          rw [if_neg (by omega), Option.or_none]
      obtain ⟨a1, b1, b1', c1⟩ := s1
      cases hb : put2b f r false
      · have hrt : ¬ f < r.t := by simpa [put2b] using hb
        have e3 : putStep f t v (out, false) r = (put1 f r out, false) := by
          simp only [putStep, put2, hb, put3, if_neg (show ¬ t < r.t by omega), Bool.false_or, Bool.false_eq_true, if_false]
        rw [e3] at hR
        obtain ⟨a, c⟩ := ih r.t (some r.v) (put1 f r out) false l5 a1 (fun _ => ⟨b1', b1⟩) (fun h => by cases h) R hR
        refine ⟨a, fun x => ?_⟩
        rw [c, c1]
        by_cases hx : f ≤ x ∧ x < t
        · rw [if_pos hx, if_pos hx]
        · rw [if_neg hx, if_neg hx]
          simp only [tell]
          by_cases hy : r.f ≤ x ∧ x < r.t
          · rw [if_pos (show r.f ≤ x ∧ x < r.t ∧ x < f by omega), if_pos hy]
            cases tell out x <;> rfl
          · rw [if_neg (by omega), if_neg hy, Option.or_none]
      · have hrt : f < r.t := by simpa [put2b] using hb
        obtain ⟨a2, b2, c2⟩ := push_wf (r := ⟨f, t, v⟩) a1 b1 hft ht
        simp only at b2 c2
        have hin : ∀ x, f ≤ x → x < t → tell (pushR (put1 f r out) ⟨f, t, v⟩) x = some v := fun x h3 h4 => by
          rw [c2, tell_end a1 (by omega), if_pos ⟨h3, h4⟩]; rfl
        have s3 : ∀ o3, o3 = put3 t r (pushR (put1 f r out) ⟨f, t, v⟩) → WF 0 none o3 ∧ ((endOf 0 none o3).1 ≤ r.t ∨ (endOf 0 none o3).1 ≤ t) ∧ ∀ x, tell o3 x = (tell (pushR (put1 f r out) ⟨f, t, v⟩) x).or (if r.f ≤ x ∧ x < r.t ∧ t ≤ x then some r.v else none) := by
          intro o3 e
          subst e
          unfold put3
          split
          · rename_i hc
            obtain ⟨a, b, c⟩ := push_wf (r := ⟨max r.f t, r.t, r.v⟩) a2 (by simp only; omega) (by simp only; omega) (by simp only; omega)
            refine ⟨a, by rw [b]; simp only; omega, fun x => ?_⟩
            rw [c]
            simp only
            by_cases hx : r.f ≤ x ∧ x < r.t ∧ t ≤ x
            · rw [if_pos hx, if_pos (by omega)]
            · rw [if_neg hx, if_neg (by omega)]
          · refine ⟨a2, by omega, fun x => ?_⟩
            rw [if_neg (by omega), Option.or_none]
        obtain ⟨a3, b3, c3⟩ := s3 _ rfl
        have e3 : putStep f t v (out, false) r = (put3 t r (pushR (put1 f r out) ⟨f, t, v⟩), true) := by
          simp only [putStep, put2, hb, Bool.false_or, if_true]
        rw [e3] at hR
        have hin3 : ∀ x, f ≤ x → x < t → tell (put3 t r (pushR (put1 f r out) ⟨f, t, v⟩)) x = some v := fun x h3 h4 => by
          rw [c3, hin x h3 h4]; rfl
        obtain ⟨a, c⟩ := ih r.t (some r.v) _ true l5 a3 (fun h => by cases h) (fun _ => ⟨by omega, b3, hin3⟩) R hR
        refine ⟨a, fun x => ?_⟩
        rw [c]
        by_cases hx : f ≤ x ∧ x < t
        · rw [if_pos hx, if_pos hx]
        · rw [if_neg hx, if_neg hx, c3, c2, c1, if_neg hx]
          simp only [tell, Option.or_none]
          by_cases hy : r.f ≤ x ∧ x < r.t
          · rw [if_pos hy]
            by_cases hz : x < f
            · rw [if_pos (show r.f ≤ x ∧ x < r.t ∧ x < f by omega)]
              cases tell out x <;> rfl
            · rw [if_neg (by omega), if_pos (show r.f ≤ x ∧ x < r.t ∧ t ≤ x by omega)]
              cases tell out x <;> rfl
          · rw [if_neg (by omega), if_neg (by omega), if_neg hy]
            cases tell out x <;> rfl
    · obtain ⟨h1, h2, h3⟩ := hq rfl
      have e1 : put1 f r out = out := by unfold put1; rw [if_neg (by omega)]
      have hb : put2b f r true = false := rfl
      have e3 : putStep f t v (out, true) r = (put3 t r out, true) := by
        simp only [putStep, put2, hb, e1, Bool.true_or, Bool.false_eq_true, if_false]
      rw [e3] at hR
      have s3 : WF 0 none (put3 t r out) ∧ ((endOf 0 none (put3 t r out)).1 ≤ r.t ∨ (endOf 0 none (put3 t r out)).1 ≤ t) ∧ ∀ x, tell (put3 t r out) x = (tell out x).or (if r.f ≤ x ∧ x < r.t ∧ t ≤ x then some r.v else none) := by
        unfold put3
        split
        · rename_i hc
          obtain ⟨a, b, c⟩ := push_wf (r := ⟨max r.f t, r.t, r.v⟩) ho (by simp only; omega) (by simp only; omega) (by simp only; omega)
          refine ⟨a, by rw [b]; simp only; omega, fun x => ?_⟩
          rw [c]
          simp only
          by_cases hx : r.f ≤ x ∧ x < r.t ∧ t ≤ x
          · rw [if_pos hx, if_pos (by omega)]
          · rw [if_neg hx, if_neg (by omega)]
        · refine ⟨ho, by omega, fun x => ?_⟩
          rw [if_neg (by omega), Option.or_none]
      obtain ⟨a3, b3, c3⟩ := s3
      obtain ⟨a, c⟩ := ih r.t (some r.v) _ true l5 a3 (fun h => by cases h) (fun _ => ⟨by omega, b3, fun x h4 h5 => by rw [c3, h3 x h4 h5]; rfl⟩) R hR
      refine ⟨a, fun x => ?_⟩
      rw [c]
      by_cases hx : f ≤ x ∧ x < t
      · rw [if_pos hx, if_pos hx]
      · rw [if_neg hx, if_neg hx, c3]
        simp only [tell]
        by_cases hy : r.f ≤ x ∧ x < r.t
        · rw [if_pos hy, if_pos (show r.f ≤ x ∧ x < r.t ∧ t ≤ x by omega)]
          cases tell out x <;> rfl
        · rw [if_neg (by omega), if_neg hy, Option.or_none]

theorem putR_spec {l : List Rn} (h : WF 0 none l) {f t : Int} (v : Int) (hf : 0 ≤ f) (hft : f < t) (ht : t ≤ OPEN) : WF 0 none (putR f t v l) ∧ ∀ x, tell (putR f t v l) x = if f ≤ x ∧ x < t then some v else tell l x := by
  obtain ⟨a, b⟩ := put_go f t v hf hft ht l 0 none [] false h trivial (fun _ => ⟨Int.le_refl _, hf⟩) (fun h => by cases h) (putR f t v l) rfl
  refine ⟨a, fun x => ?_⟩
  rw [b]; simp [tell]

/-- What a Drop leaves. -/
theorem drop_go (f t : Int) (hft : f < t) (l : List Rn) : ∀ (lo : Int) (lv : Option Int) (out : List Rn), WF lo lv l → WF 0 none out →
    (endOf 0 none out).1 ≤ lo → ((endOf 0 none out).1 = lo → (endOf 0 none out).2 = lv) →
    WF 0 none (l.foldl (fun out r => drop2 t r (drop1 f r out)) out) ∧ ∀ x, tell (l.foldl (fun out r => drop2 t r (drop1 f r out)) out) x = (tell out x).or (if f ≤ x ∧ x < t then none else tell l x) := by
  induction l with
  | nil =>
    intro lo lv out _ ho _ _
    exact ⟨ho, fun x => by simp [tell]⟩
  | cons r l ih =>
    intro lo lv out hl ho h1 h2
    obtain ⟨l1, l2, l3, l4, l5⟩ := hl
    rw [List.foldl_cons]
    have s1 : WF 0 none (drop1 f r out) ∧ (endOf 0 none (drop1 f r out)).1 ≤ r.t ∧ ((endOf 0 none (drop1 f r out)).1 = r.t → (endOf 0 none (drop1 f r out)).2 = some r.v) ∧
        ((endOf 0 none (drop1 f r out)).1 ≤ max r.f t ∧ ((endOf 0 none (drop1 f r out)).1 = max r.f t → (endOf 0 none (drop1 f r out)).2 ≠ some r.v)) ∧
        ∀ x, tell (drop1 f r out) x = (tell out x).or (if r.f ≤ x ∧ x < r.t ∧ x < f then some r.v else none) := by
      unfold drop1
      split
      · rename_i hc
        refine ⟨WF_snoc ho (by simp only; omega) (fun e => ?_) (by simp only; omega) (by simp only; omega), ?_, ?_, ?_, fun x => ?_⟩
        · simp only at e ⊢
          rw [h2 (by omega)]
          exact l2 (by omega)
        · rw [endOf_snoc]; simp only; omega
        · rw [endOf_snoc]; simp
        · rw [endOf_snoc]; simp only; exact ⟨by omega, fun e => by omega⟩
        · rw [tell_snoc]
          simp only
          by_cases hx : r.f ≤ x ∧ x < r.t ∧ x < f
          · rw [if_pos hx, if_pos (by omega)]
          · rw [if_neg hx, if_neg (by omega)]
      · refine ⟨ho, by omega, fun e => by omega, ⟨by omega, fun e => ?_⟩, fun x => by rw [if_neg (by omega), Option.or_none]⟩
        rw [h2 (by omega)]
        exact l2 (by omega)
    obtain ⟨a1, b1, b2, b3, c1⟩ := s1
    have s2 : WF 0 none (drop2 t r (drop1 f r out)) ∧ (endOf 0 none (drop2 t r (drop1 f r out))).1 ≤ r.t ∧ ((endOf 0 none (drop2 t r (drop1 f r out))).1 = r.t → (endOf 0 none (drop2 t r (drop1 f r out))).2 = some r.v) ∧
        ∀ x, tell (drop2 t r (drop1 f r out)) x = (tell (drop1 f r out) x).or (if r.f ≤ x ∧ x < r.t ∧ t ≤ x then some r.v else none) := by
      unfold drop2
      split
      · rename_i hc
        refine ⟨WF_snoc a1 b3.1 (fun e => b3.2 e.symm) (by simp only; omega) (by simp only; omega), by rw [endOf_snoc]; simp, by rw [endOf_snoc]; simp, fun x => ?_⟩
        rw [tell_snoc]
        simp only
        by_cases hx : r.f ≤ x ∧ x < r.t ∧ t ≤ x
        · rw [if_pos hx, if_pos (by omega)]
        · rw [if_neg hx, if_neg (by omega)]
      · exact ⟨a1, b1, b2, fun x => by rw [if_neg (by omega), Option.or_none]⟩
    obtain ⟨a2, d1, d2, c2⟩ := s2
    obtain ⟨a, c⟩ := ih r.t (some r.v) _ l5 a2 d1 d2
    refine ⟨a, fun x => ?_⟩
    rw [c, c2, c1]
    simp only [tell]
    by_cases hx : f ≤ x ∧ x < t
    · rw [if_pos hx, if_pos hx, if_neg (by omega), if_neg (by omega)]
      cases tell out x <;> rfl
    · rw [if_neg hx, if_neg hx]
      by_cases hy : r.f ≤ x ∧ x < r.t
      · rw [if_pos hy]
        by_cases hz : x < f
        · rw [if_pos (show r.f ≤ x ∧ x < r.t ∧ x < f by omega)]
          cases tell out x <;> rfl
        · rw [if_neg (by omega), if_pos (show r.f ≤ x ∧ x < r.t ∧ t ≤ x by omega)]
          cases tell out x <;> rfl
      · rw [if_neg (by omega), if_neg (by omega), if_neg hy]
        cases tell out x <;> rfl
theorem dropTo_spec {l : List Rn} (h : WF 0 none l) {f t : Int} (hft : f < t) : WF 0 none (dropTo f t l) ∧ ∀ x, tell (dropTo f t l) x = if f ≤ x ∧ x < t then none else tell l x := by
  obtain ⟨a, b⟩ := drop_go f t hft l 0 none [] h trivial (Int.le_refl _) (fun _ => rfl)
  exact ⟨a, fun x => by unfold dropTo; rw [b]; simp [tell]⟩

end Go.Proofs.Ytjiabibnbpjhaaa
