/- A region that draws its order, whose operations read ahead of a last chain, within a round of a loop over a function. -/
import Derived.StillTailTactics
import Derived.OrdersIn
import Derived.TacticsIn
import Derived.RangeFuncCalls
import Derived.Deep.RegionHeld3
namespace Go.Proofs.YtgcplndmhlideaaGreat
open Go
variable {P : Program} {ops : Array Oper} {md : Region.Mode} {w : World} {m l₀ : Nat}

theorem wpInR_of_still {o : Oper} (hd : ∀ c, o.op ≠ .defer c) {a : Act} {K : Act → Prop} {K' : Act → World → Prop} {Q' : Exit → Act → World → Prop} (h : ∀ a, K a → K' a w) (hh : o.still P a w K) : o.wpIn (Fence.wide.inRound l₀) m P a w K' Q' := by
  refine ⟨fun _ _ => trivial, ?_⟩
  unfold Oper.still at hh
  have e : o.semAt (Fence.wide.inRound l₀).round a.eval = execOp a.eval o := Oper.semAt_eq _ _ _ hd
  rw [e]
  generalize (execOp a.eval o).run P w = r at *
  cases r with
  | ok n w' =>
    cases n <;> simp only [Oper.stillUpon] at hh <;> simp only [Oper.uponIn]
    case enter f args =>
      obtain ⟨rfl, v, hc, hn⟩ := hh
      exact ⟨fun h => (by cases h), CallsIn.inRound l₀ (callsIn_wide.2 (hc.mono fun e w'' ⟨he, hw⟩ => by subst he; subst hw; exact h _ hn))⟩
    all_goals (obtain ⟨rfl, h2⟩ := hh; exact h _ h2)
  | halt x w' => simp only [Oper.stillUpon] at hh

theorem wpOpInR_of_stOp (hdf : ∀ (i : Nat) (o : Oper), ops[i]? = some o → ∀ c, o.op ≠ .defer c) {i : Nat} {a : Act} {K : Act → Prop} {K' : Act → World → Prop} {Q' : Exit → Act → World → Prop} (h : ∀ a, K a → K' a w) (hh : stOp P ops w i K a) : wpOpIn (Fence.wide.inRound l₀) m P ops Q' i K' a w := by
  unfold stOp at hh
  unfold wpOpIn
  split
  · rename_i ho; simp only [ho] at hh; exact h _ hh
  · rename_i o ho
    simp only [ho] at hh
    split
    · rename_i hw; simp only [hw, if_true] at hh; exact wpInR_of_still (hdf i o ho) h hh
    · rename_i hw; simp only [hw] at hh; exact ⟨fun _ _ => trivial, h _ hh⟩

theorem wpAnyInR_of_head (hdf : ∀ (i : Nat) (o : Oper), ops[i]? = some o → ∀ c, o.op ≠ .defer c) {n g : Nat} {L : Array Bool → Act → Prop} {Q' : Exit → Act → World → Prop} (hL : ∀ listed a, L listed a → wpAnyIn (Fence.wide.inRound l₀) m P md ops Q' g listed a w) :
    ∀ (f : Nat) (listed : Array Bool) (a : Act), wpAnyL P md ops w n L f listed a → wpAnyIn (Fence.wide.inRound l₀) m P md ops Q' (f + g) listed a w
  | 0, listed, a, h => by rw [Nat.zero_add]; exact hL _ _ h
  | f + 1, listed, a, h => by
    rw [show f + 1 + g = (f + g) + 1 by omega]
    exact ⟨fun h0 => absurd h0 h.1, fun i hi => wpOpInR_of_stOp hdf (fun a' h' => wpAnyInR_of_head hdf hL f _ a' h') (h.2 i hi).2⟩

theorem wpAnyInR_of_seq {Q' : Exit → Act → World → Prop} : ∀ (l : List Oper) (k : Nat) (listed : Array Bool) (a : Act) (w : World), (∀ j, l[j]? = ops[k + j]?) →
    Region.seqB md ops l.length k listed = true → wpListIn (Fence.wide.inRound l₀) m P ops Q' l a w → wpAnyIn (Fence.wide.inRound l₀) m P md ops Q' l.length listed a w
  | [], _, _, _, _, _, hB, h => ⟨by simpa [Region.seqB] using hB, h⟩
  | o :: l, k, listed, a, w, hl, hB, h => by
    have h0 : ops[k]? = some o := by simpa using (hl 0).symm
    simp only [List.length_cons, Region.seqB, Bool.and_eq_true, decide_eq_true_eq] at hB
    refine ⟨fun h1 => (by rw [hB.1] at h1; cases h1), fun i hi => ?_⟩
    rw [hB.1] at hi
    have hik : i = k := by simpa using hi
    subst hik
    have hw : wpOpIn (Fence.wide.inRound l₀) m P ops Q' i (wpListIn (Fence.wide.inRound l₀) m P ops Q' l) a w := by unfold wpOpIn; simp only [h0]; exact h
    exact wpOpIn_mono (fun a' w' h' => wpAnyInR_of_seq l (i + 1) _ a' w' (fun j => by have := hl (j + 1); simpa [Nat.add_assoc, Nat.add_comm 1 j] using this) hB.2 h') hw

def noDefer (l : List Oper) : Bool := l.all fun o => match o.op with | .defer _ => false | _ => true
theorem noDefer_of {l : List Oper} (h : noDefer l = true) (i : Nat) (o : Oper) (hi : l.toArray[i]? = some o) : ∀ c, o.op ≠ .defer c := by
  intro c hc
  have hm : o ∈ l := by
    rw [List.getElem?_toArray] at hi
    exact List.mem_of_getElem? hi
  have := List.all_eq_true.1 h o hm
  rw [hc] at this
  cases this

theorem wpInR_region_still_tail {id : Nat} {Q : Exit → Act → World → Prop} {a : Act} {w : World} {l : List Oper} (n : Nat) (hm : P.follows .mixedOrders = true) (hB : Region.lexTailB .any l.toArray n = true) (hdf : noDefer l = true)
    (h : wpStill P l.toArray w.drew (fun a' => wpListIn (Fence.wide.inRound l₀) m P l.toArray Q (l.drop n) a' w.drew) (l.take n) a) : (Code.region id l.toArray true).wpIn (Fence.wide.inRound l₀) m P Q a w := by
  simp only [Region.lexTailB, Bool.and_eq_true, decide_eq_true_eq] at hB
  obtain ⟨⟨⟨⟨hsel, hn⟩, hs⟩, hc⟩, hlex⟩ := hB
  have hn' : n < l.length := by simpa using hn
  have htl : (l.take n).length = n := by simp; omega
  have hdl : (l.drop n).length = l.toArray.size - n := by simp
  have inv0 : HeadInv .any l.toArray n (Array.replicate l.toArray.size false) :=
    ⟨by simp, fun j oj _ hl => (by rw [getD_replicate_false] at hl; cases hl), fun t _ ht => getD_in (by simpa using ht) (getD_replicate_false _ _)⟩
  have H := wpAnyL_lex (md := .any) (g := l.toArray.size - n) hsel hs hc hn (l.take n) 0 _ a (fun j hj => by
    have hj' : j < n := by rw [htl] at hj; exact hj
    simp [hj']) (by simpa using htl) inv0 (by rw [htl]; exact hlex) h
  refine wpIn_region_any hm ?_
  have := wpAnyInR_of_head (m := m) (l₀ := l₀) (Q' := Q) (g := l.toArray.size - n) (noDefer_of hdf) (fun listed a' hL => by
    have := wpAnyInR_of_seq (m := m) (l₀ := l₀) (md := .any) (Q' := Q) (l.drop n) n listed a' w.drew (fun j => by simp [List.getElem?_drop]) (by rw [hdl]; exact hL.1) hL.2
    rwa [hdl] at this) _ _ _ H
  rw [htl, show n + (l.toArray.size - n) = l.toArray.size by omega] at this
  exact this
/-! ### A region that draws, within a round: by the plain laws. -/
theorem rowsIn_of {row : String} {args : Array Value} {R : Value → World → Prop} (h : Rows P row args w R) : RowsIn (Fence.wide.inRound l₀) m P row args w R := fun c cs _ =>
  let ⟨v, w', r, s⟩ := h c cs
  ⟨v, w', r, stepsIn_wide.2 s⟩
theorem wpInR_of_wp {o : Oper} (hd : ∀ c, o.op ≠ .defer c) {a : Act} {K : Act → World → Prop} {Q' : Exit → Act → World → Prop} (h : o.wp P a w K Q') : o.wpIn (Fence.wide.inRound l₀) m P a w K Q' := by
  refine ⟨fun _ _ => trivial, ?_⟩
  unfold Oper.wp at h
  have e : o.semAt (Fence.wide.inRound l₀).round a.eval = execOp a.eval o := Oper.semAt_eq _ _ _ hd
  rw [e]
  generalize (execOp a.eval o).run P w = r at *
  cases r with
  | ok n w' =>
    cases n <;> simp only [Oper.upon] at h <;> simp only [Oper.uponIn]
    case value => exact h
    case skip => exact h
    case defer => exact h
    case enter f args => exact ⟨fun h => (by cases h), CallsIn.inRound l₀ (callsIn_wide.2 h)⟩
    case row => exact ⟨fun h => (by cases h), rowsIn_of h⟩
  | halt x w' =>
    cases x <;> simp only [Oper.upon] at h <;> simp only [Oper.uponIn]
    exact h
def OnlyN (Q : Exit → Act → World → Prop) : Exit → Act → World → Prop
  | .normal, a, w => Q .normal a w
  | _, _, _ => False
theorem OnlyN.imp {Q : Exit → Act → World → Prop} (e : Exit) (a : Act) (w : World) (h : OnlyN Q e a w) : Q e a w := by
  cases e <;> first | exact h | exact h.elim
theorem onlyN_intro {Q : Exit → Act → World → Prop} {a : Act} {w : World} (h : Q .normal a w) : OnlyN Q .normal a w := h
theorem wpOpInR_of_wpOp (hdf : ∀ (i : Nat) (o : Oper), ops[i]? = some o → ∀ c, o.op ≠ .defer c) {Q : Exit → Act → World → Prop} (hno : ¬ LetsOut Q) {i : Nat} {a : Act} {K : Act → World → Prop} (h : wpOp P ops Q i K a w) : wpOpIn (Fence.wide.inRound l₀) m P ops Q i K a w := by
  unfold wpOp at h
  unfold wpOpIn
  split
  · rename_i ho; simp only [ho] at h; exact h
  · rename_i o ho
    simp only [ho] at h
    split
    · rename_i hw
      simp only [hw, if_true] at h
      rcases h with h | h
      · exact wpInR_of_wp (hdf i o ho) h
      · exact absurd h.2 hno
    · rename_i hw; simp only [hw] at h; exact ⟨fun _ _ => trivial, h⟩
theorem wpAnyInR_of_wpAny (hdf : ∀ (i : Nat) (o : Oper), ops[i]? = some o → ∀ c, o.op ≠ .defer c) {Q : Exit → Act → World → Prop} (hno : ¬ LetsOut Q) :
    ∀ (f : Nat) (listed : Array Bool) (a : Act) (w : World), wpAny P md ops Q f listed a w → wpAnyIn (Fence.wide.inRound l₀) m P md ops Q f listed a w
  | 0, _, _, _, h => h
  | f + 1, _, _, _, h => ⟨h.1, fun i hi => wpOpInR_of_wpOp hdf hno (wpOp_mono (fun a' w' h' => wpAnyInR_of_wpAny hdf hno f _ a' w' h') (h.2 i hi))⟩
theorem wpInR_region_held_drew {id : Nat} {Q : Exit → Act → World → Prop} {a : Act} {w : World} {l : List Oper} {S : World → Prop} (hm : P.follows .mixedOrders = true) (hdf : noDefer l = true) (hS : S w.drew)
    (h : S w.drew → wpAnyH P .any l.toArray (OnlyN Q) S l.toArray.size (Array.replicate l.toArray.size false) a w.drew) : (Code.region id l.toArray true).wpIn (Fence.wide.inRound l₀) m P Q a w :=
  wpIn_mono (wpIn_region_any hm (wpAnyInR_of_wpAny (noDefer_of hdf) (fun ⟨_, _, h⟩ => h) _ _ _ _ (wpAny_of_held _ _ _ _ (h hS)))) OnlyN.imp
end Go.Proofs.YtgcplndmhlideaaGreat
