/- A version's numbers: as the document puts them together, and as the map has them. -/
import Derived.Test.YtgcplndmhlideaaGreatRof
namespace Go.Proofs.YtgcplndmhlideaaGreat

theorem inN_cons (a n : Int) (l : List Int) : inN (a :: l) n = if a < n then inN l n + 1 else 0 := by
  unfold inN
  rw [List.takeWhile_cons]
  by_cases h : a < n <;> simp [h]
theorem withL_cons (a n : Int) (l : List Int) : withL (a :: l) n = if a < n then a :: withL l n else if a = n then a :: l else n :: a :: l := by
  unfold withL
  rw [inN_cons]
  by_cases h : a < n
  · simp only [h, if_true, List.getElem?_cons_succ, List.take_succ_cons, List.drop_succ_cons]
    split <;> simp
  · simp only [h, if_false, List.getElem?_cons_zero, Option.some.injEq, List.take_zero, List.drop_zero, List.nil_append]
theorem withL_nil (n : Int) : withL [] n = [n] := by simp [withL, inN]
def UpI (l : List Int) : Prop := l.Pairwise fun a b => a < b
theorem withL_mem {l : List Int} {n m : Int} (h : UpI l) : m ∈ withL l n ↔ m = n ∨ m ∈ l := by
  induction l with
  | nil => simp [withL_nil]
  | cons a l ih =>
    obtain ⟨h1, h2⟩ := List.pairwise_cons.1 h
    rw [withL_cons]
    split
    · rw [List.mem_cons, ih h2, List.mem_cons]
      constructor
      · rintro (h | h | h) <;> simp [h]
      · rintro (h | h | h) <;> simp [h]
    · split
      · rename_i e; subst e; simp
      · simp
theorem withL_up {l : List Int} {n : Int} (h : UpI l) : UpI (withL l n) := by
  induction l with
  | nil => rw [withL_nil]; exact List.pairwise_singleton _ _
  | cons a l ih =>
    obtain ⟨h1, h2⟩ := List.pairwise_cons.1 h
    rw [withL_cons]
    split
    · rename_i hlt
      refine List.pairwise_cons.2 ⟨fun m hm => ?_, ih h2⟩
      rcases (withL_mem h2).1 hm with e | hm
      · omega
      · exact h1 m hm
    · split
      · exact h
      · refine List.pairwise_cons.2 ⟨fun m hm => ?_, h⟩
        rcases List.mem_cons.1 hm with e | hm
        · omega
        · have := h1 m hm; omega
theorem upI_ext {l m : List Int} (hl : UpI l) (hm : UpI m) (h : ∀ e, e ∈ l ↔ e ∈ m) : l = m := by
  induction l generalizing m with
  | nil =>
    cases m with
    | nil => rfl
    | cons b m => have := (h b).2 (List.mem_cons_self ..); cases this
  | cons a l ih =>
    cases m with
    | nil => have := (h a).1 (List.mem_cons_self ..); cases this
    | cons b m =>
      obtain ⟨hl1, hl2⟩ := List.pairwise_cons.1 hl
      obtain ⟨hm1, hm2⟩ := List.pairwise_cons.1 hm
      have hab : a = b := by
        rcases List.mem_cons.1 ((h a).1 (List.mem_cons_self ..)) with e | e
        · exact e
        · rcases List.mem_cons.1 ((h b).2 (List.mem_cons_self ..)) with e2 | e2
          · exact e2.symm
          · have := hm1 _ e; have := hl1 _ e2; omega
      subst hab
      rw [ih hl2 hm2 fun e => ?_]
      constructor
      · intro he
        rcases List.mem_cons.1 ((h e).1 (List.mem_cons_of_mem _ he)) with e2 | e2
        · subst e2; have := hl1 _ he; omega
        · exact e2
      · intro he
        rcases List.mem_cons.1 ((h e).2 (List.mem_cons_of_mem _ he)) with e2 | e2
        · subst e2; have := hm1 _ he; omega
        · exact e2
theorem nos_foldl (L : List Sl) (v : Int) (l : List Int) (h : UpI l) : UpI (L.foldl (fun l s => if s.v = v then withL l s.n else l) l) ∧ ∀ m, m ∈ L.foldl (fun l s => if s.v = v then withL l s.n else l) l ↔ m ∈ l ∨ ∃ s ∈ L, s.v = v ∧ s.n = m := by
  induction L generalizing l with
  | nil => exact ⟨h, fun m => by simp⟩
  | cons s L ih =>
    simp only [List.foldl_cons]
    by_cases hv : s.v = v
    · rw [if_pos hv]
      obtain ⟨a, b⟩ := ih _ (withL_up (n := s.n) h)
      refine ⟨a, fun m => ?_⟩
      rw [b, withL_mem h]
      constructor
      · rintro ((rfl | h) | ⟨t, ht, e⟩)
        · exact .inr ⟨s, List.mem_cons_self .., hv, rfl⟩
        · exact .inl h
        · exact .inr ⟨t, List.mem_cons_of_mem _ ht, e⟩
      · rintro (h | ⟨t, ht, e1, e2⟩)
        · exact .inl (.inr h)
        · rcases List.mem_cons.1 ht with rfl | ht
          · exact .inl (.inl e2.symm)
          · exact .inr ⟨t, ht, e1, e2⟩
    · rw [if_neg hv]
      obtain ⟨a, b⟩ := ih _ h
      refine ⟨a, fun m => ?_⟩
      rw [b]
      constructor
      · rintro (h | ⟨t, ht, e⟩)
        · exact .inl h
        · exact .inr ⟨t, List.mem_cons_of_mem _ ht, e⟩
      · rintro (h | ⟨t, ht, e1, e2⟩)
        · exact .inl h
        · rcases List.mem_cons.1 ht with rfl | ht
          · exact absurd e1 hv
          · exact .inr ⟨t, ht, e1, e2⟩
/-- What the map of a version has for numbers is what the document puts together. -/
theorem nos_items {u : Int} {x : Ix} (hf : Fit u x) (v : Int) : (itemsOf x.L v).map (fun e => (e.k : Int)) = nosS x.L v := by
  obtain ⟨a, b⟩ := nos_foldl x.L v [] List.Pairwise.nil
  refine upI_ext ?_ a fun m => ?_
  · exact List.pairwise_map.2 ((items_up x.L v).imp fun h => by omega)
  · rw [show nosS x.L v = x.L.foldl (fun l s => if s.v = v then withL l s.n else l) [] from rfl, b, List.mem_map]
    constructor
    · rintro ⟨e, he, rfl⟩
      obtain ⟨s, hs, h1, h2, _⟩ := (mem_items hf.ok.dis hf.ok.n0 v e).1 he
      exact .inr ⟨s, hs, h1, h2⟩
    · rintro (h | ⟨s, hs, h1, h2⟩)
      · cases h
      · have := hf.ok.n0 s hs
        exact ⟨⟨s.n.toNat, s.b, s.c⟩, (mem_items hf.ok.dis hf.ok.n0 v _).2 ⟨s, hs, h1, by show s.n = ((s.n.toNat : Nat) : Int); omega, rfl⟩, by show ((s.n.toNat : Nat) : Int) = m; omega⟩
/-- As a law's yield is handed them. -/
theorem nos_vals {u : Int} {x : Ix} (hf : Fit u x) (v : Int) : (itemsOf x.L v).map noV = ints (nosS x.L v) := by
  rw [← nos_items hf v]
  unfold ints
  rw [List.map_map]
  refine List.map_congr_left fun e he => ?_
  obtain ⟨s, hs, _, h2, _⟩ := (mem_items hf.ok.dis hf.ok.n0 v e).1 he
  have := (hf.ok.ok s hs).2.2.2.1
  show Value.int .i64 (IntKind.i64.wrap (e.k : Int)) = .int .i64 (e.k : Int)
  rw [IntWalk.i64_in _ (by omega)]
end Go.Proofs.YtgcplndmhlideaaGreat
