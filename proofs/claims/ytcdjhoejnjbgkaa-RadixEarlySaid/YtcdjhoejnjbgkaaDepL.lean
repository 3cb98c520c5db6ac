/- The depth of a radix tree is what the reference says: in plain Lean. -/
import Derived.Test.YtcdjhoejnjbgkaaDepR
namespace Go.Proofs.Ytcdjhoejnjbgkaa

/-- The bits on the way to a number. -/
def Nd.path (k : Nat) : Nd → List Nat
  | .leaf _ _ => []
  | .br _ b z o => b :: (if k / 2 ^ b % 2 = 0 then z.path k else o.path k)

theorem Nd.two {t : Nd} (h : t.WF) {m : Nat} (hm : m < t.bits) : ∃ x ∈ t.toL, ∃ y ∈ t.toL, x.k / 2 ^ m ≠ y.k / 2 ^ m := by
  cases t with
  | leaf k v => simp [Nd.bits] at hm
  | br p b z o =>
    obtain ⟨_, h1, h2, h3, h4⟩ := h
    obtain ⟨x, hx⟩ := List.exists_mem_of_ne_nil _ z.toL_ne
    obtain ⟨y, hy⟩ := List.exists_mem_of_ne_nil _ o.toL_ne
    refine ⟨x, List.mem_append.2 (.inl hx), y, List.mem_append.2 (.inr hy), fun e => ?_⟩
    have hmb : m ≤ b := by simp only [Nd.bits] at hm; omega
    have := div_le hmb e
    rw [h3 x hx, h4 y hy] at this
    omega
theorem Nd.bits_le {t : Nd} (h : t.WF) {b q : Nat} (hq : ∀ e ∈ t.toL, e.k / 2 ^ b = q) : t.bits ≤ b := by
  apply Nat.le_of_not_lt
  intro hlt
  obtain ⟨x, hx, y, hy, hne⟩ := Nd.two h hlt
  exact hne (by rw [hq x hx, hq y hy])

theorem path_lt {t : Nd} (h : t.WF) (k : Nat) : ∀ b ∈ t.path k, b < t.bits := by
  induction t with
  | leaf => simp [Nd.path]
  | br p b z o hz ho =>
    obtain ⟨_, h1, h2, h3, h4⟩ := h
    have bz := Nd.bits_le h1 h3
    have bo := Nd.bits_le h2 h4
    intro c hc
    simp only [Nd.path, List.mem_cons] at hc
    simp only [Nd.bits]
    rcases hc with rfl | hc
    · omega
    · split at hc
      · have := hz h1 c hc; omega
      · have := ho h2 c hc; omega
theorem path_nodup {t : Nd} (h : t.WF) (k : Nat) : (t.path k).Nodup := by
  induction t with
  | leaf => simp [Nd.path]
  | br p b z o hz ho =>
    obtain ⟨_, h1, h2, h3, h4⟩ := h
    have bz := Nd.bits_le h1 h3
    have bo := Nd.bits_le h2 h4
    simp only [Nd.path, List.nodup_cons]
    split
    · exact ⟨fun hc => by have := path_lt h1 k b hc; omega, hz h1⟩
    · exact ⟨fun hc => by have := path_lt h2 k b hc; omega, ho h2⟩
theorem path_len_le (t : Nd) (k : Nat) : (t.path k).length ≤ t.depth := by
  induction t with
  | leaf => simp [Nd.path]
  | br p b z o hz ho =>
    simp only [Nd.path, Nd.depth, List.length_cons]
    split <;> omega
theorem path_most {t : Nd} (h : t.WF) : ∃ e ∈ t.toL, (t.path e.k).length = t.depth := by
  induction t with
  | leaf k v => exact ⟨⟨k, v⟩, by simp [Nd.toL], rfl⟩
  | br p b z o hz ho =>
    obtain ⟨_, h1, h2, h3, h4⟩ := h
    obtain ⟨x, hx, ex⟩ := hz h1
    obtain ⟨y, hy, ey⟩ := ho h2
    rcases Nat.le_total o.depth z.depth with hle | hle
    · refine ⟨x, List.mem_append.2 (.inl hx), ?_⟩
      have : x.k / 2 ^ b % 2 = 0 := by rw [h3 x hx]; omega
      simp only [Nd.path, Nd.depth, List.length_cons, this, if_true, ex]; omega
    · refine ⟨y, List.mem_append.2 (.inr hy), ?_⟩
      have : ¬ y.k / 2 ^ b % 2 = 0 := by rw [h4 y hy]; omega
      simp only [Nd.path, Nd.depth, List.length_cons, this, if_false, ey]; omega
theorem depth_bits {t : Nd} (h : t.WF) : t.depth ≤ t.bits := by
  induction t with
  | leaf => simp [Nd.depth]
  | br p b z o hz ho =>
    obtain ⟨_, h1, h2, h3, h4⟩ := h
    have bz := Nd.bits_le h1 h3
    have bo := Nd.bits_le h2 h4
    have := hz h1
    have := ho h2
    simp only [Nd.depth, Nd.bits]; omega
theorem depth_64 {t : Nd} (h : t.WF) : t.depth ≤ 64 := by
  have h1 := depth_bits h
  cases t with
  | leaf => simp [Nd.depth]
  | br p b z o => have := h.1; simp only [Nd.bits] at h1; omega

theorem path_mem {t : Nd} (h : t.WF) {e : Pr} (he : e ∈ t.toL) (c : Nat) : c ∈ t.path e.k ↔ ∃ x ∈ t.toL, x.k ≠ e.k ∧ (e.k ^^^ x.k).log2 = c := by
  induction t with
  | leaf k v =>
    simp [Nd.toL] at he
    subst he
    simp [Nd.path, Nd.toL]
  | br p b z o hz ho =>
    obtain ⟨_, h1, h2, h3, h4⟩ := h
    have far : ∀ {x y : Pr}, x.k / 2 ^ b = 2 * p → y.k / 2 ^ b = 2 * p + 1 → x.k ≠ y.k ∧ (x.k ^^^ y.k).log2 = b := by
      intro x y hx hy
      refine ⟨fun e => by rw [e, hy] at hx; omega, xor_unique ?_ ?_⟩
      · rw [div_succ, div_succ, hx, hy]; omega
      · rw [hx, hy]; omega
    rcases List.mem_append.1 he with he | he
    · have hb := h3 e he
      have hb0 : e.k / 2 ^ b % 2 = 0 := by omega
      simp only [Nd.path, hb0, if_true, List.mem_cons]
      rw [hz h1 he]
      constructor
      · rintro (rfl | ⟨x, hx, hh⟩)
        · obtain ⟨y, hy⟩ := List.exists_mem_of_ne_nil _ o.toL_ne
          exact ⟨y, List.mem_append.2 (.inr hy), (far hb (h4 y hy)).1.symm, (far hb (h4 y hy)).2⟩
        · exact ⟨x, List.mem_append.2 (.inl hx), hh⟩
      · rintro ⟨x, hx, hne, hc⟩
        rcases List.mem_append.1 hx with hx | hx
        · exact .inr ⟨x, hx, hne, hc⟩
        · exact .inl (hc.symm.trans (far hb (h4 x hx)).2)
    · have hb := h4 e he
      have hb0 : ¬ e.k / 2 ^ b % 2 = 0 := by omega
      simp only [Nd.path, hb0, if_false, List.mem_cons]
      rw [ho h2 he]
      constructor
      · rintro (rfl | ⟨x, hx, hh⟩)
        · obtain ⟨y, hy⟩ := List.exists_mem_of_ne_nil _ z.toL_ne
          have := far (h3 y hy) hb
          exact ⟨y, List.mem_append.2 (.inl hy), this.1, by rw [Nat.xor_comm]; exact this.2⟩
        · exact ⟨x, List.mem_append.2 (.inr hx), hh⟩
      · rintro ⟨x, hx, hne, hc⟩
        rcases List.mem_append.1 hx with hx | hx
        · have := far (h3 x hx) hb
          rw [Nat.xor_comm] at hc
          exact .inl (hc.symm.trans this.2)
        · exact .inr ⟨x, hx, hne, hc⟩

theorem nodup_le {l m : List Nat} (h : l.Nodup) (hs : ∀ x ∈ l, x ∈ m) : l.length ≤ m.length := by
  induction l generalizing m with
  | nil => simp
  | cons a l ih =>
    obtain ⟨h1, h2⟩ := List.nodup_cons.1 h
    have ha := hs a (by simp)
    have := ih (m := m.erase a) h2 (fun x hx => (List.mem_erase_of_ne (fun (e : x = a) => h1 (by rw [← e]; exact hx))).2 (hs x (by simp [hx])))
    rw [List.length_erase_of_mem ha] at this
    have := List.length_pos_of_mem ha
    simp; omega

theorem seenTo_mem (l : List Pr) (i k c : Nat) : c ∈ seenTo l i k ↔ ∃ j, j < k ∧ j ≠ i ∧ (kAt l i ^^^ kAt l j).log2 = c := by
  induction k with
  | zero => simp [seenTo]
  | succ k ih =>
    have e : ∀ s : List Nat, ∀ b, c ∈ ins s b ↔ c ∈ s ∨ c = b := by
      intro s b
      unfold ins
      split
      · rename_i hb
        exact ⟨fun h => .inl h, fun h => h.elim id (fun h => h ▸ hb)⟩
      · simp
    unfold seenTo
    split
    · rename_i hk
      rw [ih]
      constructor
      · rintro ⟨j, hj, hh⟩; exact ⟨j, by omega, hh⟩
      · rintro ⟨j, hj, hne, hh⟩; exact ⟨j, by omega, hne, hh⟩
    · rename_i hk
      rw [e, ih]
      constructor
      · rintro (⟨j, hj, hh⟩ | rfl)
        · exact ⟨j, by omega, hh⟩
        · exact ⟨k, by omega, hk, rfl⟩
      · rintro ⟨j, hj, hne, hh⟩
        by_cases hjk : j = k
        · subst hjk; exact .inr hh.symm
        · exact .inl ⟨j, by omega, hne, hh⟩
theorem seenTo_nodup (l : List Pr) (i k : Nat) : (seenTo l i k).Nodup := by
  induction k with
  | zero => simp [seenTo]
  | succ k ih =>
    unfold seenTo
    split
    · exact ih
    · unfold ins
      split
      · exact ih
      · rename_i h
        rw [List.nodup_append]
        exact ⟨ih, by simp, fun a ha b hb => by simp at hb; subst hb; exact fun e => h (e ▸ ha)⟩

theorem seen_path {t : Nd} (h : t.WF) {i : Nat} (hi : i < t.toL.length) : (seenTo t.toL i t.toL.length).length = (t.path (t.toL[i]).k).length := by
  have hup := Nd.up h
  have hmem : ∀ c, c ∈ seenTo t.toL i t.toL.length ↔ c ∈ t.path (t.toL[i]).k := by
    intro c
    rw [seenTo_mem, path_mem h (List.getElem_mem hi)]
    constructor
    · rintro ⟨j, hj, hne, hh⟩
      refine ⟨t.toL[j], List.getElem_mem hj, ?_, ?_⟩
      · rcases Nat.lt_or_gt_of_ne hne with hlt | hlt
        · have := List.pairwise_iff_getElem.1 hup j i hj hi hlt; omega
        · have := List.pairwise_iff_getElem.1 hup i j hi hj hlt; omega
      · rw [kAt_eq hi, kAt_eq hj] at hh; exact hh
    · rintro ⟨x, hx, hne, hh⟩
      obtain ⟨j, hj, rfl⟩ := List.mem_iff_getElem.1 hx
      refine ⟨j, hj, ?_, ?_⟩
      · rintro rfl; exact hne rfl
      · rw [kAt_eq hi, kAt_eq hj]; exact hh
  exact Nat.le_antisymm (nodup_le (seenTo_nodup _ _ _) fun x hx => (hmem x).1 hx) (nodup_le (path_nodup h _) fun x hx => (hmem x).2 hx)

theorem depthTo_max (l : List Pr) (n : Nat) : (∀ i, i < n → (seenTo l i l.length).length ≤ depthTo l n) ∧ (∀ d, (∀ i, i < n → (seenTo l i l.length).length ≤ d) → depthTo l n ≤ d) := by
  induction n with
  | zero => exact ⟨fun i hi => by omega, fun d _ => by simp [depthTo]⟩
  | succ n ih =>
    simp only [depthTo]
    refine ⟨fun i hi => ?_, fun d hd => ?_⟩
    · by_cases e : i = n
      · subst e; omega
      · have := ih.1 i (by omega); omega
    · have h1 := ih.2 d (fun i hi => hd i (by omega))
      have h2 := hd n (by omega)
      omega
theorem depth_ok {t : Option Nd} (h : Nd.oWF t) : depthTo (Nd.oL t) (Nd.oL t).length = depthO t := by
  cases t with
  | none => rfl
  | some t =>
    have hh : t.WF := h
    show depthTo t.toL t.toL.length = t.depth
    obtain ⟨a, b⟩ := depthTo_max t.toL t.toL.length
    apply Nat.le_antisymm
    · exact b _ fun i hi => by rw [seen_path hh hi]; exact path_len_le t _
    · obtain ⟨e, he, hd⟩ := path_most hh
      obtain ⟨i, hi, rfl⟩ := List.mem_iff_getElem.1 he
      rw [← hd, ← seen_path hh hi]; exact a i hi
end Go.Proofs.Ytcdjhoejnjbgkaa
