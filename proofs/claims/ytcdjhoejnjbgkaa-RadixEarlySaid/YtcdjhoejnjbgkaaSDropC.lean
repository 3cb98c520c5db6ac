/- At string: The contract of a node's drop, at the side of a bit that is one; and whole. -/
import Derived.Test.YtcdjhoejnjbgkaaMaps
import Derived.Test.YtcdjhoejnjbgkaaSDropB
namespace Go.Proofs.Ytcdjhoejnjbgkaa.St
open Go.RowKit

set_option maxRecDepth 100000 in
/-- The side of a bit that is one. -/
theorem drop_one (b pr i k : Nat) (z o : Nd) (w : World) (h : At w (some ⟨b, 0, none⟩) (.br pr i z o)) (hk : k < 2 ^ 64) (hi : i < 64) (hm : z.many + o.many ≤ 1000000)
    (hp : k / 2 ^ i / 2 = pr) (hb : k / 2 ^ i % 2 = 1) (hdm : ∀ z', o.drop k = some z' → z'.many ≤ o.many)
    (ih : ∀ (p : Option Addr) (w : World), At w p o → Calls Try.prog 40 #[.pointer p, .int .u64 k] w (OPost w (o.drop k))) :
    Calls Try.prog 40 #[.pointer (some ⟨b, 0, none⟩), .int .u64 k] w (OPost w (oneO pr i z (o.drop k))) := by
  have hh := Lib.hid h
  obtain ⟨b', zp, op, e, hc, hz, ho⟩ := h
  cases e
  have hkey : (Nd.br pr i z o).key = pr * 2 ^ (i + 1) := rfl
  rw [hkey] at hc
  have HC := Lib.hid hc
  have HZ := Lib.hid hz
  obtain ⟨zb, rfl⟩ := at_some hz
  obtain ⟨ob, rfl⟩ := at_some ho
  have HO := Lib.hid ho
  obtain ⟨c0, c1, c2, c3, c4, c5, c6, cb⟩ := hc
  clear cb
  have hi0 : ¬ ((i : Int) < 0) := by omega
  have hka := and1 k i hk
  have hb0 : (bits BinOp.and IntKind.u64 ((k : Int) / 2 ^ i) 1 == 0) = false := by rw [hka, hb]; rfl
  have hq : (((k : Int) / 2 ^ i / 2) == (((pr * 2 ^ (i + 1) : Nat) : Int) / 2 ^ i / 2)) = true := by
    have e1 : ((k : Int) / 2 ^ i / 2) = ((k / 2 ^ i / 2 : Nat) : Int) := by simp
    have e2 : (((pr * 2 ^ (i + 1) : Nat) : Int) / 2 ^ i / 2) = ((pr * 2 ^ (i + 1) / 2 ^ i / 2 : Nat) : Int) := by simp
    have e3 : pr * 2 ^ (i + 1) / 2 ^ i / 2 = pr := by rw [← div_succ]; exact Nat.mul_div_cancel _ (Nat.two_pow_pos _)
    rw [e1, e2, hp, e3]; simp
  have HQ := Lib.hid hq
  have HP := Lib.hid hp
  clear hz ho hkey hka hb hq hp
  go_enter Try.func40, Try.ntmps40
  go_wp2_with fail
  refine (above_br b _ _ i _ _ _ _ _ _ HC.out hi).mono ?_
  rw [HQ.out]
  rintro e w1 ⟨rfl, hx1⟩
  obtain ⟨d0, d1, d2, d3, d4, d5, d6, db⟩ := HC.out.ext hx1
  clear db
  clear c0 c1 c2 c3 c4 c5 c6
  go_wp2_with fail
  go_region
  have hdr : Ext w1 w1.drew := (Ext.refl _).drew
  have AO := (HO.out.ext hx1).ext hdr
  have HX := hx1.trans hdr
  go_wp2_with fail
  refine (ih _ _ AO).mono ?_
  rintro e w2 ⟨np, rfl, HN, hx2⟩
  have AO2 := AO.ext hx2
  have AZ2 := (HZ.out.ext HX).ext hx2
  have HX2 := HX.trans hx2
  replace d2 := hx2.cell (hdr.cell d2)
  replace d3 := hx2.cell (hdr.cell d3)
  replace d4 := hx2.cell (hdr.cell d4)
  have m1 := (at_md AZ2).1
  have m2 := (at_md AZ2).2
  have hom := z.depth_lt
  clear AO HX hx1 hx2 hdr d0 d1 d5 d6
  cases hd : o.drop k with
  | none =>
    rw [hd] at HN
    obtain rfl : np = none := HN
    go_wp2
    go_ret
    exact ⟨_, rfl, by rw [hd]; exact AZ2, HX2⟩
  | some z' =>
    rw [hd] at HN
    have HN2 : At w2 np z' := HN
    obtain ⟨nb, rfl⟩ := at_some HN2
    by_cases e : nb = ob
    · subst e
      have HH := Lib.hid (at_swap_one (HC.out.ext HX2) AZ2 AO2 HN2)
      clear HN m1 m2
      have s1 := ptr_same ⟨nb, 0, none⟩ w2
      have s2 := ptr_same ⟨zb, 0, none⟩ w2
      go_wp2
      go_ret
      exact ⟨_, rfl, by rw [hd]; exact HH.out, HX2⟩
    · have hzm := hdm z' hd
      have hzd := z'.depth_lt
      have n1 := (at_md HN2).1
      have n2 := (at_md HN2).2
      have HKJ := Lib.hid (key_join k i)
      have s1 := ptr_other HN2 AO2 e
      have s2 := ptr_same ⟨zb, 0, none⟩ w2
      clear HN
      go_wp2_with fail
      refine (part_calls k i zb nb _ _ _ _ _ (by omega) (by omega) hi m1 m2 n1 n2 (by omega) (by omega) (by omega) (by omega) (by omega) (by omega) (by omega) (by omega)).mono ?_
      rintro e w3 ⟨rb, rfl, HR, hx3⟩
      rw [HKJ.out, HP.out] at HR
      go_wp2
      go_ret
      refine ⟨_, rfl, ?_, HX2.trans hx3⟩
      rw [hd]
      refine ⟨rb, _, _, rfl, ?_, At.ext hx3 AZ2, At.ext hx3 HN2⟩
      have hmx : ((max z.depth z'.depth : Nat) : Int) = max (z.depth : Int) z'.depth := by omega
      simpa [Nd.many, Nd.depth, Nd.key, hmx] using HR

theorem drop_many (k : Nat) (t : Nd) : ∀ t', t.drop k = some t' → t'.many ≤ t.many := by
  induction t with
  | leaf k' v' => intro t' h; unfold Nd.drop at h; split at h <;> simp at h; subst h; exact Nat.le_refl _
  | br p b z o hz ho =>
    intro t' h
    unfold Nd.drop at h
    split at h
    · split at h
      · cases hd : z.drop k with
        | none => rw [hd] at h; simp at h; subst h; simp [Nd.many]
        | some z' => rw [hd] at h; simp at h; subst h; have := hz z' hd; simp only [Nd.many]; omega
      · cases hd : o.drop k with
        | none => rw [hd] at h; simp at h; subst h; simp [Nd.many]
        | some z' => rw [hd] at h; simp at h; subst h; have := ho z' hd; simp only [Nd.many]; omega
    · simp at h; subst h; exact Nat.le_refl _

theorem drop_calls (k : Nat) (hk : k < 2 ^ 64) : ∀ (t : Nd) (p : Option Addr) (w : World), At w p t → t.WF → t.many ≤ 1000000 →
    Calls Try.prog 40 #[.pointer p, .int .u64 k] w (OPost w (t.drop k)) := by
  intro t
  induction t with
  | leaf k' v' =>
    rintro p w ⟨b, rfl, h⟩ hwf _
    by_cases he : k' = k
    · subst he
      have := drop_same b k' v' w h
      simpa [Nd.drop] using this
    · have := drop_other b k' k v' w h he
      simpa [Nd.drop, he] using this
  | br pr i z o hz ho =>
    rintro p w h hwf hm
    obtain ⟨b, rfl⟩ := at_some h
    obtain ⟨h0, h1, h2, h3, h4⟩ := hwf
    have hmm : z.many + o.many ≤ 1000000 := hm
    by_cases hp : k / 2 ^ i / 2 = pr
    · by_cases hb : k / 2 ^ i % 2 = 0
      · have := drop_zero b pr i k z o w h hk h0 hmm hp hb (drop_many k z) (fun p w hat => hz p w hat h1 (by omega))
        have e : (Nd.br pr i z o).drop k = zeroO pr i o (z.drop k) := by
          conv => lhs; unfold Nd.drop
          rw [if_pos hp, if_pos hb]; cases z.drop k <;> rfl
        rw [e]; exact this
      · have := drop_one b pr i k z o w h hk h0 hmm hp (by omega) (drop_many k o) (fun p w hat => ho p w hat h2 (by omega))
        have e : (Nd.br pr i z o).drop k = oneO pr i z (o.drop k) := by
          conv => lhs; unfold Nd.drop
          rw [if_pos hp, if_neg hb]; cases o.drop k <;> rfl
        rw [e]; exact this
    · have := drop_far b pr i k z o w h h0 hp
      simpa [Nd.drop, hp] using this
end Go.Proofs.Ytcdjhoejnjbgkaa.St
