/- The contract of a node's put, at the node of a bit. -/
import Derived.Test.YtcdjhoejnjbgkaaPutN
import Derived.Deep.RegionHeld3
import Derived.Deep.DeepCutAuto
namespace Go.Proofs.Ytcdjhoejnjbgkaa
open Go.RowKit

theorem at_some {w : World} {p : Option Addr} {t : Nd} (h : At w p t) : ∃ b, p = some ⟨b, 0, none⟩ := by
  cases t with
  | leaf k v => obtain ⟨b, e, _⟩ := h; exact ⟨b, e⟩
  | br pr i z o => obtain ⟨b, _, _, e, _⟩ := h; exact ⟨b, e⟩
theorem at_md {w : World} {b : Nat} {t : Nd} (h : At w (some ⟨b, 0, none⟩) t) : w.cell? ⟨b, 5, none⟩ = some (.int .i64 t.many) ∧ w.cell? ⟨b, 6, none⟩ = some (.int .i64 t.depth) := by
  cases t with
  | leaf k v => obtain ⟨b', e, h⟩ := h; cases e; exact ⟨h.c5, h.c6⟩
  | br pr i z o => obtain ⟨b', _, _, e, h, _⟩ := h; cases e; exact ⟨h.c5, h.c6⟩
theorem put_many (k : Nat) (v : Int) (t : Nd) : (t.put k v).many ≤ t.many + 1 := by
  induction t with
  | leaf k' v' => unfold Nd.put; split <;> (try unfold Nd.join) <;> (try split) <;> simp [Nd.many]
  | br p b z o hz ho =>
    unfold Nd.put
    split
    · split <;> simp only [Nd.many] <;> omega
    · unfold Nd.join; split <;> simp [Nd.many] <;> omega

/-- Put into the side of a bit that is nought. -/
theorem put_zero (b : Nat) (pr i k : Nat) (v : Int) (z o : Nd) (w : World) (h : At w (some ⟨b, 0, none⟩) (.br pr i z o)) (hk : k < 2 ^ 64) (hi : i < 64) (hm : z.many + o.many ≤ 1000000)
    (hp : k / 2 ^ i / 2 = pr) (hb : k / 2 ^ i % 2 = 0)
    (ih : ∀ (p : Option Addr) (w : World), At w p z → Calls Try.prog 37 #[.pointer p, .int .u64 k, .int .i64 v] w (NodePost w (z.put k v))) :
    Calls Try.prog 37 #[.pointer (some ⟨b, 0, none⟩), .int .u64 k, .int .i64 v] w (NodePost w (.br pr i (z.put k v) o)) := by
  obtain ⟨b', zp, op, e, hc, hz, ho⟩ := h
  cases e
  have hx : Ext w (w.alloc (.cells #[.int .u64 k, .int .i64 v, .int .i64 (-1), .pointer none, .pointer none, .int .i64 1, .int .i64 0] 69)) := (Ext.refl w).alloc _
  have hc' := hc.ext hx
  have hkey : (Nd.br pr i z o).key = pr * 2 ^ (i + 1) := rfl
  rw [hkey] at hc'
  have HC := Lib.hid hc'
  have hz' := hz.ext hx
  have ho' := ho.ext hx
  have HZ := Lib.hid hz'
  have HO := Lib.hid ho'
  obtain ⟨c0, c1, c2, c3, c4, c5, c6, cb⟩ := hc'
  clear cb
  have hi0 : ¬ ((i : Int) < 0) := by omega
  clear hc hz ho hz' ho' hkey
  have hka := and1 k i hk
  have hb0 : (bits BinOp.and IntKind.u64 ((k : Int) / 2 ^ i) 1 == 0) = true := by rw [hka, hb]; rfl
  have hq : (((k : Int) / 2 ^ i / 2) == (((pr * 2 ^ (i + 1) : Nat) : Int) / 2 ^ i / 2)) = true := by
    have e1 : ((k : Int) / 2 ^ i / 2) = ((k / 2 ^ i / 2 : Nat) : Int) := by simp
    have e2 : (((pr * 2 ^ (i + 1) : Nat) : Int) / 2 ^ i / 2) = ((pr * 2 ^ (i + 1) / 2 ^ i / 2 : Nat) : Int) := by simp
    have e3 : pr * 2 ^ (i + 1) / 2 ^ i / 2 = pr := by rw [← div_succ]; exact Nat.mul_div_cancel _ (Nat.two_pow_pos _)
    rw [e1, e2, hp, e3]; simp
  have HQ := Lib.hid hq
  have HP := Lib.hid hp
  clear hka hb hq hp
  have hzm := z.depth_lt
  have hom := o.depth_lt
  have hpm := put_many k v z
  have hpd := (z.put k v).depth_lt
  have HL := Lib.hid (And.intro hzm (And.intro hom (And.intro hpm hpd)))
  clear hzm hom hpm hpd
  go_enter Try.func37, Try.ntmps37
  go_wp2_with fail
  refine (above_br b _ _ i _ _ _ _ _ _ HC.out hi).mono ?_
  rw [HQ.out]
  rintro e w1 ⟨rfl, hx1⟩
  obtain ⟨d0, d1, d2, d3, d4, d5, d6, db⟩ := HC.out.ext hx1
  clear db
  clear c0 c1 c2 c3 c4 c5 c6
  go_upto_region 6 with (fail)
  have hdr : Ext w1 w1.drew := (Ext.refl _).drew
  replace d2 := hdr.cell d2
  replace d3 := hdr.cell d3
  replace d4 := hdr.cell d4
  have AZ := (HZ.out.ext hx1).ext hdr
  have AO := (HO.out.ext hx1).ext hdr
  have HX := (hx.trans hx1).trans hdr
  obtain ⟨ob, rfl⟩ := at_some AO
  clear d0 d1 d5 d6 hx hx1 hdr
  have m1 := (at_md AO).1
  have m2 := (at_md AO).2
  have HKJ := Lib.hid (key_join k i)
  go_region_held3 (fun w' => w'.cell? ⟨b, 2, none⟩ = some (.int .i64 i) ∧ w'.cell? ⟨b, 3, none⟩ = some (.pointer zp) ∧ w'.cell? ⟨b, 4, none⟩ = some (.pointer (some ⟨ob, 0, none⟩))) (exact ⟨d2, d3, d4⟩)
    (first
      | (go_at_call 37
         refine (ih zp _ AZ).mono ?_
         rintro e wn ⟨nb, rfl, HN, hx⟩
         replace AO := AO.ext hx
         replace HX := HX.trans hx
         replace d2 := hx.cell d2
         replace d3 := hx.cell d3
         replace d4 := hx.cell d4
         replace m1 := hx.cell m1
         replace m2 := hx.cell m2
         have n1 := (at_md HN).1
         have n2 := (at_md HN).2
         clear hx AZ)
      | (go_at_call 43
         refine (part_calls k i nb ob _ _ _ _ _ (by omega) (by omega) hi n1 n2 m1 m2 (by omega) (by have := HL.out; omega) (by omega) (by have := HL.out; omega) (by omega) (by have := HL.out; omega) (by omega) (by have := HL.out; omega)).mono ?_
         rintro e wn ⟨rb, rfl, HR, hx⟩
         replace AO := AO.ext hx
         replace HN := HN.ext hx
         replace HX := HX.trans hx
         replace d2 := hx.cell d2
         replace d3 := hx.cell d3
         replace d4 := hx.cell d4
         clear hx))
  all_goals
    rw [HKJ.out, HP.out] at HR
    go_wp2
    go_ret
    refine ⟨rb, rfl, ⟨rb, _, _, rfl, ?_, HN, AO⟩, HX⟩
    have hmx : ((max (z.put k v).depth o.depth : Nat) : Int) = max ((z.put k v).depth : Int) o.depth := by omega
    simpa [Nd.many, Nd.depth, Nd.key, hmx] using HR
/-- Put into the side of a bit that is one. -/
theorem put_one (b : Nat) (pr i k : Nat) (v : Int) (z o : Nd) (w : World) (h : At w (some ⟨b, 0, none⟩) (.br pr i z o)) (hk : k < 2 ^ 64) (hi : i < 64) (hm : z.many + o.many ≤ 1000000)
    (hp : k / 2 ^ i / 2 = pr) (hb : k / 2 ^ i % 2 = 1)
    (ih : ∀ (p : Option Addr) (w : World), At w p o → Calls Try.prog 37 #[.pointer p, .int .u64 k, .int .i64 v] w (NodePost w (o.put k v))) :
    Calls Try.prog 37 #[.pointer (some ⟨b, 0, none⟩), .int .u64 k, .int .i64 v] w (NodePost w (.br pr i z (o.put k v))) := by
  obtain ⟨b', zp, op, e, hc, hz, ho⟩ := h
  cases e
  have hx : Ext w (w.alloc (.cells #[.int .u64 k, .int .i64 v, .int .i64 (-1), .pointer none, .pointer none, .int .i64 1, .int .i64 0] 69)) := (Ext.refl w).alloc _
  have hc' := hc.ext hx
  have hkey : (Nd.br pr i z o).key = pr * 2 ^ (i + 1) := rfl
  rw [hkey] at hc'
  have HC := Lib.hid hc'
  have hz' := hz.ext hx
  have ho' := ho.ext hx
  have HZ := Lib.hid hz'
  have HO := Lib.hid ho'
  obtain ⟨c0, c1, c2, c3, c4, c5, c6, cb⟩ := hc'
  clear cb
  have hi0 : ¬ ((i : Int) < 0) := by omega
  clear hc hz ho hz' ho' hkey
  have hka := and1 k i hk
  have hb0 : (bits BinOp.and IntKind.u64 ((k : Int) / 2 ^ i) 1 == 0) = false := by rw [hka, hb]; rfl
  have hq : (((k : Int) / 2 ^ i / 2) == (((pr * 2 ^ (i + 1) : Nat) : Int) / 2 ^ i / 2)) = true := by
    have e1 : ((k : Int) / 2 ^ i / 2) = ((k / 2 ^ i / 2 : Nat) : Int) := by simp
    have e2 : (((pr * 2 ^ (i + 1) : Nat) : Int) / 2 ^ i / 2) = ((pr * 2 ^ (i + 1) / 2 ^ i / 2 : Nat) : Int) := by simp
    have e3 : pr * 2 ^ (i + 1) / 2 ^ i / 2 = pr := by rw [← div_succ]; exact Nat.mul_div_cancel _ (Nat.two_pow_pos _)
    rw [e1, e2, hp, e3]; simp
  have HQ := Lib.hid hq
  have HP := Lib.hid hp
  clear hka hb hq hp
  have hzm := z.depth_lt
  have hom := o.depth_lt
  have hpm := put_many k v o
  have hpd := (o.put k v).depth_lt
  have HL := Lib.hid (And.intro hzm (And.intro hom (And.intro hpm hpd)))
  clear hzm hom hpm hpd
  go_enter Try.func37, Try.ntmps37
  go_wp2_with fail
  refine (above_br b _ _ i _ _ _ _ _ _ HC.out hi).mono ?_
  rw [HQ.out]
  rintro e w1 ⟨rfl, hx1⟩
  obtain ⟨d0, d1, d2, d3, d4, d5, d6, db⟩ := HC.out.ext hx1
  clear db
  clear c0 c1 c2 c3 c4 c5 c6
  go_upto_region 7 with (fail)
  have hdr : Ext w1 w1.drew := (Ext.refl _).drew
  replace d2 := hdr.cell d2
  replace d3 := hdr.cell d3
  replace d4 := hdr.cell d4
  have AZ := (HZ.out.ext hx1).ext hdr
  have AO := (HO.out.ext hx1).ext hdr
  have HX := (hx.trans hx1).trans hdr
  obtain ⟨zb, rfl⟩ := at_some AZ
  clear d0 d1 d5 d6 hx hx1 hdr
  have m1 := (at_md AZ).1
  have m2 := (at_md AZ).2
  have HKJ := Lib.hid (key_join k i)
  go_region_held3 (fun w' => w'.cell? ⟨b, 2, none⟩ = some (.int .i64 i) ∧ w'.cell? ⟨b, 3, none⟩ = some (.pointer (some ⟨zb, 0, none⟩)) ∧ w'.cell? ⟨b, 4, none⟩ = some (.pointer op)) (exact ⟨d2, d3, d4⟩)
    (first
      | (go_at_call 37
         refine (ih op _ AO).mono ?_
         rintro e wn ⟨nb, rfl, HN, hx⟩
         replace AZ := AZ.ext hx
         replace HX := HX.trans hx
         replace d2 := hx.cell d2
         replace d3 := hx.cell d3
         replace d4 := hx.cell d4
         replace m1 := hx.cell m1
         replace m2 := hx.cell m2
         have n1 := (at_md HN).1
         have n2 := (at_md HN).2
         clear hx AO)
      | (go_at_call 43
         refine (part_calls k i zb nb _ _ _ _ _ (by omega) (by omega) hi m1 m2 n1 n2 (by omega) (by have := HL.out; omega) (by omega) (by have := HL.out; omega) (by omega) (by have := HL.out; omega) (by omega) (by have := HL.out; omega)).mono ?_
         rintro e wn ⟨rb, rfl, HR, hx⟩
         replace AZ := AZ.ext hx
         replace HN := HN.ext hx
         replace HX := HX.trans hx
         replace d2 := hx.cell d2
         replace d3 := hx.cell d3
         replace d4 := hx.cell d4
         clear hx))
  all_goals
    rw [HKJ.out, HP.out] at HR
    go_wp2
    go_ret
    refine ⟨rb, rfl, ⟨rb, _, _, rfl, ?_, AZ, HN⟩, HX⟩
    have hmx : ((max z.depth (o.put k v).depth : Nat) : Int) = max (z.depth : Int) (o.put k v).depth := by omega
    simpa [Nd.many, Nd.depth, Nd.key, hmx] using HR
end Go.Proofs.Ytcdjhoejnjbgkaa
