/- The contract of a node's drop, at the node of a bit. -/
import Derived.Test.YtcdjhoejnjbgkaaDropN
import Derived.LaidEqlPtr
namespace Go.Proofs.Ytcdjhoejnjbgkaa
open Go.RowKit

/-- What is at a place has one size and one depth. -/
theorem at_many {w : World} {t t' : Nd} {p : Option Addr} (h : At w p t) (h' : At w p t') : t.many = t'.many ∧ t.depth = t'.depth := by
  obtain ⟨b, rfl⟩ := at_some h
  have e1 := (at_md h).1.symm.trans (at_md h').1
  have e2 := (at_md h).2.symm.trans (at_md h').2
  simp at e1 e2
  exact ⟨by omega, by omega⟩
theorem at_swap_zero {w : World} {b pr i : Nat} {zp op : Option Addr} {z z' o : Nd} (h : Cells w b (((Nd.br pr i z o).key : Nat) : Int) 0 i zp op (Nd.br pr i z o).many (Nd.br pr i z o).depth) (hz : At w zp z) (hz' : At w zp z') (ho : At w op o) : At w (some ⟨b, 0, none⟩) (.br pr i z' o) := by
  obtain ⟨e1, e2⟩ := at_many hz hz'
  have e3 : (Nd.br pr i z o).many = (Nd.br pr i z' o).many := by simp only [Nd.many, e1]
  have e4 : (Nd.br pr i z o).depth = (Nd.br pr i z' o).depth := by simp only [Nd.depth, e2]
  rw [e3, e4] at h
  exact ⟨b, zp, op, rfl, h, hz', ho⟩
theorem at_swap_one {w : World} {b pr i : Nat} {zp op : Option Addr} {z o o' : Nd} (h : Cells w b (((Nd.br pr i z o).key : Nat) : Int) 0 i zp op (Nd.br pr i z o).many (Nd.br pr i z o).depth) (hz : At w zp z) (ho : At w op o) (ho' : At w op o') : At w (some ⟨b, 0, none⟩) (.br pr i z o') := by
  obtain ⟨e1, e2⟩ := at_many ho ho'
  have e3 : (Nd.br pr i z o).many = (Nd.br pr i z o').many := by simp only [Nd.many, e1]
  have e4 : (Nd.br pr i z o).depth = (Nd.br pr i z o').depth := by simp only [Nd.depth, e2]
  rw [e3, e4] at h
  exact ⟨b, zp, op, rfl, h, hz, ho'⟩

theorem info69 : (Try.prog.info? 69).map (fun i => i.size) = some 7 := by kernel_rfl
theorem blk_of_at {w : World} {b : Nat} {t : Nd} (h : At w (some ⟨b, 0, none⟩) t) : ∃ c, w.heap[b]? = some (.cells c 69 (0, 0)) := by
  cases t with
  | leaf k v => obtain ⟨b', e, h⟩ := h; cases e; exact ⟨_, h.blk⟩
  | br pr i z o => obtain ⟨b', _, _, e, h, _⟩ := h; cases e; exact ⟨_, h.blk⟩
theorem ptr_same (a : Addr) (w : World) : (binOp .eql 25 (.pointer (some a)) (.pointer (some a))).run Try.prog w = .ok (.bool true) w := by
  obtain ⟨j, hj, _⟩ := Option.map_eq_some_iff.1 info69
  exact run_eql_ptr_same w a Try.underlying25 hj
theorem ptr_other {a b : Nat} {w : World} {t t' : Nd} (ha : At w (some ⟨a, 0, none⟩) t) (hb : At w (some ⟨b, 0, none⟩) t') (hne : a ≠ b) :
    (binOp .eql 25 (.pointer (some ⟨a, 0, none⟩)) (.pointer (some ⟨b, 0, none⟩))).run Try.prog w = .ok (.bool false) w := by
  obtain ⟨j, hj, hs⟩ := Option.map_eq_some_iff.1 info69
  obtain ⟨ca, h1⟩ := blk_of_at ha
  obtain ⟨cb, h2⟩ := blk_of_at hb
  exact run_eql_ptr_other w Try.underlying25 hj (by omega) (fun e => hne (by cases e; rfl)) h1 h2

def zeroO (pr i : Nat) (o : Nd) : Option Nd → Option Nd
  | none => some o
  | some z' => some (.br pr i z' o)

set_option maxRecDepth 100000 in
/-- The side of a bit that is nought. -/
theorem drop_zero (b pr i k : Nat) (z o : Nd) (w : World) (h : At w (some ⟨b, 0, none⟩) (.br pr i z o)) (hk : k < 2 ^ 64) (hi : i < 64) (hm : z.many + o.many ≤ 1000000)
    (hp : k / 2 ^ i / 2 = pr) (hb : k / 2 ^ i % 2 = 0) (hdm : ∀ z', z.drop k = some z' → z'.many ≤ z.many)
    (ih : ∀ (p : Option Addr) (w : World), At w p z → Calls Try.prog 38 #[.pointer p, .int .u64 k] w (OPost w (z.drop k))) :
    Calls Try.prog 38 #[.pointer (some ⟨b, 0, none⟩), .int .u64 k] w (OPost w (zeroO pr i o (z.drop k))) := by
  have hh := Lib.hid h
  obtain ⟨b', zp, op, e, hc, hz, ho⟩ := h
  cases e
  have hkey : (Nd.br pr i z o).key = pr * 2 ^ (i + 1) := rfl
  rw [hkey] at hc
  have HC := Lib.hid hc
  have HZ := Lib.hid hz
  obtain ⟨zb, rfl⟩ := at_some hz
  obtain ⟨ob, rfl⟩ := at_some ho
  have HO := Lib.hid ho
  obtain ⟨c0, c1, c2, c3, c4, c5, c6, cb⟩ := hc
  clear cb
  have hi0 : ¬ ((i : Int) < 0) := by omega
  have hka := and1 k i hk
  have hb0 : (bits BinOp.and IntKind.u64 ((k : Int) / 2 ^ i) 1 == 0) = true := by rw [hka, hb]; rfl
  have hq : (((k : Int) / 2 ^ i / 2) == (((pr * 2 ^ (i + 1) : Nat) : Int) / 2 ^ i / 2)) = true := by
    have e1 : ((k : Int) / 2 ^ i / 2) = ((k / 2 ^ i / 2 : Nat) : Int) := by simp
    have e2 : (((pr * 2 ^ (i + 1) : Nat) : Int) / 2 ^ i / 2) = ((pr * 2 ^ (i + 1) / 2 ^ i / 2 : Nat) : Int) := by simp
    have e3 : pr * 2 ^ (i + 1) / 2 ^ i / 2 = pr := by rw [← div_succ]; exact Nat.mul_div_cancel _ (Nat.two_pow_pos _)
    rw [e1, e2, hp, e3]; simp
  have HQ := Lib.hid hq
  have HP := Lib.hid hp
  clear hz ho hkey hka hb hq hp
  go_enter Try.func38, Try.ntmps38
  go_wp2_with fail
  refine (above_br b _ _ i _ _ _ _ _ _ HC.out hi).mono ?_
  rw [HQ.out]
  rintro e w1 ⟨rfl, hx1⟩
  obtain ⟨d0, d1, d2, d3, d4, d5, d6, db⟩ := HC.out.ext hx1
  clear db
  clear c0 c1 c2 c3 c4 c5 c6
  go_wp2_with fail
  go_region
  have hdr : Ext w1 w1.drew := (Ext.refl _).drew
  have AZ := (HZ.out.ext hx1).ext hdr
  have HX := hx1.trans hdr
  go_wp2_with fail
  refine (ih _ _ AZ).mono ?_
  rintro e w2 ⟨np, rfl, HN, hx2⟩
  have AZ2 := AZ.ext hx2
  have AO2 := (HO.out.ext HX).ext hx2
  have HX2 := HX.trans hx2
  replace d2 := hx2.cell (hdr.cell d2)
  replace d3 := hx2.cell (hdr.cell d3)
  replace d4 := hx2.cell (hdr.cell d4)
  have m1 := (at_md AO2).1
  have m2 := (at_md AO2).2
  have hom := o.depth_lt
  clear AZ HX hx1 hx2 hdr d0 d1 d5 d6
  cases hd : z.drop k with
  | none =>
    rw [hd] at HN
    obtain rfl : np = none := HN
    go_wp2
    go_ret
    exact ⟨_, rfl, by rw [hd]; exact AO2, HX2⟩
  | some z' =>
    rw [hd] at HN
    have HN2 : At w2 np z' := HN
    obtain ⟨nb, rfl⟩ := at_some HN2
    by_cases e : nb = zb
    · subst e
      have HH := Lib.hid (at_swap_zero (HC.out.ext HX2) AZ2 HN2 AO2)
      clear HN m1 m2
      have s1 := ptr_same ⟨nb, 0, none⟩ w2
      have s2 := ptr_same ⟨ob, 0, none⟩ w2
      go_wp2
      go_ret
      exact ⟨_, rfl, by rw [hd]; exact HH.out, HX2⟩
    · have hzm := hdm z' hd
      have hzd := z'.depth_lt
      have n1 := (at_md HN2).1
      have n2 := (at_md HN2).2
      have HKJ := Lib.hid (key_join k i)
      have s1 := ptr_other HN2 AZ2 e
      clear HN
      go_wp2_with fail
      refine (part_calls k i nb ob _ _ _ _ _ (by omega) (by omega) hi n1 n2 m1 m2 (by omega) (by omega) (by omega) (by omega) (by omega) (by omega) (by omega) (by omega)).mono ?_
      rintro e w3 ⟨rb, rfl, HR, hx3⟩
      rw [HKJ.out, HP.out] at HR
      go_wp2
      go_ret
      refine ⟨_, rfl, ?_, HX2.trans hx3⟩
      rw [hd]
      refine ⟨rb, _, _, rfl, ?_, At.ext hx3 HN2, At.ext hx3 AO2⟩
      have hmx : ((max z'.depth o.depth : Nat) : Int) = max (z'.depth : Int) o.depth := by omega
      simpa [Nd.many, Nd.depth, Nd.key, hmx] using HR
end Go.Proofs.Ytcdjhoejnjbgkaa
