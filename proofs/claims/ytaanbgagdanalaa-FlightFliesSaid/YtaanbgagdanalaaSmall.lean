/- The contracts of Numbers and of small. -/
import Derived.Test.YtaanbgagdanalaaOpen
import Derived.Test.YtaanbgagdanalaaRef
namespace Go.Proofs.Ytaanbgagdanalaa
open Go.RowKit

set_option maxRecDepth 100000 in
theorem numbers_calls (A B : Option Addr) (c d : Nat) (la lb : List Int) (w : World) (ha : RowI w A la) (hb : RowI w B lb) (hl : la.length ≤ 1000000) :
    Calls Try.prog 25 #[.slice A la.length c, .slice B lb.length d] w fun e w' => e = .returned (.bool (decide (la = lb))) ∧ Ext w w' := by
  by_cases hlen : la.length = lb.length
  · rw [← hlen]
    have HE := Lib.hid hlen
    clear hlen
    go_enter Try.func25, Try.ntmps25
    go_wp2
    go_loopw [13] (fun i wr => ∃ k : Nat, k ≤ la.length ∧ i = .int .i64 k ∧ la.take k = lb.take k ∧ Ext w wr) (fun i _ => la.length - (intOf i).toNat)
    case atStart => exact ⟨0, Nat.zero_le _, rfl, rfl, Ext.refl _⟩
    case round =>
      obtain ⟨k, hk, rfl, htk, hx⟩ := hrel
      have HT := Lib.hid htk
      clear htk
      by_cases hlt : k < la.length
      · obtain ⟨b1, rfl, p0⟩ := ha k hlt
        have hlt2 : k < lb.length := by have := HE.out; omega
        obtain ⟨b2, rfl, q0⟩ := hb k hlt2
        replace p0 := hx.cell p0
        replace q0 := hx.cell q0
        obtain ⟨r, hr⟩ : ∃ r, la[k] = r := ⟨_, rfl⟩
        obtain ⟨s, hs⟩ : ∃ s, lb[k] = s := ⟨_, rfl⟩
        rw [hr] at p0
        rw [hs] at q0
        have HR := Lib.hid hr
        have HS := Lib.hid hs
        clear hr hs
        have HX := Lib.hid hx
        clear hx
        by_cases e1 : r = s
        · have e2 : (r == s) = true := by simp [e1]
          have e3 : (decide (r = s)) = true := by simp [e1]
          have e4 : (r != s) = false := by simp [e1]
          have HQ := Lib.hid e1
          clear e1
          go_wp2_with fail
          go_quiet (fail)
          go_wp2
          go_roundw
          case rel =>
            refine ⟨k + 1, by omega, by go_num, ?_, HX.out.drewN _⟩
            rw [List.take_succ_eq_append_getElem hlt, List.take_succ_eq_append_getElem hlt2, HT.out, HR.out, HS.out, HQ.out]
          case measure => simp [intOf] <;> omega
        · have e2 : (r == s) = false := by simp [e1]
          have e3 : (decide (r = s)) = false := by simp [e1]
          have e4 : (r != s) = true := by simp [e1]
          have hne : la ≠ lb := by
            rintro rfl
            exact e1 (HR.out.symm.trans HS.out)
          have HN := Lib.hid hne
          clear e1 hne
          go_wp2_with fail
          go_quiet (fail)
          go_wp2
          go_ret
          exact ⟨by simp [HN.out], HX.out.drewN _⟩
      · obtain rfl : k = la.length := by omega
        have he : la = lb := by
          have := HT.out
          rw [List.take_length, HE.out, List.take_length] at this
          exact this
        have HQ := Lib.hid he
        clear he
        go_wp2
        go_ret
        exact ⟨by simp [HQ.out], hx⟩
  · have hne : la ≠ lb := fun e => hlen (by rw [e])
    have HN := Lib.hid hne
    clear hne
    have e1 : decide (la.length = lb.length) = false := by simp [hlen]
    have e2 : (((la.length : Nat) : Int) == ((lb.length : Nat) : Int)) = false := by simp; omega
    have e3 : decide (((la.length : Nat) : Int) = ((lb.length : Nat) : Int)) = false := by simp; omega
    have e4 : (((la.length : Nat) : Int) != ((lb.length : Nat) : Int)) = true := by simp; omega
    go_enter Try.func25, Try.ntmps25
    go_wp2
    go_ret
    exact ⟨by simp [HN.out], Ext.refl _⟩

theorem size53 : (Try.prog.info? 53).map (·.size) = some 21 := by kernel_rfl
def SmallPost (w : World) (n : Nat) (e : Ending) (w' : World) : Prop := ∃ b : Bool, e = .returned (.bool b) ∧ (b = true → n ≤ 60) ∧ Ext w w'

set_option maxHeartbeats 2000000 in
set_option maxRecDepth 100000 in
theorem small_calls (A : Option Addr) (c : Nat) (l : List Op) (w : World) (hr : Ops w A l) (hl : l.length ≤ maxLen) :
    Calls Try.prog 17 #[.slice A l.length c] w (SmallPost w l.length) := by
  have hl2 : l.length ≤ 9223372036854775807 := by simpa [maxLen] using hl
  clear hl
  go_enter Try.func17, Try.ntmps17
  go_wp2
  go_loopw [7] (fun i wr => ∃ k : Nat, k ≤ l.length ∧ i = .int .i64 k ∧ Ext w wr) (fun i _ => l.length - (intOf i).toNat)
  case atStart => exact ⟨0, Nat.zero_le _, rfl, Ext.refl _⟩
  case round =>
    obtain ⟨k, hk, rfl, hx⟩ := hrel
    by_cases hlt : k < l.length
    · obtain ⟨_, g, og, rfl, hro⟩ := hr k hlt
      obtain ⟨a, ha⟩ : ∃ a, l[k] = a := ⟨_, rfl⟩
      rw [ha] at hro
      have hra : wr.rangeAt g (og + k * 21) [.int .u8 a.kind, .int .i64 a.f.id, .string a.f.obj, .int .i64 a.f.fr, .int .i64 a.f.to, .string a.f.mt, .bool a.f.mw, .string a.f.nt, .bool a.f.nw, .int .i64 a.f.en, .int .i64 a.f.sa, .int .i64 a.f.mo, .int .i64 a.f.ge, .int .i64 a.f.pl, .bool a.f.he, .int .i64 a.id, .int .i64 a.who, .int .i64 a.en, .int .i64 a.n, .int .i64 a.to, .string a.obj] := fun j u hu => hx.cell (hro j u hu)
      have ht : (wr.alloc (.cells #[.int .u8 0, .int .i64 0, .string ⟨#[]⟩, .int .i64 0, .int .i64 0, .string ⟨#[]⟩, .bool false, .string ⟨#[]⟩, .bool false, .int .i64 0, .int .i64 0, .int .i64 0, .int .i64 0, .int .i64 0, .bool false, .int .i64 0, .int .i64 0, .int .i64 0, .int .i64 0, .int .i64 0, .string ⟨#[]⟩] 53)).there wr.heap.size 0 21 := there_of_block (heap_alloc_new wr _) rfl
      have HR := Lib.hid (World.rangeAt_setCells_same _ wr.heap.size 0 (#[.int .u8 a.kind, .int .i64 a.f.id, .string a.f.obj, .int .i64 a.f.fr, .int .i64 a.f.to, .string a.f.mt, .bool a.f.mw, .string a.f.nt, .bool a.f.nw, .int .i64 a.f.en, .int .i64 a.f.sa, .int .i64 a.f.mo, .int .i64 a.f.ge, .int .i64 a.f.pl, .bool a.f.he, .int .i64 a.id, .int .i64 a.who, .int .i64 a.en, .int .i64 a.n, .int .i64 a.to, .string a.obj] : Array Value).toList ht)
      have HX := Lib.hid (ext_setCells (b := wr.heap.size) (vs := (#[.int .u8 a.kind, .int .i64 a.f.id, .string a.f.obj, .int .i64 a.f.fr, .int .i64 a.f.to, .string a.f.mt, .bool a.f.mw, .string a.f.nt, .bool a.f.nw, .int .i64 a.f.en, .int .i64 a.f.sa, .int .i64 a.f.mo, .int .i64 a.f.ge, .int .i64 a.f.pl, .bool a.f.he, .int .i64 a.id, .int .i64 a.who, .int .i64 a.en, .int .i64 a.n, .int .i64 a.to, .string a.obj] : Array Value).toList) (o := 0) (hx.alloc (.cells #[.int .u8 0, .int .i64 0, .string ⟨#[]⟩, .int .i64 0, .int .i64 0, .string ⟨#[]⟩, .bool false, .string ⟨#[]⟩, .bool false, .int .i64 0, .int .i64 0, .int .i64 0, .int .i64 0, .int .i64 0, .bool false, .int .i64 0, .int .i64 0, .int .i64 0, .int .i64 0, .int .i64 0, .string ⟨#[]⟩] 53)) hx.size)
      clear hro hr ha hx
      go_upto_region 4 with (first | (refine wpList_load_mid rfl 53 _ rfl g (og + k * 21) (by rfl) _ _ hra Try.underlying53 rfl size53 ?_) | (refine wpList_store_mid rfl 53 _ _ rfl wr.heap.size 0 #[.int .u8 a.kind, .int .i64 a.f.id, .string a.f.obj, .int .i64 a.f.fr, .int .i64 a.f.to, .string a.f.mt, .bool a.f.mw, .string a.f.nt, .bool a.f.nw, .int .i64 a.f.en, .int .i64 a.f.sa, .int .i64 a.f.mo, .int .i64 a.f.ge, .int .i64 a.f.pl, .bool a.f.he, .int .i64 a.id, .int .i64 a.who, .int .i64 a.en, .int .i64 a.n, .int .i64 a.to, .string a.obj] rfl rfl ht size53 (by simp [Value.oneCell']) ?_))
      generalize (wr.alloc (.cells #[.int .u8 0, .int .i64 0, .string ⟨#[]⟩, .int .i64 0, .int .i64 0, .string ⟨#[]⟩, .bool false, .string ⟨#[]⟩, .bool false, .int .i64 0, .int .i64 0, .int .i64 0, .int .i64 0, .int .i64 0, .bool false, .int .i64 0, .int .i64 0, .int .i64 0, .int .i64 0, .int .i64 0, .string ⟨#[]⟩] 53)).setCells wr.heap.size 0 (#[.int .u8 a.kind, .int .i64 a.f.id, .string a.f.obj, .int .i64 a.f.fr, .int .i64 a.f.to, .string a.f.mt, .bool a.f.mw, .string a.f.nt, .bool a.f.nw, .int .i64 a.f.en, .int .i64 a.f.sa, .int .i64 a.f.mo, .int .i64 a.f.ge, .int .i64 a.f.pl, .bool a.f.he, .int .i64 a.id, .int .i64 a.who, .int .i64 a.en, .int .i64 a.n, .int .i64 a.to, .string a.obj] : Array Value).toList = wx at *
      have c2 : wx.cell? ⟨wr.heap.size, 2, none⟩ = some (.string a.f.obj) := HR.out 2 _ rfl
      have c5 : wx.cell? ⟨wr.heap.size, 5, none⟩ = some (.string a.f.mt) := HR.out 5 _ rfl
      have c7 : wx.cell? ⟨wr.heap.size, 7, none⟩ = some (.string a.f.nt) := HR.out 7 _ rfl
      have c20 : wx.cell? ⟨wr.heap.size, 20, none⟩ = some (.string a.obj) := HR.out 20 _ rfl
      clear hra ht HR
      by_cases o1 : (40 : Int) < a.obj.size
      ·
        go_wp2
        go_ret
        exact ⟨_, rfl, fun h => by simp at h, HX.out⟩
      by_cases o2 : (40 : Int) < a.f.obj.size
      ·
        go_wp2
        go_ret
        exact ⟨_, rfl, fun h => by simp at h, HX.out⟩
      by_cases o3 : (40 : Int) < a.f.mt.size
      ·
        go_wp2
        go_ret
        exact ⟨_, rfl, fun h => by simp at h, HX.out⟩
      by_cases o4 : (40 : Int) < a.f.nt.size
      ·
        go_wp2
        go_ret
        exact ⟨_, rfl, fun h => by simp at h, HX.out⟩
      go_wp2
      go_roundw
      case rel => exact ⟨k + 1, by omega, by go_num, HX.out⟩
      case measure => simp [intOf] <;> omega
    · obtain rfl : k = l.length := by omega
      have HX := Lib.hid hx
      clear hx
      go_wp2
      go_ret
      exact ⟨_, rfl, fun h => by simp at h; omega, HX.out⟩
end Go.Proofs.Ytaanbgagdanalaa
