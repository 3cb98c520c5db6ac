/- ImapStops: a map's runs are told only as long as they are asked for. The walk. -/
import Derived.Test.YtjiabibnbpjhaaaAlive
namespace Go.Proofs.Ytjiabibnbpjhaaa
open Go.RowKit

/-- So many were asked for, and so many are wanted. -/
def Asked (B o o' : Nat) (want : Int) (n : Nat) (w : World) : Prop :=
  w.heap[o]? = some (.cells #[.int .i64 n] 3 (0, 0)) ∧ w.heap[o']? = some (.cells #[.int .i64 want] 3 (0, 0)) ∧ B ≤ o ∧ o ≠ o'
theorem Asked.ext {B o o' : Nat} {want : Int} {n : Nat} {w w' : World} (h : Asked B o o' want n w) (hx : Ext w w') : Asked B o o' want n w' :=
  ⟨hx.block h.1, hx.block h.2.1, h.2.2.1, h.2.2.2⟩

def StopPost (B o o' : Nat) (want : Int) (n : Nat) (w : World) (e : Ending) (w' : World) : Prop :=
  ∃ q, e = .returned (.bool q) ∧ Kp B o 50 w w' ∧ Asked B o o' want (n + 1) w' ∧ (q = true → (n : Int) + 1 < want) ∧ (q = false → want ≤ (n : Int) + 1)

set_option maxRecDepth 100000 in
theorem stops1_calls (B o o' : Nat) (want : Int) (n : Nat) (r : Rn) (w : World) (h : Asked B o o' want n w) (hB : B ≤ w.heap.size) (hn : n ≤ 1000000) :
    Calls Try.prog 20 #[.agg #[.int .i64 r.f, .int .i64 r.t], .int .i64 r.v, .pointer (some ⟨o, 0, none⟩), .pointer (some ⟨o', 0, none⟩)] w (StopPost B o o' want n w) := by
  obtain ⟨h1, h2, h3, h4⟩ := h
  have hlt := (Array.getElem?_eq_some_iff.1 h1).1
  have hlt' := (Array.getElem?_eq_some_iff.1 h2).1
  have hlt1 : o < w.heap.size + 1 := by omega
  have hb : (w.setCell ⟨o, 0, none⟩ (.int .i64 ((n : Int) + 1))).heap[o]? = some (.cells #[.int .i64 ((n : Int) + 1)] 3 (0, 0)) := by
    have := heap_setCell_same w o 0 _ 3 (.int .i64 ((n : Int) + 1)) h1; simpa using this
  have hb' : (w.setCell ⟨o, 0, none⟩ (.int .i64 ((n : Int) + 1))).heap[o']? = some (.cells #[.int .i64 want] 3 (0, 0)) := by
    rw [Below.heap_setCell _ _ _ _ (Ne.symm h4)]; exact h2
  have hxs : Ext (w.setCell ⟨o, 0, none⟩ (.int .i64 ((n : Int) + 1))) ((w.setCell ⟨o, 0, none⟩ (.int .i64 ((n : Int) + 1))).alloc (.cells #[.int .i64 r.f, .int .i64 r.t] 34)) := (Ext.refl _).alloc _
  have hkp : Kp B o 50 w ((w.setCell ⟨o, 0, none⟩ (.int .i64 ((n : Int) + 1))).alloc (.cells #[.int .i64 r.f, .int .i64 r.t] 34)) :=
    ⟨((Below.refl B w).setCell (p := ⟨o, 0, none⟩) h3 _).alloc (by simpa [World.setCell] using hB) _, fun g cs t fr hg _ ho => hxs.block (by rw [Below.heap_setCell _ _ _ _ ho]; exact hg)⟩
  have hA : Asked B o o' want (n + 1) ((w.setCell ⟨o, 0, none⟩ (.int .i64 ((n : Int) + 1))).alloc (.cells #[.int .i64 r.f, .int .i64 r.t] 34)) :=
    ⟨by simpa using hxs.block hb, hxs.block hb', h3, h4⟩
  have p1 : w.cell? ⟨o, 0, none⟩ = some (.int .i64 n) := by rw [cell_of_row _ o 0 _ _ _ h1]; rfl
  have p2 : w.frozen? ⟨o, 0, none⟩ = false := by simp [World.frozen?, h1]
  have p3 : w.cell? ⟨o', 0, none⟩ = some (.int .i64 want) := by rw [cell_of_row _ o' 0 _ _ _ h2]; rfl
  have HK := hide hkp
  have HA := hide hA
  clear hkp hA h1 h2 hb hb' hxs
  have hne : ¬ (o' = o) := fun e => h4 e.symm
  go_enter Try.func20, Try.ntmps20
  go_wp2
  go_ret
  refine ⟨decide ((n : Int) + 1 < want), rfl, unhide HK, unhide HA, by simp, by simp⟩

theorem enters20 (args : Array Value) (w : World) : (callFunc 20 args).run Try.prog w = .ok (.enter 20 args) w := by
  simp [go_sem]

set_option maxHeartbeats 4000000 in
set_option maxRecDepth 100000 in
theorem lawStops_calls (A : Option Addr) (c : Nat) (l : List Ac) (kk : Int) (w : World) (ha : Acts w A l) (hk0 : 0 ≤ kk) (hk1 : kk ≤ 255) :
    Calls Try.prog 5 #[.slice A l.length c, .int .u8 kk] w fun e w' => e = .returned (.bool true) ∧ Ext w w' := by
  have hmf : ∀ (fn : Fn) (first cap : Array Value) (w : World), (Instr.makeFunc fn first cap).run Try.prog w = .ok (.func fn first cap) w := fun _ _ _ _ => rfl
  go_enter Try.func5, Try.ntmps5
  go_wp2_with fail
  refine (alive_calls _).mono ?_
  rintro e w1 ⟨rfl, hx⟩
  replace ha := ha.ext hx
  by_cases hl : 40 < l.length
  · go_wp2
    go_ret
    exact ⟨rfl, hx⟩
  · go_wp2_with fail
    refine (made_calls A c l _ ha (by omega)).mono ?_
    rintro e w2 ⟨mb, rfl, hm, _, hx2⟩
    replace hx := hx.trans hx2
    clear hx2 ha
    have hlen := appR_length l
    have hwf := (appR_spec l).1
    generalize appR l = rs at *
    go_wp2_with fail
    refine (len_calls mb _ _ hm (by omega)).mono ?_
    rintro e w3 ⟨rfl, rfl⟩
    by_cases h1 : rs.length < 1
    · go_wp2
      go_ret
      exact ⟨rfl, hx⟩
    · have m0 : 0 ≤ kk % (rs.length : Int) := Int.emod_nonneg _ (by omega)
      have m1 : kk % (rs.length : Int) < rs.length := Int.emod_lt_of_pos _ (by omega)
      go_wp2_with fail
      generalize hwant : (1 : Int) + kk % (rs.length : Int) = want at *
      have hw0 : 1 ≤ want := by omega
      have hw1 : want ≤ rs.length := by omega
      clear m0 m1 hwant
      have hxo : Ext w2 ((w2.alloc (.cells #[.int .i64 want] 3)).alloc (.cells #[.int .i64 0] 3)) := ((Ext.refl _).alloc _).alloc _
      have hb1 : ((w2.alloc (.cells #[.int .i64 want] 3)).alloc (.cells #[.int .i64 0] 3)).heap[w2.heap.size + 1]? = some (.cells #[.int .i64 0] 3 (0, 0)) := by
        have := heap_alloc_new (w2.alloc (.cells #[.int .i64 want] 3)) (.cells #[.int .i64 0] 3)
        simpa using this
      have hb2 : ((w2.alloc (.cells #[.int .i64 want] 3)).alloc (.cells #[.int .i64 0] 3)).heap[w2.heap.size]? = some (.cells #[.int .i64 want] 3 (0, 0)) := ((Ext.refl _).alloc _).block (heap_alloc_new w2 _)
      refine (all_seq_calls mb rs w2 _ hxo hm).mono ?_
      rintro e w3 ⟨v, rfl, ⟨br, bs, A1, c1, rfl, g1, g2, g3⟩, hx2⟩
      have hAs : Asked w2.heap.size (w2.heap.size + 1) w2.heap.size want 0 w3 := ⟨by simpa using hx2.block hb1, hx2.block hb2, by omega, by omega⟩
      have hne1 : br ≠ w2.heap.size + 1 := by rintro rfl; rw [hx2.block hb1] at g1; injection g1 with g1; injection g1 with _ g1; exact absurd g1 (by decide)
      have hne2 : bs ≠ w2.heap.size + 1 := by rintro rfl; rw [hx2.block hb1] at g2; injection g2 with g2; injection g2 with _ g2; exact absurd g2 (by decide)
      have hz3 : w2.heap.size ≤ w3.heap.size := Nat.le_trans hxo.size hx2.size
      have hxx : Ext w2 w3 := hxo.trans hx2
      clear hb1 hb2 hx2 hxo hm
      have hmeet := meets_all hwf (Int.le_refl _)
      go_wp2_with fail
      refine (iter2_calls 20 (w2.heap.size + 1) w2.heap.size w2.heap.size bs br enters20 rs A1 c1 0 4611686018427387904
        (fun L W => Asked w2.heap.size (w2.heap.size + 1) w2.heap.size want L.length W ∧ (L.length : Int) < want) (fun L W => Asked w2.heap.size (w2.heap.size + 1) w2.heap.size want L.length W ∧ (L.length : Int) = want)
        (fun L a b h hx => ⟨h.1.ext hx, h.2⟩) ?_ w3 hz3 g1 g2 hne1 hne2 g3 (by omega) ⟨hAs, by simp; omega⟩).mono ?_
      · intro L r W hJ hp
        have hl1 := hp.length_le
        rw [hmeet] at hl1
        simp only [List.length_append, List.length_singleton] at hl1
        refine (stops1_calls _ _ _ want L.length r W hJ.1 ?_ (by omega)).mono ?_
        · have := (Array.getElem?_eq_some_iff.1 hJ.1.1).1; omega
        · rintro e W' ⟨q, rfl, hk, ha, ht, hf⟩
          have hlen2 : (L ++ [r]).length = L.length + 1 := by simp
          refine ⟨q, rfl, hk, fun h => ⟨by rw [hlen2]; exact ha, by rw [hlen2]; have := ht h; omega⟩, fun h => ⟨by rw [hlen2]; exact ha, by rw [hlen2]; have := hf h; have := hJ.2; omega⟩⟩
      rintro e w4 ⟨rfl, hk, hJ⟩
      have hend : Asked w2.heap.size (w2.heap.size + 1) w2.heap.size want want.toNat w4 := by
        rcases hJ with ⟨_, h2⟩ | ⟨L, _, h1, h2⟩
        · rw [hmeet] at h2; omega
        · rw [show want.toNat = L.length by omega]; exact h1
      obtain ⟨e1, e2, _, _⟩ := hend
      have c1' : w4.cell? ⟨w2.heap.size + 1, 0, none⟩ = some (.int .i64 want) := by rw [cell_of_row _ _ 0 _ _ _ e1]; simp; omega
      have c2' : w4.cell? ⟨w2.heap.size, 0, none⟩ = some (.int .i64 want) := by rw [cell_of_row _ _ 0 _ _ _ e2]; rfl
      have hx4 : Ext w w4 := hx.trans (ext_of_kp hxx hk)
      clear hJ hk e1 e2 hAs g1 g2 g3 hx hxx hwf hmeet
      go_wp2
      go_ret
      exact ⟨by simp, hx4⟩

theorem lawStops_reads (A : Option Addr) (c : Nat) (l : List Ac) (kk : Int) (w : World) (ha : Acts w A l) (hk : (Lit.int .u8 kk).wf = true) :
    Calls Try.prog 5 #[.slice A l.length c, .int .u8 kk] w fun e w' => e = .returned (.bool true) ∧ Ext w w' := by
  have : 0 ≤ kk ∧ kk ≤ 255 := by simpa [Lit.wf, IntKind.min, IntKind.max, IntKind.signed, IntKind.bits] using hk
  exact lawStops_calls A c l kk w ha this.1 this.2
end Go.Proofs.Ytjiabibnbpjhaaa
