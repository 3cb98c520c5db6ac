/- The contract of the reference's Depth. -/
import Derived.Test.YtcdjhoejnjbgkaaSame
namespace Go.Proofs.Ytcdjhoejnjbgkaa
open Go.RowKit

def kAt (l : List Pr) (i : Nat) : Nat := ((l[i]?).map (·.k)).getD 0
def ins (s : List Nat) (b : Nat) : List Nat := if b ∈ s then s else s ++ [b]
def seenTo (l : List Pr) (i : Nat) : Nat → List Nat
  | 0 => []
  | k + 1 => if k = i then seenTo l i k else ins (seenTo l i k) ((kAt l i ^^^ kAt l k).log2)
def depthTo (l : List Pr) : Nat → Nat
  | 0 => 0
  | i + 1 => max (depthTo l i) (seenTo l i l.length).length
theorem kAt_eq {l : List Pr} {i : Nat} (h : i < l.length) : kAt l i = l[i].k := by simp [kAt, h]
theorem ins_length (s : List Nat) (b : Nat) : (ins s b).length ≤ s.length + 1 := by unfold ins; split <;> simp
theorem seenTo_length (l : List Pr) (i k : Nat) : (seenTo l i k).length ≤ k := by
  induction k with
  | zero => simp [seenTo]
  | succ k ih =>
    unfold seenTo
    split
    · omega
    · have := ins_length (seenTo l i k) ((kAt l i ^^^ kAt l k).log2); omega
theorem depthTo_le (l : List Pr) (i : Nat) : depthTo l i ≤ l.length := by
  induction i with
  | zero => simp [depthTo]
  | succ i ih => unfold depthTo; have := seenTo_length l i l.length; omega

/-- The marks of the bits that have been met. -/
def Marks (w : World) (g : Nat) (s : List Nat) : Prop := ∃ cs : Array Value, w.heap[g]? = some (.cells cs 4 (0, 0)) ∧ cs.size = 64 ∧ ∀ j, j < 64 → cs[j]? = some (.bool (decide (j ∈ s)))
theorem Marks.ext {w w' : World} {g : Nat} {s : List Nat} (h : Marks w g s) (hx : Ext w w') : Marks w' g s := by
  obtain ⟨cs, h1, h2, h3⟩ := h
  exact ⟨cs, hx.block h1, h2, h3⟩
theorem Marks.cell {w : World} {g : Nat} {s : List Nat} (h : Marks w g s) {j : Nat} (hj : j < 64) : w.cell? ⟨g, j, none⟩ = some (.bool (decide (j ∈ s))) ∧ w.frozen? ⟨g, j, none⟩ = false := by
  obtain ⟨cs, h1, h2, h3⟩ := h
  refine ⟨?_, by simp [World.frozen?, h1]⟩
  rw [cell_of_row w g j _ _ _ h1]; exact h3 j hj
theorem Marks.set {w : World} {g : Nat} {s : List Nat} (h : Marks w g s) {b : Nat} (hb : b < 64) : Marks (w.setCell ⟨g, b, none⟩ (.bool true)) g (s ++ [b]) := by
  obtain ⟨cs, h1, h2, h3⟩ := h
  refine ⟨_, heap_setCell_same w g b _ _ _ h1, by simpa using h2, fun j hj => ?_⟩
  by_cases e : b = j
  · subst e; simp [h2, hb]
  · rw [Array.getElem?_setIfInBounds_ne e, h3 j hj]
    have : (j ∈ s ++ [b]) ↔ j ∈ s := by simp; omega
    simp [this]

def falses : Array Value := Array.replicate 64 (.bool false)
theorem run_falses (w : World) : (Instr.makeSlice 72 (.int .i64 64) (.int .i64 64)).run Try.prog w = .ok (.slice (some ⟨w.heap.size, 0, none⟩) 64 64) (w.alloc (.cells falses 4)) := by kernel_rfl
theorem Marks.new (w : World) : Marks (w.alloc (.cells falses 4)) w.heap.size [] := ⟨falses, heap_alloc_new w _, by simp [falses], fun j hj => by simp [falses, hj]⟩

set_option maxHeartbeats 1000000 in
set_option maxRecDepth 100000 in
theorem depth_ref (A : Option Addr) (c : Nat) (l : List Pr) (w : World) (ha : RowP w A l) (hl : l.length ≤ 10000) (hlow : ∀ e ∈ l, e.k < 2 ^ 64) :
    Calls Try.prog 21 #[.slice A l.length c] w fun e w' => e = .returned (.int .i64 (depthTo l l.length : Int)) ∧ Ext w w' := by
  have hmk := run_falses
  go_enter Try.func21, Try.ntmps21
  go_wp2
  go_loopw [3, 4] (fun m i wr => ∃ n : Nat, n ≤ l.length ∧ i = .int .i64 n ∧ m = .int .i64 (depthTo l n : Int) ∧ Ext w wr) (fun _ i _ => l.length - (intOf i).toNat)
  case atStart => exact ⟨0, Nat.zero_le _, rfl, rfl, Ext.refl _⟩
  case round =>
    obtain ⟨n, hn, rfl, rfl, hx⟩ := hrel
    by_cases hlt : n < l.length
    · obtain ⟨wo, rfl⟩ : ∃ wo : World, wo = wr := ⟨_, rfl⟩
      go_wp2
      have hxo : Ext w (wo.alloc (.cells falses 4)) := hx.alloc _
      have hmarks := Marks.new wo
      have hg := hx.size
      have hd1 := depthTo_le l n
      generalize wo.heap.size = g at *
      generalize wo.alloc (.cells falses 4) = wi at *
      have HN := Lib.hid (show depthTo l (n + 1) = max (depthTo l n) (seenTo l n l.length).length from rfl)
      generalize depthTo l n = d at *
      clear hx
      go_loopw [6, 7] (fun m i wr => ∃ k : Nat, k ≤ l.length ∧ i = .int .i64 k ∧ m = .int .i64 ((seenTo l n k).length : Int) ∧ Marks wr g (seenTo l n k) ∧ Ext w wr) (fun _ i _ => l.length - (intOf i).toNat)
      case atStart => exact ⟨0, Nat.zero_le _, rfl, rfl, hmarks, hxo⟩
      case round =>
        obtain ⟨k, hk, rfl, rfl, hm, hx⟩ := hrel
        clear hmarks hxo
        by_cases hlk : k < l.length
        · obtain ⟨b, rfl, p0, _⟩ := ha.ext hx n hlt
          obtain ⟨b', e', q0, _⟩ := ha.ext hx k hlk
          cases e'
          have hst : seenTo l n (k + 1) = if k = n then seenTo l n k else ins (seenTo l n k) ((kAt l n ^^^ kAt l k).log2) := rfl
          have hsl := seenTo_length l n k
          rw [kAt_eq hlt, kAt_eq hlk] at hst
          have l1 := hlow _ (List.getElem_mem hlt)
          have l2 := hlow _ (List.getElem_mem hlk)
          generalize l[n] = r1 at *
          generalize l[k] = r2 at *
          generalize seenTo l n k = s at *
          have HS := Lib.hid hst
          clear hst
          by_cases e : k = n
          · have e1 : ((k : Int) == (n : Int)) = true := by simp [e]
            have HE := Lib.hid e
            clear e
            go_wp2
            go_roundw
            case rel =>
              have hf : seenTo l n (k + 1) = s := HS.out.trans (by simp [HE.out])
              exact ⟨k + 1, by omega, by go_num, by rw [hf], by rw [hf]; exact hm, hx⟩
            case measure => simp [intOf] <;> omega
          · have e1 : ((k : Int) == (n : Int)) = false := by simp; omega
            have HE := Lib.hid e
            clear e
            go_wp2
            have hx64 : r1.k ^^^ r2.k < 2 ^ 64 := Nat.xor_lt_two_pow l1 l2
            have hm64 : (r1.k ^^^ r2.k).log2 < 64 := by
              by_cases h0 : r1.k ^^^ r2.k = 0
              · rw [h0]; decide
              · exact (Nat.log2_lt h0).2 hx64
            have hpc := hide (fun W => parts_calls r1.k r2.k W l1 l2)
            generalize hbit : (r1.k ^^^ r2.k).log2 = bit at *
            have HBIT := Lib.hid hbit
            clear hbit hx64
            refine wp_region_ext_lit (by kernel_rfl) (by kernel_rfl) ?_
            intro X _ gg hg1 hg2
            have P0 : ∀ q, (gg q).cell? ⟨b, n * 2, none⟩ = some (.int .u64 (r1.k : Int)) := fun q => (hg1 q).cell p0
            have Q0 : ∀ q, (gg q).cell? ⟨b, k * 2, none⟩ = some (.int .u64 (r2.k : Int)) := fun q => (hg1 q).cell q0
            repeat (go_big_quiet_step ((go_at_call 36; exact (unhide hpc _).mono fun e w2 ⟨he, hx⟩ => ⟨he, hg2 _ ((hg1 _).trans hx)⟩)))
            refine wpQuiet_nil ?_
            rintro w3 ⟨q, rfl⟩
            have hm3 := hm.ext (hg1 q)
            have hx3 := hx.trans (hg1 q)
            obtain ⟨m0, m1⟩ := hm3.cell hm64
            clear P0 Q0 hg1 hg2 hm hx p0 q0
            by_cases hin : bit ∈ s
            · have hd : decide (bit ∈ s) = true := by simp [hin]
              rw [hd] at m0
              have HI := Lib.hid hin
              clear hin hd
              go_wp2
              go_roundw
              case rel =>
                have hf : seenTo l n (k + 1) = s := HS.out.trans (by rw [if_neg HE.out]; simp [ins, HI.out])
                exact ⟨k + 1, by omega, by go_num, by rw [hf], by rw [hf]; exact hm3, hx3⟩
              case measure => simp [intOf] <;> omega
            · have hd : decide (bit ∈ s) = false := by simp [hin]
              rw [hd] at m0
              have HI := Lib.hid hin
              clear hin hd
              go_wp2
              go_roundw
              case rel =>
                have hf : seenTo l n (k + 1) = s ++ [bit] := HS.out.trans (by rw [if_neg HE.out]; simp [ins, HI.out])
                exact ⟨k + 1, by omega, by go_num, by rw [hf]; simp, by rw [hf]; exact hm3.set hm64, hx3.setCell (p := ⟨g, bit, none⟩) hg _⟩
              case measure => simp [intOf] <;> omega
        · obtain rfl : k = l.length := by omega
          go_wp2
          all_goals
            go_roundw
            case rel => exact ⟨n + 1, by omega, by go_num, by rw [HN.out]; simp; omega, hx⟩
            case measure => simp [intOf] <;> omega
    · obtain rfl : n = l.length := by omega
      go_wp2
      go_ret
      exact ⟨rfl, hx⟩
end Go.Proofs.Ytcdjhoejnjbgkaa
