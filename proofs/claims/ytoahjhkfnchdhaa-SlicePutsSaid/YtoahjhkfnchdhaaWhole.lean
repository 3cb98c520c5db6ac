/- The contract of Buffer.Whole. -/
import Derived.Test.YtoahjhkfnchdhaaBufb
namespace Go.Proofs.Ytoahjhkfnchdhaa
open Go.RowKit

theorem bytes_plain (l : List UInt8) : ∀ u ∈ bytesL l, u.oneCell' = true := by
  intro u hu
  simp only [bytesL, List.mem_map] at hu
  obtain ⟨b, _, rfl⟩ := hu
  rfl
/-- 'append(out, xs...)' in a region that draws its order, xs from wherever. -/
theorem step_append_src {P : Program} (W : World) {ops : Array Oper} {o : Oper} {a : Act} {K : Act → World → Prop} {Q : Exit → Act → World → Prop} {E : Prop} (hgd : o.guard = none) (s x : Operand) (t : TypeId)
    (ho : o.op = .call { callee := .builtin .append, args := #[s, x], argTypes := #[t, t] })
    (base : Nat) (e : TypeId) (z : Value) (size bytes : Nat) (ht : P.underlying t = some (.slice e)) (hi : (P.info? e).map (fun i => (i.zero, i.size, i.bytes)) = some (some z, size, bytes))
    (hzs : z.cells.size = size) (hsz : 0 < size)
    (v : Value) (n : Nat) (xs : List Value) (hs : a.eval s = v) (hown : W.ownsRow base e size v n xs)
    (B : Nat) (A : Option Addr) (m c : Nat) (news : List Value) (hx : a.eval x = .slice A m c) (hr : Reads W B size A m news) (h1 : ∀ u ∈ news, u.oneCell' = true)
    (h63 : n + m ≤ maxLen) (hbytes : (n + m) * bytes ≤ 140737488355328) (hbase : base ≤ W.heap.size)
    (h : ∀ v' w', w'.ownsRow base e size v' (n + m) (xs ++ news) → Moved W w' v v' → K (a.put o.dst v') w') :
    if Region.wanted o (yielded ops a.tmps) = true then Oper.wp P o a W K Q else E := by
  obtain ⟨i, hi, hz0, hz1, hz2⟩ := info_parts hi
  exact step_append_any W hgd s x t ho base e i z size bytes ht hi hz0 hz1 hz2 hzs hsz v n xs hs hown B A m c news hx hr h1 h63 hbytes hbase fun v' w' a b c => h v' w' a (moved_of b c)

theorem infoByte : (Try.prog.info? 5).map (fun i => (i.zero, i.size, i.bytes)) = some (some (.int .u8 0), 1, 1) := by kernel_rfl
/-- What Whole hands back. -/
def WholePost (w : World) (B : Bf) (e : Ending) (w' : World) : Prop :=
  Ext w w' ∧ if holdsS B.hs B.f B.t = true then ∃ A c, e = .returned (.tuple #[.slice A (B.t - B.f).toNat c, .bool true]) ∧ Hid (w'.ownsRow w.heap.size 5 1 (.slice A (B.t - B.f).toNat c) (B.t - B.f).toNat (bytesL (B.bs.take (B.t - B.f).toNat)))
    else e = .returned (.tuple #[.slice none 0 0, .bool false])

set_option maxHeartbeats 4000000 in
set_option maxRecDepth 100000 in
theorem whole_calls {Z : Nat → Prop} (lo hi pb : Nat) (B : Bf) (w : World) (h : BufZ Z lo hi w pb B) (hok : B.ok) :
    Calls Try.prog 27 #[.pointer (some ⟨pb, 0, none⟩)] w (WholePost w B) := by
  obtain ⟨g, A, c, h1, h2, _, _, _, _, _, h8, _⟩ := h
  have d0 : w.cell? ⟨pb, 0, none⟩ = some (.int .i64 B.u) := by rw [cell_of_block h1]; rfl
  have d2 : w.cell? ⟨pb, 2, none⟩ = some (.int .i64 B.f) := by rw [cell_of_block h1]; rfl
  have d3 : w.cell? ⟨pb, 3, none⟩ = some (.int .i64 B.t) := by rw [cell_of_block h1]; rfl
  have d4 : w.cell? ⟨pb, 4, none⟩ = some (.slice (some ⟨g, 0, none⟩) B.bs.length B.bs.length) := by rw [cell_of_block h1]; rfl
  have d5 : w.cell? ⟨pb, 5, none⟩ = some (.slice A B.hs.length c) := by rw [cell_of_block h1]; rfl
  have hbs : ∀ j u, (bytesL B.bs)[j]? = some u → w.cell? ⟨g, j, none⟩ = some u := fun j u hu => by rw [cell_of_block h2]; simpa using hu
  have hpb : pb < w.heap.size := (Array.getElem?_eq_some_iff.1 h1).1
  have hgw : g < w.heap.size := (Array.getElem?_eq_some_iff.1 h2).1
  have hP : ∀ e w', WholePost w B e w' = (Ext w w' ∧ if holdsS B.hs B.f B.t = true then ∃ A c, e = .returned (.tuple #[.slice A (B.t - B.f).toNat c, .bool true]) ∧ Hid (w'.ownsRow w.heap.size 5 1 (.slice A (B.t - B.f).toNat c) (B.t - B.f).toNat (bytesL (B.bs.take (B.t - B.f).toNat))) else e = .returned (.tuple #[.slice none 0 0, .bool false])) := fun _ _ => rfl
  have hcall : ∀ W, Ext w W → Calls Try.prog 49 #[.agg #[.slice A B.hs.length c], .agg #[.int .i64 B.f, .int .i64 B.t]] W fun e w' => e = .returned (.bool (holdsS B.hs B.f B.t)) ∧ Ext W w' := fun W hW => holds_calls A c B.hs B.f B.t W (h8.ext hW) hok.norm (by have := hok.hlen; omega)
  have u0 : (B.u == 0) = false := by simpa using hok.u0
  obtain ⟨f0, ft, t1, hle, hsm⟩ := (⟨hok.f0, hok.ft, hok.t1, hok.len, hok.small⟩ : 0 ≤ B.f ∧ B.f < B.t ∧ B.t ≤ 1099511627776 ∧ B.t - B.f ≤ B.bs.length ∧ B.bs.length ≤ 1000)
  clear hok h1 h2 h8
  generalize holdsS B.hs B.f B.t = hb at *
  obtain ⟨U, hU⟩ : ∃ U, B.u = U := ⟨_, rfl⟩
  obtain ⟨F, hF⟩ : ∃ F, B.f = F := ⟨_, rfl⟩
  obtain ⟨T, hT⟩ : ∃ T, B.t = T := ⟨_, rfl⟩
  obtain ⟨L, hL⟩ : ∃ L, B.bs = L := ⟨_, rfl⟩
  obtain ⟨H, hH⟩ : ∃ H, B.hs = H := ⟨_, rfl⟩
  rw [hU] at d0 u0
  rw [hF] at d2 f0 ft hle hcall hP
  rw [hT] at d3 ft t1 hle hcall hP
  rw [hL] at d4 hbs hle hsm hP
  rw [hH] at d5 hcall
  have HP := Lib.hid hP
  have HC := Lib.hid hcall
  have HB := Lib.hid hbs
  clear hU hF hT hL hH hP hcall hbs
  obtain ⟨m, hm⟩ : ∃ m : Nat, T - F = m := ⟨(T - F).toNat, by omega⟩
  cases hb
  · go_enter Try.func27, Try.ntmps27
    go_wp2
    refine wp_region_ext_lit (by kernel_rfl) (by kernel_rfl) ?_
    intro X _ k hg hg'
    have k0 : ∀ n, (k n).cell? ⟨pb, 0, none⟩ = some (.int .i64 U) := fun n => (hg n).cell d0
    have k2 : ∀ n, (k n).cell? ⟨pb, 2, none⟩ = some (.int .i64 F) := fun n => (hg n).cell d2
    have k3 : ∀ n, (k n).cell? ⟨pb, 3, none⟩ = some (.int .i64 T) := fun n => (hg n).cell d3
    have k5 : ∀ n, (k n).cell? ⟨pb, 5, none⟩ = some (.slice A H.length c) := fun n => (hg n).cell d5
    repeat (go_big_quiet_step ((go_at_call 49; with_reducible exact (HC.out _ (hg _)).mono fun e w2 ⟨he, hx⟩ => ⟨he, hg' _ ((hg _).trans hx)⟩)))
    refine wpQuiet_nil ?_
    rintro w' ⟨n, rfl⟩
    have hxg := hg n
    clear hg hg' k0 k2 k3 k5
    go_wp2
    go_ret2
    rw [HP.out]
    exact ⟨hxg, by rw [if_neg (by simp)]; rfl⟩
  · go_enter Try.func27, Try.ntmps27
    go_wp2
    refine wp_region_ext_lit (by kernel_rfl) (by kernel_rfl) ?_
    intro X _ k hg hg'
    have k0 : ∀ n, (k n).cell? ⟨pb, 0, none⟩ = some (.int .i64 U) := fun n => (hg n).cell d0
    have k2 : ∀ n, (k n).cell? ⟨pb, 2, none⟩ = some (.int .i64 F) := fun n => (hg n).cell d2
    have k3 : ∀ n, (k n).cell? ⟨pb, 3, none⟩ = some (.int .i64 T) := fun n => (hg n).cell d3
    have k5 : ∀ n, (k n).cell? ⟨pb, 5, none⟩ = some (.slice A H.length c) := fun n => (hg n).cell d5
    repeat (go_big_quiet_step ((go_at_call 49; with_reducible exact (HC.out _ (hg _)).mono fun e w2 ⟨he, hx⟩ => ⟨he, hg' _ ((hg _).trans hx)⟩)))
    refine wpQuiet_nil ?_
    rintro w' ⟨n, rfl⟩
    have hxg := hg n
    clear hg hg' k0 k2 k3 k5
    generalize k n = wg at *
    have hmL : m ≤ L.length := by omega
    have hml : (bytesL (L.take m)).length = m * 1 := by rw [bytesL_length, List.length_take, Nat.mul_one]; omega
    have hown0 : wg.drew.ownsRow w.heap.size 5 1 (.slice none 0 0) 0 [] := World.ownsRow_nil _ _ _ _
    have hR : Reads wg.drew wg.heap.size 1 (some ⟨g, 0, none⟩) m (bytesL (L.take m)) := by
      refine ⟨hml, fun _ => ⟨_, rfl, Nat.lt_of_lt_of_le hgw hxg.size, fun j u hu => ?_⟩⟩
      have hj : (bytesL L)[j]? = some u := by
        unfold bytesL at hu ⊢
        rw [List.map_take, List.getElem?_take] at hu
        split at hu
        · exact hu
        · cases hu
      have h1 := hxg.cell (HB.out j u hj)
      have e1 : (⟨g, 0, none⟩ : Addr).add j = ⟨g, j, none⟩ := by
        cases j <;> simp [Addr.add]
      rw [e1]
      exact h1
    obtain ⟨news, hnews⟩ : ∃ news, bytesL (L.take m) = news := ⟨_, rfl⟩
    have hpl : ∀ u ∈ news, u.oneCell' = true := by rw [← hnews]; exact bytes_plain _
    rw [hnews] at hR
    have HN := Lib.hid hnews
    have hbw : w.heap.size ≤ wg.drew.heap.size := hxg.size
    have e2 := hxg.cell d2
    have e3 := hxg.cell d3
    have e4 := hxg.cell d4
    have hwr : IntKind.i64.wrap (T - F) = (m : Int) := (IntWalk.i64_in _ (by omega)).trans hm
    have i1 : (m : Int) ≤ (L.length : Int) := by omega
    have HM := Lib.hid hm
    have HE := Lib.hid (Ext.refl wg).drew
    clear hml hnews d0 d2 d3 d4 d5 HB hm
    go_wp2
    go_region_held3 (fun w' => w'.cell? ⟨pb, 2, none⟩ = some (.int .i64 F) ∧ w'.cell? ⟨pb, 3, none⟩ = some (.int .i64 T) ∧ w'.cell? ⟨pb, 4, none⟩ = some (.slice (some ⟨g, 0, none⟩) L.length L.length))
      (first | exact ⟨HE.out.cell e2, HE.out.cell e3, HE.out.cell e4⟩ | (go_split_ands; exact ⟨far_cell hown0 hm1 (p := ⟨pb, 2, none⟩) hpb (by assumption), far_cell hown0 hm1 (p := ⟨pb, 3, none⟩) hpb (by assumption), far_cell hown0 hm1 (p := ⟨pb, 4, none⟩) hpb (by assumption)⟩))
      ((refine step_append_src _ (by rfl) _ _ _ (by rfl) w.heap.size 5 _ 1 1 Try.underlying43 infoByte rfl (by omega) (.slice none 0 0) 0 [] (by rfl) hown0 _ _ _ _ news (by rfl) hR hpl (by simp [maxLen] <;> omega) (by omega) hbw ?_; intro v1 w4 hown1 hm1))
    have hx4 : Ext w w4 := ext_moved hxg.drew hown0 hm1
    rw [Nat.zero_add, List.nil_append, ← HN.out] at hown1
    obtain ⟨V, cv, rfl, _⟩ := own_shape hown1
    have hmm : m = (T - F).toNat := by have := HM.out; omega
    go_wp2
    go_ret2
    rw [HP.out]
    refine ⟨hx4, ?_⟩
    rw [if_pos trivial]
    exact ⟨V, cv, by rw [← hmm]; rfl, Lib.hid (by rw [← hmm]; exact hown1)⟩
end Go.Proofs.Ytoahjhkfnchdhaa
