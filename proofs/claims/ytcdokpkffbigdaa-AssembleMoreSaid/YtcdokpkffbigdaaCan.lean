/- Body.Can: what it hands back, and what that tells. -/
import Derived.Test.YtcdokpkffbigdaaJoin
import Derived.Deep.RegionLaw
namespace Go.Proofs.Ytcdokpkffbigdaa
open Go.RowKit

theorem step_append_src {P : Program} (W : World) {ops : Array Oper} {o : Oper} {a : Act} {K : Act → World → Prop} {Q : Exit → Act → World → Prop} {E : Prop} (hgd : o.guard = none) (s x : Operand) (t : TypeId)
    (ho : o.op = .call { callee := .builtin .append, args := #[s, x], argTypes := #[t, t] })
    (base : Nat) (e : TypeId) (z : Value) (size bytes : Nat) (ht : P.underlying t = some (.slice e)) (hi : (P.info? e).map (fun i => (i.zero, i.size, i.bytes)) = some (some z, size, bytes))
    (hzs : z.cells.size = size) (hsz : 0 < size)
    (v : Value) (n : Nat) (xs : List Value) (hs : a.eval s = v) (hown : W.ownsRow base e size v n xs)
    (B : Nat) (A : Option Addr) (m c : Nat) (news : List Value) (hx : a.eval x = .slice A m c) (hr : Reads W B size A m news) (h1 : ∀ u ∈ news, u.oneCell' = true)
    (h63 : n + m ≤ maxLen) (hbytes : (n + m) * bytes ≤ 140737488355328) (hbase : base ≤ W.heap.size)
    (h : ∀ v' w', w'.ownsRow base e size v' (n + m) (xs ++ news) → Moved W w' v v' → K (a.put o.dst v') w') :
    if Region.wanted o (yielded ops a.tmps) = true then Oper.wp P o a W K Q else E := by
  obtain ⟨i, hi, hz0, hz1, hz2⟩ := info_parts hi
  exact step_append_any W hgd s x t ho base e i z size bytes ht hi hz0 hz1 hz2 hzs hsz v n xs hs hown B A m c news hx hr h1 h63 hbytes hbase fun v' w' a b c => h v' w' a (moved_of b c)


/-- What can be told, part by part. -/
def pcanL (S : List Sp) : List Pt → List Pt
  | [] => []
  | p :: l => match readyS p S with
    | none => []
    | some q => q :: (if q = p then pcanL S l else [])
/-- Of the blocks before n₀ only o may have turned. -/
structure Kq (o n₀ : Nat) (w w' : World) : Prop where
  os : w'.os = w.os
  tape : w'.tape = w.tape
  output : w'.output = w.output
  size : w.heap.size ≤ w'.heap.size
  block : ∀ k, k < n₀ → k ≠ o → w'.heap[k]? = w.heap[k]?
theorem Kq.refl (o n₀ : Nat) (w : World) : Kq o n₀ w w := ⟨rfl, rfl, rfl, Nat.le_refl _, fun _ _ _ => rfl⟩
theorem Kq.trans {o n₀ : Nat} {a b c : World} (h : Kq o n₀ a b) (k : Kq o n₀ b c) : Kq o n₀ a c :=
  ⟨k.os.trans h.os, k.tape.trans h.tape, k.output.trans h.output, Nat.le_trans h.size k.size, fun i hi hne => (k.block i hi hne).trans (h.block i hi hne)⟩
theorem Kq.of_ext {o n₀ : Nat} {w w' : World} (h : Ext w w') (hn : n₀ ≤ w.heap.size) : Kq o n₀ w w' := ⟨h.os, h.tape, h.output, h.size, fun k hk _ => Below.block h k (by omega)⟩
theorem PAt.kq {w w' : World} {A : Option Addr} {l : List Pt} {o n₀ : Nat} (h : PAt w A l) (hk : Kq o n₀ w w') (hA : 0 < l.length → ∀ b o', A = some ⟨b, o', none⟩ → b < n₀ ∧ b ≠ o) : PAt w' A l := fun k hk' => by
  obtain ⟨b, o', e, p0, p1, p2⟩ := h k hk'
  obtain ⟨h1, h2⟩ := hA (by omega) b o' e
  have hb := hk.block b h1 h2
  exact ⟨b, o', e, (World.cell?_of_block hb).trans p0, (World.cell?_of_block hb).trans p1, (World.cell?_of_block hb).trans p2⟩
theorem SAt.kq {w w' : World} {A : Option Addr} {l : List Sp} {o n₀ : Nat} (h : SAt w A l) (hk : Kq o n₀ w w') (hA : 0 < l.length → ∀ b o', A = some ⟨b, o', none⟩ → b < n₀ ∧ b ≠ o) : SAt w' A l := fun k hk' => by
  obtain ⟨b, o', e, p0, p1⟩ := h k hk'
  obtain ⟨h1, h2⟩ := hA (by omega) b o' e
  have hb := hk.block b h1 h2
  exact ⟨b, o', e, (World.cell?_of_block hb).trans p0, (World.cell?_of_block hb).trans p1⟩
/-- Besides, nothing has turned but o and what Rw says. -/
def Ky (o n₀ : Nat) (Rw : World → Nat → Prop) (w w' : World) : Prop := Kq o n₀ w w' ∧ ∀ g, g < w.heap.size → g ≠ o → ¬ Rw w g → w'.heap[g]? = w.heap[g]?
/-- All was told, or somebody stopped. -/
def Ended (J Jx : List Pt → World → Prop) (l : List Pt) (w : World) : Prop := J l w ∨ ∃ L, L <+: l ∧ Jx L w
/-- What Can hands back. -/
def CanPost (w : World) (B : Option Addr) (d : Nat) (S : List Sp) (P : List Pt) (e : Ending) (w' : World) : Prop :=
  ∃ bl bh A c, e = .returned (.func (.func 48) #[] #[.pointer (some ⟨bl, 0, none⟩), .pointer (some ⟨bh, 0, none⟩)]) ∧ Hid (w'.heap[bl]? = some (.cells #[.slice A P.length c] 22 (0, 0)) ∧ w'.heap[bh]? = some (.cells #[.slice B S.length d] 34 (0, 0)) ∧ PAt w' A P ∧ w.heap.size ≤ bl ∧ w.heap.size ≤ bh ∧ NewA w A) ∧ Ext w w'

set_option maxHeartbeats 4000000 in
set_option maxRecDepth 100000 in
theorem can_calls (lo hi pb : Nat) (P : List Pt) (n : Int) (B : Option Addr) (d : Nat) (S : List Sp) (w : World) (h : BodyAt lo hi w pb P n) (hl : P.length ≤ 1000) :
    Calls Try.prog 26 #[.pointer (some ⟨pb, 0, none⟩), .agg #[.slice B S.length d]] w (CanPost w B d S P) := by
  have hmf : ∀ (fn : Fn) (first cap : Array Value) (w : World), (Instr.makeFunc fn first cap).run Try.prog w = .ok (.func fn first cap) w := fun _ _ _ _ => rfl
  have hx0 : Ext w ((w.alloc (.cells #[.slice B S.length d] 34)).alloc (.cells #[.slice none 0 0] 22)) := ((Ext.refl w).alloc _).alloc _
  have hb1 := ((Ext.refl _).alloc (.cells #[.slice none 0 0] 22)).block (heap_alloc_new w (.cells #[.slice B S.length d] 34))
  have hb2 : ((w.alloc (.cells #[.slice B S.length d] 34)).alloc (.cells #[.slice none 0 0] 22)).heap[w.heap.size + 1]? = some (.cells #[.slice none 0 0] 22 (0, 0)) := by
    have := heap_alloc_new (w.alloc (.cells #[.slice B S.length d] 34)) (.cells #[.slice none 0 0] 22)
    simpa using this
  obtain ⟨A, c, h1, _, _, _, hL⟩ := h
  have HP := Lib.hid (hL.pat.ext hx0)
  have hpw := (Array.getElem?_eq_some_iff.1 h1).1
  have h2 := hx0.block h1
  clear h1 hL
  go_enter Try.func26, Try.ntmps26
  go_upto_region 3 with (fail)
  generalize ((w.alloc (.cells #[.slice B S.length d] 34)).alloc (.cells #[.slice none 0 0] 22)) = wa at *
  have c0 : wa.cell? ⟨pb, 0, none⟩ = some (.slice A P.length c) := by rw [cell_of_block h2]; rfl
  have t0 : wa.cell? ⟨w.heap.size + 1, 0, none⟩ = some (.slice none 0 0) := by rw [cell_of_block hb2]; rfl
  have hwa : w.heap.size + 1 < wa.heap.size := (Array.getElem?_eq_some_iff.1 hb2).1
  have HB1 := Lib.hid hb1
  have HB2 := Lib.hid hb2
  have hown0 : wa.drew.ownsRow wa.heap.size 40 3 (.slice none 0 0) 0 [] := World.ownsRow_nil _ _ _ _
  have hR := HP.out.drew_.reads
  have hsz : wa.heap.size ≤ wa.drew.heap.size := Nat.le_refl _
  have HXD := Lib.hid (Ext.refl wa).drew
  clear hb1 hb2 h2
  go_region_law (refine step_append_src _ (by rfl) _ _ 22 (by rfl) wa.heap.size 40 _ 3 32 Try.underlying22 infoPart rfl (by omega) (.slice none 0 0) 0 [] (by rfl) hown0 _ _ _ _ (pts P) (by rfl) hR (pts_plain _) (by simp [maxLen] <;> omega) (by omega) hsz ?_; intro v1 w3 hown1 hm1; rw [Nat.zero_add, List.nil_append] at hown1; obtain ⟨A1, c1, rfl, _⟩ := own_shape hown1; have hx3 := ext_moved HXD.out hown0 hm1; have hb5 := hx3.block HB2.out; have t5 : w3.cell? ⟨w.heap.size + 1, 0, none⟩ = some (.slice none 0 0) := (by rw [cell_of_block hb5]; rfl); have f5 : ∀ j, w3.frozen? ⟨w.heap.size + 1, j, none⟩ = false := (fun j => frozen_of_block hb5 j))
  all_goals
    have hb3 := hx3.block HB1.out
    have HO := Lib.hid hown1
    clear hm1 hown1 hown0 hR
    go_wp2
    go_ret
    have hx4 := ((hx0.trans hx3).setCell (p := ⟨w.heap.size + 1, 0, none⟩) (by show w.heap.size ≤ w.heap.size + 1; omega) (.slice A1 P.length c1))
    have hnb : (Value.slice A1 P.length c1).ownBlock ≠ some (w.heap.size + 1) := fun e => by
      have := own_base HO.out e
      omega
    refine ⟨w.heap.size + 1, w.heap.size, A1, c1, rfl, Lib.hid ⟨?_, ?_, ?_, by omega, Nat.le_refl _, fun b o e => ?_⟩, ?_⟩
    · exact (heap_setCell_same _ _ _ _ _ _ hb5).trans rfl
    · exact (Below.heap_setCell _ _ _ _ (by simp)).trans hb3
    · exact pat_of_own (own_set HO.out hnb _)
    · have := own_base HO.out (g := b) (by rw [e]; rfl)
      omega
    · first | exact hx4 | exact hx4.drew
theorem neqPart (s : List UInt8) (a b a' b' : Int) (w : World) : (binOp .neq 40 (.agg #[.string ⟨s.toArray⟩, .int .i64 a, .int .i64 b]) (.agg #[.string ⟨s.toArray⟩, .int .i64 a', .int .i64 b'])).run Try.prog w = .ok (.bool (!(a == a' && b == b'))) w := by
  have h1 : Try.prog.underlying 40 = some (.struct (Try.prog.fieldsOf 40)) := by kernel_rfl
  have h2 : Try.prog.stoodInHeld 40 = false := by kernel_rfl
  rw [run_neq_struct, run_equalIn_agg _ _ _ _ _ h1 h2]
  simp [go_sem]
  by_cases x1 : a = a' <;> by_cases x2 : b = b' <;> simp [x1, x2]
theorem guardPart : Try.prog.eqGuardType Try.prog.depth 40 = false := by kernel_rfl

set_option maxHeartbeats 4000000 in
set_option maxRecDepth 100000 in
theorem iter_calls (y o n₀ bl bh : Nat) (hent : ∀ (args : Array Value) (w : World), (callFunc y args).run Try.prog w = .ok (.enter y args) w) (P : List Pt) (A : Option Addr) (c : Nat) (B : Option Addr) (d : Nat) (S : List Sp) (J Jx : List Pt → World → Prop)
    (Rw : World → Nat → Prop) (ho : o < n₀) (hRw : ∀ L w w' g, J L w → Ext w w' → Rw w' g → g < w.heap.size) (hJ : ∀ L w w', J L w → Ext w w' → J L w') (hN : Norm S) (hlS : S.length ≤ 1000000)
    (hy : ∀ L q w, J L w → (L ++ [q]) <+: pcanL S P → n₀ ≤ w.heap.size → Calls Try.prog y #[.agg #[.string ⟨q.s.toArray⟩, .int .i64 q.f, .int .i64 q.t], .pointer (some ⟨o, 0, none⟩)] w fun e w' =>
      ∃ r, e = .returned (.bool r) ∧ Ky o n₀ Rw w w' ∧ (r = true → J (L ++ [q]) w') ∧ (r = false → Jx (L ++ [q]) w'))
    (w : World) (hn : n₀ ≤ w.heap.size) (hl : w.heap[bl]? = some (.cells #[.slice A P.length c] 22 (0, 0))) (hh : w.heap[bh]? = some (.cells #[.slice B S.length d] 34 (0, 0)))
    (_ : bl < n₀ ∧ bl ≠ o) (hho : bh < n₀ ∧ bh ≠ o) (hP : PAt w A P) (hA : 0 < P.length → ∀ b o', A = some ⟨b, o', none⟩ → b < n₀ ∧ b ≠ o) (hS : SAt w B S) (hB : 0 < S.length → ∀ b o', B = some ⟨b, o', none⟩ → b < n₀ ∧ b ≠ o) (hlen : P.length ≤ 1000000) (hJ0 : J [] w) :
    Calls Try.prog 48 #[.func (.func y) #[] #[.pointer (some ⟨o, 0, none⟩)], .pointer (some ⟨bl, 0, none⟩), .pointer (some ⟨bh, 0, none⟩)] w fun e w' =>
      e = .returned (.tuple #[]) ∧ Kq o n₀ w w' ∧ Ended J Jx (pcanL S P) w' := by
  have l0 : w.cell? ⟨bl, 0, none⟩ = some (.slice A P.length c) := by rw [cell_of_block hl]; rfl
  go_enter Try.func48, Try.ntmps48
  go_wp2
  clear l0
  go_loopw [10] (fun i wr => ∃ k : Nat, k ≤ P.length ∧ i = .int .i64 k ∧ Kq o n₀ w wr ∧ J (P.take k) wr ∧ Hid (pcanL S P = P.take k ++ pcanL S (P.drop k))) (fun i _ => P.length - (intOf i).toNat)
  case atStart => exact ⟨0, Nat.zero_le _, rfl, Kq.refl _ _ _, hJ0, Lib.hid rfl⟩
  case round =>
    obtain ⟨k, hk, rfl, hkq, hj, hpc⟩ := hrel
    by_cases hlt : k < P.length
    · obtain ⟨b, o', rfl, p0, p1, p2⟩ := (hP.kq hkq hA) k hlt
      have hts : P.take (k + 1) = P.take k ++ [P[k]] := List.take_succ_eq_append_getElem hlt
      have hd : P.drop k = P[k] :: P.drop (k + 1) := List.drop_eq_getElem_cons hlt
      rw [hd] at hpc
      have hh1 := (hkq.block _ hho.1 hho.2).trans hh
      have h0 : wr.cell? ⟨bh, 0, none⟩ = some (.slice B S.length d) := by rw [cell_of_block hh1]; rfl
      have hSr := hS.kq hkq hB
      have hnr : n₀ ≤ wr.heap.size := Nat.le_trans hn hkq.size
      generalize hp : P[k] = p at *
      have hHlt := (Array.getElem?_eq_some_iff.1 hh1).1
      have HTS := Lib.hid hts
      have HH1 := Lib.hid hh1
      rcases p with ⟨s, f, t⟩
      simp only at p0 p1 p2
      have hxp : Ext wr (wr.alloc (.cells #[.string ⟨s.toArray⟩, .int .i64 f, .int .i64 t] 40)) := (Ext.refl wr).alloc _
      have bp := heap_alloc_new wr (.cells #[.string ⟨s.toArray⟩, .int .i64 f, .int .i64 t] 40)
      have HRD := Lib.hid (ready_calls s f t B d S _ (hSr.ext hxp) hN hlS)
      replace h0 := hxp.cell h0
      clear hts hd hh1 hh hl hP hSr hS hp
      go_wp2_with fail
      generalize (wr.alloc (.cells #[.string ⟨s.toArray⟩, .int .i64 f, .int .i64 t] 40)) = wa at *
      refine HRD.out.mono ?_
      rintro e w1 ⟨rfl, hx1⟩
      have hxr := hxp.trans hx1
      replace bp := hx1.block bp
      have y0 : w1.cell? ⟨wr.heap.size, 0, none⟩ = some (.string ⟨s.toArray⟩) := by rw [cell_of_block bp]; rfl
      have y1 : w1.cell? ⟨wr.heap.size, 1, none⟩ = some (.int .i64 f) := by rw [cell_of_block bp]; rfl
      have y2 : w1.cell? ⟨wr.heap.size, 2, none⟩ = some (.int .i64 t) := by rw [cell_of_block bp]; rfl
      have hrb : wr.heap.size < w1.heap.size := (Array.getElem?_eq_some_iff.1 bp).1
      have BP := Lib.hid bp
      clear HRD hx1 hxp bp p0 p1 p2 h0
      cases hR : readyS ⟨s, f, t⟩ S with
      | none =>
        have HF : Hid (pcanL S P = P.take k) := Lib.hid (by rw [hpc.out]; simp [pcanL, hR])
        have hv : optP none = .agg #[.string ⟨#[]⟩, .int .i64 0, .int .i64 0] := rfl
        rw [hv]
        have hjx := hJ _ _ _ hj (hxr.alloc (.cells #[.string ⟨#[]⟩, .int .i64 0, .int .i64 0] 40))
        have hkx := hkq.trans (Kq.of_ext (o := o) (hxr.alloc (.cells #[.string ⟨#[]⟩, .int .i64 0, .int .i64 0] 40)) hnr)
        clear hv hR hpc
        go_wp2
        refine bodyPost_ret (results_none rfl _ _ _) rfl ⟨rfl, hkx, ?_⟩
        rw [HF.out]; exact .inl hjx
      | some q =>
        have hqs : q.s = s := by
          unfold readyS at hR
          by_cases hs : s = []
          · simp only [hs, if_true] at hR
            split at hR
            · split at hR
              · cases hR; exact hs.symm
              · cases hR
            · cases hR
          · simp only [hs, if_false] at hR
            cases hR; rfl
        rcases q with ⟨qs, qf, qt⟩
        simp only at hqs
        subst hqs
        have hv : optP (some ⟨qs, qf, qt⟩) = .agg #[.string ⟨qs.toArray⟩, .int .i64 qf, .int .i64 qt] := rfl
        rw [hv]
        have hpc2 : pcanL S P = P.take k ++ (⟨qs, qf, qt⟩ :: (if (⟨qs, qf, qt⟩ : Pt) = ⟨qs, f, t⟩ then pcanL S (P.drop (k + 1)) else [])) := by rw [hpc.out]; simp only [pcanL, hR]
        have HPC := Lib.hid hpc2
        have hpre : P.take k ++ [⟨qs, qf, qt⟩] <+: pcanL S P := by
          rw [hpc2]
          exact ⟨if (⟨qs, qf, qt⟩ : Pt) = ⟨qs, f, t⟩ then pcanL S (P.drop (k + 1)) else [], by simp⟩
        have HPRE := Lib.hid hpre
        have hxc : Ext wr (w1.alloc (.cells #[.string ⟨qs.toArray⟩, .int .i64 qf, .int .i64 qt] 40)) := hxr.alloc _
        have hyy := hy (P.take k) ⟨qs, qf, qt⟩ (w1.alloc (.cells #[.string ⟨qs.toArray⟩, .int .i64 qf, .int .i64 qt] 40)) (hJ _ _ _ hj hxc) hpre (Nat.le_trans hnr hxc.size)
        have HYY := Lib.hid hyy
        have bp2 := ((Ext.refl w1).alloc (.cells #[.string ⟨qs.toArray⟩, .int .i64 qf, .int .i64 qt] 40)).block BP.out
        have bc2 := heap_alloc_new w1 (.cells #[.string ⟨qs.toArray⟩, .int .i64 qf, .int .i64 qt] 40)
        have hkq2 := hkq.trans (Kq.of_ext (o := o) hxc hnr)
        have hrw := hRw _ _ _ wr.heap.size hj hxc
        have hrw1 := hRw _ _ _ w1.heap.size hj hxc
        have HRW := Lib.hid (And.intro hrw hrw1)
        have hxc1 := (Array.getElem?_eq_some_iff.1 bc2).1
        have hq := neqPart qs qf qt f t
        have hgp := guardPart
        clear hv hR hpc hpc2 hpre hyy hxc hj hrw hrw1
        go_wp2_with fail
        generalize (w1.alloc (.cells #[.string ⟨qs.toArray⟩, .int .i64 qf, .int .i64 qt] 40)) = wb at *
        refine HYY.out.mono ?_
        rintro e w2 ⟨r, rfl, ⟨hk3, hkb⟩, ht, hf⟩
        have bp3 := (hkb wr.heap.size (by omega) (by omega) (fun hr => absurd (HRW.out.1 hr) (Nat.lt_irrefl _))).trans bp2
        have bc3 := (hkb w1.heap.size hxc1 (by omega) (fun hr => absurd (HRW.out.2 hr) (by omega))).trans bc2
        have y0 : w2.cell? ⟨wr.heap.size, 0, none⟩ = some (.string ⟨qs.toArray⟩) := by rw [cell_of_block bp3]; rfl
        have y1 : w2.cell? ⟨wr.heap.size, 1, none⟩ = some (.int .i64 f) := by rw [cell_of_block bp3]; rfl
        have y2 : w2.cell? ⟨wr.heap.size, 2, none⟩ = some (.int .i64 t) := by rw [cell_of_block bp3]; rfl
        have z0 : w2.cell? ⟨w1.heap.size, 0, none⟩ = some (.string ⟨qs.toArray⟩) := by rw [cell_of_block bc3]; rfl
        have z1 : w2.cell? ⟨w1.heap.size, 1, none⟩ = some (.int .i64 qf) := by rw [cell_of_block bc3]; rfl
        have z2 : w2.cell? ⟨w1.heap.size, 2, none⟩ = some (.int .i64 qt) := by rw [cell_of_block bc3]; rfl
        have hkq4 := hkq2.trans hk3
        have HT := Lib.hid ht
        have HF := Lib.hid hf
        clear HYY bp2 bc2 bp3 bc3 hkb ht hf hk3
        cases r
        · go_wp2
          exact bodyPost_ret (results_none rfl _ _ _) rfl ⟨rfl, hkq4, .inr ⟨_, HPRE.out, HF.out (by simp)⟩⟩
        · cases e2 : (qf == f && qt == t)
          · have hne : ¬ (⟨qs, qf, qt⟩ : Pt) = ⟨qs, f, t⟩ := fun e => by injection e with _ e3 e4; rw [e3, e4] at e2; simp at e2
            have HE : Hid (pcanL S P = P.take k ++ [⟨qs, qf, qt⟩]) := Lib.hid (by rw [HPC.out, if_neg hne])
            rw [e2] at hq
            clear hne
            go_wp2
            refine bodyPost_ret (results_none rfl _ _ _) rfl ⟨rfl, hkq4, .inl ?_⟩
            rw [HE.out]; exact HT.out (by simp)
          · have hne : (⟨qs, qf, qt⟩ : Pt) = ⟨qs, f, t⟩ := by simp at e2; rw [e2.1, e2.2]
            have HE : Hid (pcanL S P = P.take (k + 1) ++ pcanL S (P.drop (k + 1))) := Lib.hid (by rw [HPC.out, if_pos hne, hne, HTS.out]; simp)
            have HJ1 : Hid (J (P.take (k + 1)) w2) := Lib.hid (by rw [HTS.out, ← hne]; exact HT.out rfl)
            rw [e2] at hq
            clear hne
            go_wp2
            go_roundw
            case rel => exact ⟨k + 1, by omega, by go_num, hkq4, HJ1.out, HE⟩
            case measure => simp [intOf]; omega
    · obtain rfl : k = P.length := by omega
      have HF : Hid (pcanL S P = P) := Lib.hid (by rw [hpc.out, List.take_length, List.drop_length]; simp [pcanL])
      rw [List.take_length] at hj
      go_wp2
      go_end0
      exact ⟨rfl, hkq, .inl (by rw [HF.out]; exact hj)⟩

end Go.Proofs.Ytcdokpkffbigdaa
