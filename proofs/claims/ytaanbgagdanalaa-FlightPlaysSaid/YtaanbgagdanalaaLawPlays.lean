/- The walk of FlightPlays. -/
import Derived.Test.YtaanbgagdanalaaAllL
import Derived.Test.YtaanbgagdanalaaRUnh
namespace Go.Proofs.Ytaanbgagdanalaa
open Go.RowKit

def ListI (w : World) (l : List Int) (e : Ending) (w' : World) : Prop := ∃ A c, e = .returned (.slice A l.length c) ∧ Hid (RowI w' A l) ∧ Ext w w'
theorem NumPost.list {w w' : World} {l : List Int} {e : Ending} (h : NumPost w l e w') : ListI w l e w' := by
  obtain ⟨v, h1, h2, h3⟩ := h
  obtain ⟨_, A, c, rfl, _, h4⟩ := row_ints h2
  exact ⟨A, c, h1, Lib.hid h4, h3⟩
theorem of_len (t : Tab) (q : Int) : (t.of q).length ≤ t.l.length := by
  unfold Tab.of
  rw [List.length_map]
  exact List.length_filter_le _ _
theorem unheard_len (t : Tab) (o : ByteArray) : (t.unheard o).length ≤ t.l.length := by
  unfold Tab.unheard
  rw [List.length_map]
  exact List.length_filter_le _ _
theorem get_two (t : Tab) (id : Int) : (t.get id).2 = (place t.l id).isSome ∧ ((t.get id).2 = false → (t.get id).1 = FZ) := by
  unfold Tab.get
  cases place t.l id <;> simp
theorem stage21 {w0 w : World} {tb xb cb : Nat} {O C : List Nat} {s x : Tab} {a : Op} (h : Stage w0 w tb O s xb C x ((cb, (#[.int .u8 a.kind, .int .i64 a.f.id, .string a.f.obj, .int .i64 a.f.fr, .int .i64 a.f.to, .string a.f.mt, .bool a.f.mw, .string a.f.nt, .bool a.f.nw, .int .i64 a.f.en, .int .i64 a.f.sa, .int .i64 a.f.mo, .int .i64 a.f.ge, .int .i64 a.f.pl, .bool a.f.he, .int .i64 a.id, .int .i64 a.who, .int .i64 a.en, .int .i64 a.n, .int .i64 a.to, .string a.obj] : Array Value).toList) :: [])) : w.rangeAt cb 0 (#[.int .u8 a.kind, .int .i64 a.f.id, .string a.f.obj, .int .i64 a.f.fr, .int .i64 a.f.to, .string a.f.mt, .bool a.f.mw, .string a.f.nt, .bool a.f.nw, .int .i64 a.f.en, .int .i64 a.f.sa, .int .i64 a.f.mo, .int .i64 a.f.ge, .int .i64 a.f.pl, .bool a.f.he, .int .i64 a.id, .int .i64 a.who, .int .i64 a.en, .int .i64 a.n, .int .i64 a.to, .string a.obj] : Array Value).toList ∧ w.cell? ⟨cb, 16, none⟩ = some (.int .i64 a.who) ∧ w.cell? ⟨cb, 20, none⟩ = some (.string a.obj) := ⟨fun j v hv => by rw [Nat.zero_add]; exact h.cell j hv, h.cell 16 rfl, h.cell 20 rfl⟩
def PlayPost (w0 : World) (tb xb : Nat) (t' : Tab) (B : List (Nat × List Value)) (e : Ending) (w' : World) : Prop := e = .returned (.bool true) ∧ ∃ O' C', Hid (Stage w0 w' tb O' t' xb C' t' B)

set_option maxHeartbeats 4000000 in
set_option maxRecDepth 100000 in
theorem lawPlays_calls (A : Option Addr) (c : Nat) (l : List Op) (w : World) (hr : Ops w A l ∧ l.length ≤ maxLen) :
    Calls Try.prog 6 #[.slice A l.length c] w fun e w' => e = .returned (.bool true) ∧ Ext w w' := by
  obtain ⟨hr, hm⟩ := hr
  go_enter Try.func6, Try.ntmps6
  go_wp2_with fail
  refine (small_calls A c l w hr hm).mono ?_
  rintro e w1 ⟨b, rfl, hb, hx1⟩
  cases b
  · clear hb
    go_wp2_with fail
    refine (awake_calls _).mono ?_
    rintro e w2 ⟨rfl, hx⟩
    go_wp2
    go_ret
    exact ⟨rfl, hx1.trans hx⟩
  have hlen : l.length ≤ 60 := hb rfl
  replace hr := hr.ext hx1
  clear hb hm
  go_wp2_with fail
  refine (new_calls w1).mono ?_
  rintro e w2 ⟨rfl, h2⟩
  have HS0 := Lib.hid (Stage.first h2)
  clear h2
  go_wp2
  generalize w2.heap.size = xb at *
  generalize w2.alloc (.cells #[.slice none 0 0, .int .i64 0] 51) = w3 at *
  go_loopw [20] (fun i wr => ∃ (k : Nat) (O C : List Nat), k ≤ l.length ∧ i = .int .i64 k ∧ Stage w1 wr w1.heap.size O (runs l k) xb C (runs l k) []) (fun i _ => l.length - (intOf i).toNat)
  case atStart => exact ⟨0, _, _, Nat.zero_le _, rfl, HS0.out⟩
  case round =>
    obtain ⟨k, O, C, hk, rfl, hS⟩ := hrel
    by_cases hlt : k < l.length
    · obtain ⟨hkk, g, og, rfl, hro⟩ := hr k hlt
      have hup := runs_upto l k hk
      have hup2 := runs_upto l (k + 1) hlt
      have hst := runs_succ hlt
      obtain ⟨a, ha⟩ : ∃ a, l[k] = a := ⟨_, rfl⟩
      rw [ha] at hro hkk hst
      have hra : wr.rangeAt g (og + k * 21) [.int .u8 a.kind, .int .i64 a.f.id, .string a.f.obj, .int .i64 a.f.fr, .int .i64 a.f.to, .string a.f.mt, .bool a.f.mw, .string a.f.nt, .bool a.f.nw, .int .i64 a.f.en, .int .i64 a.f.sa, .int .i64 a.f.mo, .int .i64 a.f.ge, .int .i64 a.f.pl, .bool a.f.he, .int .i64 a.id, .int .i64 a.who, .int .i64 a.en, .int .i64 a.n, .int .i64 a.to, .string a.obj] := fun j u hu => hS.ext.cell (hro j u hu)
      have ht : (wr.alloc (.cells #[.int .u8 0, .int .i64 0, .string ⟨#[]⟩, .int .i64 0, .int .i64 0, .string ⟨#[]⟩, .bool false, .string ⟨#[]⟩, .bool false, .int .i64 0, .int .i64 0, .int .i64 0, .int .i64 0, .int .i64 0, .bool false, .int .i64 0, .int .i64 0, .int .i64 0, .int .i64 0, .int .i64 0, .string ⟨#[]⟩] 53)).there wr.heap.size 0 21 := there_of_block (heap_alloc_new wr _) rfl
      have HC := Lib.hid (hS.copy #[.int .u8 0, .int .i64 0, .string ⟨#[]⟩, .int .i64 0, .int .i64 0, .string ⟨#[]⟩, .bool false, .string ⟨#[]⟩, .bool false, .int .i64 0, .int .i64 0, .int .i64 0, .int .i64 0, .int .i64 0, .bool false, .int .i64 0, .int .i64 0, .int .i64 0, .int .i64 0, .int .i64 0, .string ⟨#[]⟩] 53 (#[.int .u8 a.kind, .int .i64 a.f.id, .string a.f.obj, .int .i64 a.f.fr, .int .i64 a.f.to, .string a.f.mt, .bool a.f.mw, .string a.f.nt, .bool a.f.nw, .int .i64 a.f.en, .int .i64 a.f.sa, .int .i64 a.f.mo, .int .i64 a.f.ge, .int .i64 a.f.pl, .bool a.f.he, .int .i64 a.id, .int .i64 a.who, .int .i64 a.en, .int .i64 a.n, .int .i64 a.to, .string a.obj] : Array Value).toList rfl)
      have HR := Lib.hid hst
      have hsm := hup.small (by omega)
      have hsm2 := hup2.small (by omega)
      obtain ⟨t, ht0⟩ : ∃ t, runs l k = t := ⟨_, rfl⟩
      rw [hst, ht0] at hsm2
      rw [ht0] at HR HC hsm
      clear hro hst hup hup2 ha hr ht0 hS HS0
      go_upto_region 10 with (first | (refine wpList_load_mid rfl 53 _ rfl g (og + k * 21) (by rfl) _ _ hra Try.underlying53 rfl size53 ?_) | (refine wpList_store_mid rfl 53 _ _ rfl wr.heap.size 0 #[.int .u8 a.kind, .int .i64 a.f.id, .string a.f.obj, .int .i64 a.f.fr, .int .i64 a.f.to, .string a.f.mt, .bool a.f.mw, .string a.f.nt, .bool a.f.nw, .int .i64 a.f.en, .int .i64 a.f.sa, .int .i64 a.f.mo, .int .i64 a.f.ge, .int .i64 a.f.pl, .bool a.f.he, .int .i64 a.id, .int .i64 a.who, .int .i64 a.en, .int .i64 a.n, .int .i64 a.to, .string a.obj] rfl rfl ht size53 (by simp [Value.oneCell']) ?_))
      generalize (wr.alloc (.cells #[.int .u8 0, .int .i64 0, .string ⟨#[]⟩, .int .i64 0, .int .i64 0, .string ⟨#[]⟩, .bool false, .string ⟨#[]⟩, .bool false, .int .i64 0, .int .i64 0, .int .i64 0, .int .i64 0, .int .i64 0, .bool false, .int .i64 0, .int .i64 0, .int .i64 0, .int .i64 0, .int .i64 0, .string ⟨#[]⟩] 53)).setCells wr.heap.size 0 (#[.int .u8 a.kind, .int .i64 a.f.id, .string a.f.obj, .int .i64 a.f.fr, .int .i64 a.f.to, .string a.f.mt, .bool a.f.mw, .string a.f.nt, .bool a.f.nw, .int .i64 a.f.en, .int .i64 a.f.sa, .int .i64 a.f.mo, .int .i64 a.f.ge, .int .i64 a.f.pl, .bool a.f.he, .int .i64 a.id, .int .i64 a.who, .int .i64 a.en, .int .i64 a.n, .int .i64 a.to, .string a.obj] : Array Value).toList = wn at *
      generalize hcb : wr.heap.size = cb at *
      clear hcb hra ht
      obtain ⟨t', ht'⟩ : ∃ t', t.step a = t' := ⟨_, rfl⟩
      have fD : ∀ W O C, Hid (Stage w1 W w1.heap.size O t xb C t ((cb, (#[.int .u8 a.kind, .int .i64 a.f.id, .string a.f.obj, .int .i64 a.f.fr, .int .i64 a.f.to, .string a.f.mt, .bool a.f.mw, .string a.f.nt, .bool a.f.nw, .int .i64 a.f.en, .int .i64 a.f.sa, .int .i64 a.f.mo, .int .i64 a.f.ge, .int .i64 a.f.pl, .bool a.f.he, .int .i64 a.id, .int .i64 a.who, .int .i64 a.en, .int .i64 a.n, .int .i64 a.to, .string a.obj] : Array Value).toList) :: [])) → Calls Try.prog 18 #[.pointer (some ⟨w1.heap.size, 0, none⟩), .pointer (some ⟨xb, 0, none⟩), .agg #[.int .u8 a.kind, .int .i64 a.f.id, .string a.f.obj, .int .i64 a.f.fr, .int .i64 a.f.to, .string a.f.mt, .bool a.f.mw, .string a.f.nt, .bool a.f.nw, .int .i64 a.f.en, .int .i64 a.f.sa, .int .i64 a.f.mo, .int .i64 a.f.ge, .int .i64 a.f.pl, .bool a.f.he, .int .i64 a.id, .int .i64 a.who, .int .i64 a.en, .int .i64 a.n, .int .i64 a.to, .string a.obj]] W (PlayPost w1 w1.heap.size xb t' ((cb, (#[.int .u8 a.kind, .int .i64 a.f.id, .string a.f.obj, .int .i64 a.f.fr, .int .i64 a.f.to, .string a.f.mt, .bool a.f.mw, .string a.f.nt, .bool a.f.nw, .int .i64 a.f.en, .int .i64 a.f.sa, .int .i64 a.f.mo, .int .i64 a.f.ge, .int .i64 a.f.pl, .bool a.f.he, .int .i64 a.id, .int .i64 a.who, .int .i64 a.en, .int .i64 a.n, .int .i64 a.to, .string a.obj] : Array Value).toList) :: [])) := fun W O C hh =>
        (do_calls w1 w1.heap.size xb O C t ((cb, (#[.int .u8 a.kind, .int .i64 a.f.id, .string a.f.obj, .int .i64 a.f.fr, .int .i64 a.f.to, .string a.f.mt, .bool a.f.mw, .string a.f.nt, .bool a.f.nw, .int .i64 a.f.en, .int .i64 a.f.sa, .int .i64 a.f.mo, .int .i64 a.f.ge, .int .i64 a.f.pl, .bool a.f.he, .int .i64 a.id, .int .i64 a.who, .int .i64 a.en, .int .i64 a.n, .int .i64 a.to, .string a.obj] : Array Value).toList) :: []) a W hh.out hsm hkk).mono fun e w' ⟨h1, O', C', h2⟩ => ⟨h1, O', C', by rw [← ht']; exact Lib.hid h2⟩
      rw [ht'] at hsm2 HR
      have fA : ∀ W O C, Hid (Stage w1 W w1.heap.size O t' xb C t' ((cb, (#[.int .u8 a.kind, .int .i64 a.f.id, .string a.f.obj, .int .i64 a.f.fr, .int .i64 a.f.to, .string a.f.mt, .bool a.f.mw, .string a.f.nt, .bool a.f.nw, .int .i64 a.f.en, .int .i64 a.f.sa, .int .i64 a.f.mo, .int .i64 a.f.ge, .int .i64 a.f.pl, .bool a.f.he, .int .i64 a.id, .int .i64 a.who, .int .i64 a.en, .int .i64 a.n, .int .i64 a.to, .string a.obj] : Array Value).toList) :: [])) → Calls Try.prog 24 #[.pointer (some ⟨w1.heap.size, 0, none⟩), .pointer (some ⟨xb, 0, none⟩)] W fun e w' => e = .returned (.bool true) ∧ Ext W w' := fun W O C hh => allL_calls w1.heap.size w1.heap.size xb O C t' W hh.out.t hh.out.r hsm2
      have f1 : ∀ W O C, Hid (Stage w1 W w1.heap.size O t' xb C t' ((cb, (#[.int .u8 a.kind, .int .i64 a.f.id, .string a.f.obj, .int .i64 a.f.fr, .int .i64 a.f.to, .string a.f.mt, .bool a.f.mw, .string a.f.nt, .bool a.f.nw, .int .i64 a.f.en, .int .i64 a.f.sa, .int .i64 a.f.mo, .int .i64 a.f.ge, .int .i64 a.f.pl, .bool a.f.he, .int .i64 a.id, .int .i64 a.who, .int .i64 a.en, .int .i64 a.n, .int .i64 a.to, .string a.obj] : Array Value).toList) :: [])) → Calls Try.prog 16 #[.pointer (some ⟨w1.heap.size, 0, none⟩), .int .i64 a.who] W (ListI W (t'.of a.who)) := fun W O C hh => (of_calls w1.heap.size w1.heap.size O t' a.who W hh.out.t hsm2).mono fun _ _ h => h.list
      have f2 : ∀ W O C, Hid (Stage w1 W w1.heap.size O t' xb C t' ((cb, (#[.int .u8 a.kind, .int .i64 a.f.id, .string a.f.obj, .int .i64 a.f.fr, .int .i64 a.f.to, .string a.f.mt, .bool a.f.mw, .string a.f.nt, .bool a.f.nw, .int .i64 a.f.en, .int .i64 a.f.sa, .int .i64 a.f.mo, .int .i64 a.f.ge, .int .i64 a.f.pl, .bool a.f.he, .int .i64 a.id, .int .i64 a.who, .int .i64 a.en, .int .i64 a.n, .int .i64 a.to, .string a.obj] : Array Value).toList) :: [])) → Calls Try.prog 26 #[.pointer (some ⟨xb, 0, none⟩), .int .i64 a.who] W (ListI W (t'.of a.who)) := fun W O C hh => by
        obtain ⟨lv, hl⟩ : ∃ lv, RTabL w1.heap.size W xb lv C t' := hh.out.r
        exact (ofR_calls w1.heap.size xb lv C t' a.who W hl hsm2).mono fun _ _ h => h.list
      have f3 : ∀ W O C, Hid (Stage w1 W w1.heap.size O t' xb C t' ((cb, (#[.int .u8 a.kind, .int .i64 a.f.id, .string a.f.obj, .int .i64 a.f.fr, .int .i64 a.f.to, .string a.f.mt, .bool a.f.mw, .string a.f.nt, .bool a.f.nw, .int .i64 a.f.en, .int .i64 a.f.sa, .int .i64 a.f.mo, .int .i64 a.f.ge, .int .i64 a.f.pl, .bool a.f.he, .int .i64 a.id, .int .i64 a.who, .int .i64 a.en, .int .i64 a.n, .int .i64 a.to, .string a.obj] : Array Value).toList) :: [])) → Calls Try.prog 27 #[.pointer (some ⟨w1.heap.size, 0, none⟩), .string a.obj] W (ListI W (t'.unheard a.obj)) := fun W O C hh => (unheard_calls w1.heap.size w1.heap.size O t' a.obj W hh.out.t hsm2).mono fun _ _ h => h.list
      have f4 : ∀ W O C, Hid (Stage w1 W w1.heap.size O t' xb C t' ((cb, (#[.int .u8 a.kind, .int .i64 a.f.id, .string a.f.obj, .int .i64 a.f.fr, .int .i64 a.f.to, .string a.f.mt, .bool a.f.mw, .string a.f.nt, .bool a.f.nw, .int .i64 a.f.en, .int .i64 a.f.sa, .int .i64 a.f.mo, .int .i64 a.f.ge, .int .i64 a.f.pl, .bool a.f.he, .int .i64 a.id, .int .i64 a.who, .int .i64 a.en, .int .i64 a.n, .int .i64 a.to, .string a.obj] : Array Value).toList) :: [])) → Calls Try.prog 28 #[.pointer (some ⟨xb, 0, none⟩), .string a.obj] W (ListI W (t'.unheard a.obj)) := fun W O C hh => by
        obtain ⟨lv, hl⟩ : ∃ lv, RTabL w1.heap.size W xb lv C t' := hh.out.r
        exact (unheardR_calls w1.heap.size xb lv C t' a.obj W hl hsm2).mono fun _ _ h => h.list
      have hl1 : (t'.of a.who).length ≤ 1000 := Nat.le_trans (of_len t' a.who) hsm2.1
      have hl2 : (t'.unheard a.obj).length ≤ 1000 := Nat.le_trans (unheard_len t' a.obj) hsm2.1
      have HSM := Lib.hid hsm2
      have FD := Lib.hid fD
      have FA := Lib.hid fA
      have F1 := Lib.hid f1
      have F2 := Lib.hid f2
      have F3 := Lib.hid f3
      have F4 := Lib.hid f4
      generalize t'.of a.who = L1 at *
      generalize t'.unheard a.obj = L2 at *
      have HS := HC
      skip
      replace HS := Lib.hid (HS.out.step (Ext.refl _).drew)
      clear fD fA f1 f2 f3 f4 hsm hsm2 ht' hkk HC
      refine wp_region_held_drew (S := fun w' => w'.rangeAt cb 0 (#[.int .u8 a.kind, .int .i64 a.f.id, .string a.f.obj, .int .i64 a.f.fr, .int .i64 a.f.to, .string a.f.mt, .bool a.f.mw, .string a.f.nt, .bool a.f.nw, .int .i64 a.f.en, .int .i64 a.f.sa, .int .i64 a.f.mo, .int .i64 a.f.ge, .int .i64 a.f.pl, .bool a.f.he, .int .i64 a.id, .int .i64 a.who, .int .i64 a.en, .int .i64 a.n, .int .i64 a.to, .string a.obj] : Array Value).toList ∧ w'.cell? ⟨cb, 16, none⟩ = some (.int .i64 a.who) ∧ w'.cell? ⟨cb, 20, none⟩ = some (.string a.obj)) (by kernel_rfl) ?_ (fun hHeld => ?_)
      · exact stage21 HS.out
      refine wpAnyH_take (i := 0) (oi := ({ dst := some 24, op := Go.Op.move (Go.Operand.tmp 3), type := 32, pos := "law.go:111", after := #[], guard := none } : Go.Oper)) (v := ?_) rfl (by kernel_rfl) (by kernel_rfl) (by kernel_rfl) (fun _ _ _ h => h) (Or.inl ⟨by rfl, ?_⟩) (by assumption) ?_
      rotate_left
      · intro w hSw
        try dsimp only at hSw
        go_simp
        try with_reducible rfl
      try simp only [Act.put]
      try simp only [List.setIfInBounds_toArray]
      try simp only [List.set_cons_succ]
      try simp only [List.set_cons_zero]
      refine wpAnyH_take (i := 1) (oi := ({ dst := some 25, op := Go.Op.move (Go.Operand.tmp 4), type := 48, pos := "law.go:111", after := #[], guard := none } : Go.Oper)) (v := ?_) rfl (by kernel_rfl) (by kernel_rfl) (by kernel_rfl) (fun _ _ _ h => h) (Or.inl ⟨by rfl, ?_⟩) (by assumption) ?_
      rotate_left
      · intro w hSw
        try dsimp only at hSw
        go_simp
        try with_reducible rfl
      try simp only [Act.put]
      try simp only [List.setIfInBounds_toArray]
      try simp only [List.set_cons_succ]
      try simp only [List.set_cons_zero]
      refine' wpAnyH_take (i := 2) (oi := ({ dst := some 26, op := Go.Op.load 53 (Go.Operand.tmp 6), type := 53, pos := "law.go:111", after := #[], guard := none } : Go.Oper)) (v := _) rfl (by kernel_rfl) (by kernel_rfl) (by kernel_rfl) (fun _ _ _ h => h) (yieldsIf_load_mid (by rfl) 53 _ rfl cb 0 rfl _ _ (fun _ h => h.1) Try.underlying53 rfl size53) (by assumption) ?_
      try simp only [Act.put]
      try simp only [List.setIfInBounds_toArray]
      try simp only [List.set_cons_succ]
      try simp only [List.set_cons_zero]
      refine wpAnyH_ready (rs := [3]) (by kernel_rfl) (by simp) ?_
      refine AllReadyH.cons (o := ({ dst := some 27, op := Go.Op.call { callee := Go.Callee.value (Go.Operand.func 18), args := #[Go.Operand.tmp 24, Go.Operand.tmp 25, Go.Operand.tmp 26], argTypes := #[32, 48, 53] }, type := 4, pos := "law.go:111", after := #[{ on := 0, ground := Go.Ground.data }, { on := 1, ground := Go.Ground.data }, { on := 2, ground := Go.Ground.data }], guard := none } : Go.Oper)) rfl (fun K hK => ?_) AllReadyH.nil
      go_simp
      refine (FD.out _ _ _ HS).mono ?_
      rintro e wn ⟨rfl, O2, C2, HS2⟩
      clear HS
      have HS := HS2
      clear HS2
      refine hK.out _ _ ?_ (fun hHeld2 => ?_)
      · exact stage21 HS.out
      clear hHeld
      have hHeld := hHeld2
      clear hHeld2 hK K
      try simp only [Act.put]
      try simp only [List.setIfInBounds_toArray]
      try simp only [List.set_cons_succ]
      try simp only [List.set_cons_zero]
      refine wpAnyH_take (i := 4) (oi := ({ dst := some 28, op := Go.Op.unOp Go.UnOp.not 4 (Go.Operand.tmp 27), type := 4, pos := "law.go:111", after := #[{ on := 3, ground := Go.Ground.data }], guard := none } : Go.Oper)) (v := ?_) rfl (by kernel_rfl) (by kernel_rfl) (by kernel_rfl) (fun _ _ _ h => h) (Or.inl ⟨by rfl, ?_⟩) (by assumption) ?_
      rotate_left
      · intro w hSw
        try dsimp only at hSw
        go_simp
        try with_reducible rfl
      try simp only [Act.put]
      try simp only [List.setIfInBounds_toArray]
      try simp only [List.set_cons_succ]
      try simp only [List.set_cons_zero]
      refine wpAnyH_take (i := 5) (oi := ({ dst := some 29, op := Go.Op.move (Go.Operand.tmp 28), type := 4, pos := "law.go:111", after := #[{ on := 4, ground := Go.Ground.data }, { on := 3, ground := Go.Ground.chain }], guard := none } : Go.Oper)) (v := ?_) rfl (by kernel_rfl) (by kernel_rfl) (by kernel_rfl) (fun _ _ _ h => h) (Or.inl ⟨by rfl, ?_⟩) (by assumption) ?_
      rotate_left
      · intro w hSw
        try dsimp only at hSw
        go_simp
        try with_reducible rfl
      try simp only [Act.put]
      try simp only [List.setIfInBounds_toArray]
      try simp only [List.set_cons_succ]
      try simp only [List.set_cons_zero]
      refine wpAnyH_take (i := 6) (oi := ({ dst := some 30, op := Go.Op.move (Go.Operand.tmp 3), type := 32, pos := "law.go:111", after := #[{ on := 5, ground := Go.Ground.guard }], guard := some (5, false) } : Go.Oper)) (v := ?_) rfl (by kernel_rfl) (by kernel_rfl) (by kernel_rfl) (fun _ _ _ h => h) (Or.inl ⟨by rfl, ?_⟩) (by assumption) ?_
      rotate_left
      · intro w hSw
        try dsimp only at hSw
        go_simp
        try with_reducible rfl
      try simp only [Act.put]
      try simp only [List.setIfInBounds_toArray]
      try simp only [List.set_cons_succ]
      try simp only [List.set_cons_zero]
      refine wpAnyH_take (i := 7) (oi := ({ dst := some 31, op := Go.Op.move (Go.Operand.tmp 4), type := 48, pos := "law.go:111", after := #[{ on := 5, ground := Go.Ground.guard }], guard := some (5, false) } : Go.Oper)) (v := ?_) rfl (by kernel_rfl) (by kernel_rfl) (by kernel_rfl) (fun _ _ _ h => h) (Or.inl ⟨by rfl, ?_⟩) (by assumption) ?_
      rotate_left
      · intro w hSw
        try dsimp only at hSw
        go_simp
        try with_reducible rfl
      try simp only [Act.put]
      try simp only [List.setIfInBounds_toArray]
      try simp only [List.set_cons_succ]
      try simp only [List.set_cons_zero]
      refine wpAnyH_ready (rs := [8]) (by kernel_rfl) (by simp) ?_
      refine AllReadyH.cons (o := ({ dst := some 32, op := Go.Op.call { callee := Go.Callee.value (Go.Operand.func 24), args := #[Go.Operand.tmp 30, Go.Operand.tmp 31], argTypes := #[32, 48] }, type := 4, pos := "law.go:111", after := #[{ on := 6, ground := Go.Ground.data }, { on := 7, ground := Go.Ground.data }, { on := 5, ground := Go.Ground.chain }, { on := 5, ground := Go.Ground.guard }], guard := some (5, false) } : Go.Oper)) rfl (fun K hK => ?_) AllReadyH.nil
      go_simp
      refine (FA.out _ _ _ HS).mono ?_
      rintro e wn ⟨rfl, hx⟩
      replace HS := Lib.hid (HS.out.step hx)
      clear hx
      refine hK.out _ _ ?_ (fun hHeld2 => ?_)
      · exact stage21 HS.out
      clear hHeld
      have hHeld := hHeld2
      clear hHeld2 hK K
      try simp only [Act.put]
      try simp only [List.setIfInBounds_toArray]
      try simp only [List.set_cons_succ]
      try simp only [List.set_cons_zero]
      refine wpAnyH_take (i := 9) (oi := ({ dst := some 33, op := Go.Op.unOp Go.UnOp.not 4 (Go.Operand.tmp 32), type := 4, pos := "law.go:111", after := #[{ on := 8, ground := Go.Ground.data }, { on := 5, ground := Go.Ground.guard }], guard := some (5, false) } : Go.Oper)) (v := ?_) rfl (by kernel_rfl) (by kernel_rfl) (by kernel_rfl) (fun _ _ _ h => h) (Or.inl ⟨by rfl, ?_⟩) (by assumption) ?_
      rotate_left
      · intro w hSw
        try dsimp only at hSw
        go_simp
        try with_reducible rfl
      try simp only [Act.put]
      try simp only [List.setIfInBounds_toArray]
      try simp only [List.set_cons_succ]
      try simp only [List.set_cons_zero]
      refine wpAnyH_take (i := 10) (oi := ({ dst := some 34, op := Go.Op.pick (Go.Operand.tmp 29) (Go.Operand.const (Go.Value.bool true)) (Go.Operand.tmp 33), type := 4, pos := "law.go:111", after := #[{ on := 5, ground := Go.Ground.data }, { on := 9, ground := Go.Ground.data }], guard := none } : Go.Oper)) (v := ?_) rfl (by kernel_rfl) (by kernel_rfl) (by kernel_rfl) (fun _ _ _ h => h) (Or.inl ⟨by rfl, ?_⟩) (by assumption) ?_
      rotate_left
      · intro w hSw
        try dsimp only at hSw
        go_simp
        try with_reducible rfl
      try simp only [Act.put]
      try simp only [List.setIfInBounds_toArray]
      try simp only [List.set_cons_succ]
      try simp only [List.set_cons_zero]
      refine wpAnyH_take (i := 11) (oi := ({ dst := some 35, op := Go.Op.move (Go.Operand.tmp 34), type := 4, pos := "law.go:111", after := #[{ on := 10, ground := Go.Ground.data }, { on := 8, ground := Go.Ground.chain }], guard := none } : Go.Oper)) (v := ?_) rfl (by kernel_rfl) (by kernel_rfl) (by kernel_rfl) (fun _ _ _ h => h) (Or.inl ⟨by rfl, ?_⟩) (by assumption) ?_
      rotate_left
      · intro w hSw
        try dsimp only at hSw
        go_simp
        try with_reducible rfl
      try simp only [Act.put]
      try simp only [List.setIfInBounds_toArray]
      try simp only [List.set_cons_succ]
      try simp only [List.set_cons_zero]
      refine wpAnyH_take (i := 12) (oi := ({ dst := some 36, op := Go.Op.move (Go.Operand.tmp 3), type := 32, pos := "law.go:111", after := #[{ on := 11, ground := Go.Ground.guard }], guard := some (11, false) } : Go.Oper)) (v := ?_) rfl (by kernel_rfl) (by kernel_rfl) (by kernel_rfl) (fun _ _ _ h => h) (Or.inl ⟨by rfl, ?_⟩) (by assumption) ?_
      rotate_left
      · intro w hSw
        try dsimp only at hSw
        go_simp
        try with_reducible rfl
      try simp only [Act.put]
      try simp only [List.setIfInBounds_toArray]
      try simp only [List.set_cons_succ]
      try simp only [List.set_cons_zero]
      refine wpAnyH_take (i := 13) (oi := ({ dst := some 37, op := Go.Op.fieldAddr 53 (Go.Operand.tmp 6) 3, type := 0, pos := "law.go:111", after := #[{ on := 11, ground := Go.Ground.guard }], guard := some (11, false) } : Go.Oper)) (v := ?_) rfl (by kernel_rfl) (by kernel_rfl) (by kernel_rfl) (fun _ _ _ h => h) (Or.inl ⟨by rfl, ?_⟩) (by assumption) ?_
      rotate_left
      · intro w hSw
        try dsimp only at hSw
        go_simp
        try with_reducible rfl
      try simp only [Act.put]
      try simp only [List.setIfInBounds_toArray]
      try simp only [List.set_cons_succ]
      try simp only [List.set_cons_zero]
      refine wpAnyH_take (i := 14) (oi := ({ dst := some 38, op := Go.Op.load 3 (Go.Operand.tmp 37), type := 3, pos := "law.go:111", after := #[{ on := 13, ground := Go.Ground.data }, { on := 11, ground := Go.Ground.guard }], guard := some (11, false) } : Go.Oper)) (v := ?_) rfl (by kernel_rfl) (by kernel_rfl) (by kernel_rfl) (fun _ _ _ h => h) (Or.inl ⟨by rfl, ?_⟩) (by assumption) ?_
      rotate_left
      · intro w hSw
        try dsimp only at hSw
        go_simp
        try with_reducible rfl
      try simp only [Act.put]
      try simp only [List.setIfInBounds_toArray]
      try simp only [List.set_cons_succ]
      try simp only [List.set_cons_zero]
      refine wpAnyH_take (i := 16) (oi := ({ dst := some 40, op := Go.Op.move (Go.Operand.tmp 4), type := 48, pos := "law.go:111", after := #[{ on := 11, ground := Go.Ground.guard }], guard := some (11, false) } : Go.Oper)) (v := ?_) rfl (by kernel_rfl) (by kernel_rfl) (by kernel_rfl) (fun _ _ _ h => h) (Or.inl ⟨by rfl, ?_⟩) (by assumption) ?_
      rotate_left
      · intro w hSw
        try dsimp only at hSw
        go_simp
        try with_reducible rfl
      try simp only [Act.put]
      try simp only [List.setIfInBounds_toArray]
      try simp only [List.set_cons_succ]
      try simp only [List.set_cons_zero]
      refine wpAnyH_take (i := 17) (oi := ({ dst := some 41, op := Go.Op.fieldAddr 53 (Go.Operand.tmp 6) 3, type := 0, pos := "law.go:111", after := #[{ on := 11, ground := Go.Ground.guard }], guard := some (11, false) } : Go.Oper)) (v := ?_) rfl (by kernel_rfl) (by kernel_rfl) (by kernel_rfl) (fun _ _ _ h => h) (Or.inl ⟨by rfl, ?_⟩) (by assumption) ?_
      rotate_left
      · intro w hSw
        try dsimp only at hSw
        go_simp
        try with_reducible rfl
      try simp only [Act.put]
      try simp only [List.setIfInBounds_toArray]
      try simp only [List.set_cons_succ]
      try simp only [List.set_cons_zero]
      refine wpAnyH_take (i := 18) (oi := ({ dst := some 42, op := Go.Op.load 3 (Go.Operand.tmp 41), type := 3, pos := "law.go:111", after := #[{ on := 17, ground := Go.Ground.data }, { on := 11, ground := Go.Ground.guard }], guard := some (11, false) } : Go.Oper)) (v := ?_) rfl (by kernel_rfl) (by kernel_rfl) (by kernel_rfl) (fun _ _ _ h => h) (Or.inl ⟨by rfl, ?_⟩) (by assumption) ?_
      rotate_left
      · intro w hSw
        try dsimp only at hSw
        go_simp
        try with_reducible rfl
      try simp only [Act.put]
      try simp only [List.setIfInBounds_toArray]
      try simp only [List.set_cons_succ]
      try simp only [List.set_cons_zero]
      refine wpAnyH_ready (rs := [15]) (by kernel_rfl) (by simp) ?_
      refine AllReadyH.cons (o := ({ dst := some 39, op := Go.Op.call { callee := Go.Callee.value (Go.Operand.func 16), args := #[Go.Operand.tmp 36, Go.Operand.tmp 38], argTypes := #[32, 3] }, type := 43, pos := "law.go:111", after := #[{ on := 12, ground := Go.Ground.data }, { on := 14, ground := Go.Ground.data }, { on := 11, ground := Go.Ground.chain }, { on := 11, ground := Go.Ground.guard }], guard := some (11, false) } : Go.Oper)) rfl (fun K hK => ?_) AllReadyH.nil
      go_simp
      refine (F1.out _ _ _ HS).mono ?_
      rintro e wn ⟨A1, k1, rfl, R1', hx⟩
      have R1 := R1'
      replace HS := Lib.hid (HS.out.step hx)
      clear R1' hx
      refine hK.out _ _ ?_ (fun hHeld2 => ?_)
      · exact stage21 HS.out
      clear hHeld
      have hHeld := hHeld2
      clear hHeld2 hK K
      try simp only [Act.put]
      try simp only [List.setIfInBounds_toArray]
      try simp only [List.set_cons_succ]
      try simp only [List.set_cons_zero]
      refine wpAnyH_ready (rs := [19]) (by kernel_rfl) (by simp) ?_
      refine AllReadyH.cons (o := ({ dst := some 43, op := Go.Op.call { callee := Go.Callee.value (Go.Operand.func 26), args := #[Go.Operand.tmp 40, Go.Operand.tmp 42], argTypes := #[48, 3] }, type := 43, pos := "law.go:111", after := #[{ on := 16, ground := Go.Ground.data }, { on := 18, ground := Go.Ground.data }, { on := 15, ground := Go.Ground.chain }, { on := 11, ground := Go.Ground.guard }], guard := some (11, false) } : Go.Oper)) rfl (fun K hK => ?_) AllReadyH.nil
      go_simp
      refine (F2.out _ _ _ HS).mono ?_
      rintro e wn ⟨A2, k2, rfl, R2', hx⟩
      replace R1 := Lib.hid (ri_ext R1.out hx)
      have R2 := R2'
      replace HS := Lib.hid (HS.out.step hx)
      clear R2' hx
      refine hK.out _ _ ?_ (fun hHeld2 => ?_)
      · exact stage21 HS.out
      clear hHeld
      have hHeld := hHeld2
      clear hHeld2 hK K
      try simp only [Act.put]
      try simp only [List.setIfInBounds_toArray]
      try simp only [List.set_cons_succ]
      try simp only [List.set_cons_zero]
      refine wpAnyH_ready (rs := [20]) (by kernel_rfl) (by simp) ?_
      refine AllReadyH.cons (o := ({ dst := some 44, op := Go.Op.call { callee := Go.Callee.value (Go.Operand.func 25), args := #[Go.Operand.tmp 39, Go.Operand.tmp 43], argTypes := #[43, 43] }, type := 4, pos := "law.go:111", after := #[{ on := 15, ground := Go.Ground.data }, { on := 19, ground := Go.Ground.data }, { on := 19, ground := Go.Ground.chain }, { on := 11, ground := Go.Ground.guard }], guard := some (11, false) } : Go.Oper)) rfl (fun K hK => ?_) AllReadyH.nil
      go_simp
      refine (numbers_calls A1 A2 k1 k2 L1 L1 _ R1.out R2.out (by omega)).mono ?_
      rintro e wn ⟨rfl, hx⟩
      replace R1 := Lib.hid (ri_ext R1.out hx)
      replace R2 := Lib.hid (ri_ext R2.out hx)
      replace HS := Lib.hid (HS.out.step hx)
      clear hx
      refine hK.out _ _ ?_ (fun hHeld2 => ?_)
      · exact stage21 HS.out
      clear hHeld
      have hHeld := hHeld2
      clear hHeld2 hK K
      try simp only [List.setIfInBounds_toArray]
      try simp only [List.set_cons_succ]
      try simp only [List.set_cons_zero]
      refine wpAnyH_take (i := 21) (oi := ({ dst := some 45, op := Go.Op.unOp Go.UnOp.not 4 (Go.Operand.tmp 44), type := 4, pos := "law.go:111", after := #[{ on := 20, ground := Go.Ground.data }, { on := 11, ground := Go.Ground.guard }], guard := some (11, false) } : Go.Oper)) (v := ?_) rfl (by kernel_rfl) (by kernel_rfl) (by kernel_rfl) (fun _ _ _ h => h) (Or.inl ⟨by rfl, ?_⟩) (by assumption) ?_
      rotate_left
      · intro w hSw
        try dsimp only at hSw
        go_simp
        try with_reducible rfl
      try simp only [Act.put]
      try simp only [List.setIfInBounds_toArray]
      try simp only [List.set_cons_succ]
      try simp only [List.set_cons_zero]
      refine wpAnyH_take (i := 22) (oi := ({ dst := some 46, op := Go.Op.pick (Go.Operand.tmp 35) (Go.Operand.const (Go.Value.bool true)) (Go.Operand.tmp 45), type := 4, pos := "law.go:111", after := #[{ on := 11, ground := Go.Ground.data }, { on := 21, ground := Go.Ground.data }], guard := none } : Go.Oper)) (v := ?_) rfl (by kernel_rfl) (by kernel_rfl) (by kernel_rfl) (fun _ _ _ h => h) (Or.inl ⟨by rfl, ?_⟩) (by assumption) ?_
      rotate_left
      · intro w hSw
        try dsimp only at hSw
        go_simp
        try with_reducible rfl
      try simp only [Act.put]
      try simp only [List.setIfInBounds_toArray]
      try simp only [List.set_cons_succ]
      try simp only [List.set_cons_zero]
      refine wpAnyH_take (i := 23) (oi := ({ dst := some 47, op := Go.Op.move (Go.Operand.tmp 46), type := 4, pos := "law.go:111", after := #[{ on := 22, ground := Go.Ground.data }, { on := 20, ground := Go.Ground.chain }], guard := none } : Go.Oper)) (v := ?_) rfl (by kernel_rfl) (by kernel_rfl) (by kernel_rfl) (fun _ _ _ h => h) (Or.inl ⟨by rfl, ?_⟩) (by assumption) ?_
      rotate_left
      · intro w hSw
        try dsimp only at hSw
        go_simp
        try with_reducible rfl
      try simp only [Act.put]
      try simp only [List.setIfInBounds_toArray]
      try simp only [List.set_cons_succ]
      try simp only [List.set_cons_zero]
      refine wpAnyH_take (i := 24) (oi := ({ dst := some 48, op := Go.Op.move (Go.Operand.tmp 3), type := 32, pos := "law.go:111", after := #[{ on := 23, ground := Go.Ground.guard }], guard := some (23, false) } : Go.Oper)) (v := ?_) rfl (by kernel_rfl) (by kernel_rfl) (by kernel_rfl) (fun _ _ _ h => h) (Or.inl ⟨by rfl, ?_⟩) (by assumption) ?_
      rotate_left
      · intro w hSw
        try dsimp only at hSw
        go_simp
        try with_reducible rfl
      try simp only [Act.put]
      try simp only [List.setIfInBounds_toArray]
      try simp only [List.set_cons_succ]
      try simp only [List.set_cons_zero]
      refine wpAnyH_take (i := 25) (oi := ({ dst := some 49, op := Go.Op.fieldAddr 53 (Go.Operand.tmp 6) 7, type := 0, pos := "law.go:111", after := #[{ on := 23, ground := Go.Ground.guard }], guard := some (23, false) } : Go.Oper)) (v := ?_) rfl (by kernel_rfl) (by kernel_rfl) (by kernel_rfl) (fun _ _ _ h => h) (Or.inl ⟨by rfl, ?_⟩) (by assumption) ?_
      rotate_left
      · intro w hSw
        try dsimp only at hSw
        go_simp
        try with_reducible rfl
      try simp only [Act.put]
      try simp only [List.setIfInBounds_toArray]
      try simp only [List.set_cons_succ]
      try simp only [List.set_cons_zero]
      refine wpAnyH_take (i := 26) (oi := ({ dst := some 50, op := Go.Op.load 9 (Go.Operand.tmp 49), type := 9, pos := "law.go:111", after := #[{ on := 25, ground := Go.Ground.data }, { on := 23, ground := Go.Ground.guard }], guard := some (23, false) } : Go.Oper)) (v := ?_) rfl (by kernel_rfl) (by kernel_rfl) (by kernel_rfl) (fun _ _ _ h => h) (Or.inl ⟨by rfl, ?_⟩) (by assumption) ?_
      rotate_left
      · intro w hSw
        try dsimp only at hSw
        go_simp
        try with_reducible rfl
      try simp only [Act.put]
      try simp only [List.setIfInBounds_toArray]
      try simp only [List.set_cons_succ]
      try simp only [List.set_cons_zero]
      refine wpAnyH_take (i := 28) (oi := ({ dst := some 52, op := Go.Op.move (Go.Operand.tmp 4), type := 48, pos := "law.go:111", after := #[{ on := 23, ground := Go.Ground.guard }], guard := some (23, false) } : Go.Oper)) (v := ?_) rfl (by kernel_rfl) (by kernel_rfl) (by kernel_rfl) (fun _ _ _ h => h) (Or.inl ⟨by rfl, ?_⟩) (by assumption) ?_
      rotate_left
      · intro w hSw
        try dsimp only at hSw
        go_simp
        try with_reducible rfl
      try simp only [Act.put]
      try simp only [List.setIfInBounds_toArray]
      try simp only [List.set_cons_succ]
      try simp only [List.set_cons_zero]
      refine wpAnyH_take (i := 29) (oi := ({ dst := some 53, op := Go.Op.fieldAddr 53 (Go.Operand.tmp 6) 7, type := 0, pos := "law.go:111", after := #[{ on := 23, ground := Go.Ground.guard }], guard := some (23, false) } : Go.Oper)) (v := ?_) rfl (by kernel_rfl) (by kernel_rfl) (by kernel_rfl) (fun _ _ _ h => h) (Or.inl ⟨by rfl, ?_⟩) (by assumption) ?_
      rotate_left
      · intro w hSw
        try dsimp only at hSw
        go_simp
        try with_reducible rfl
      try simp only [Act.put]
      try simp only [List.setIfInBounds_toArray]
      try simp only [List.set_cons_succ]
      try simp only [List.set_cons_zero]
      refine wpAnyH_take (i := 30) (oi := ({ dst := some 54, op := Go.Op.load 9 (Go.Operand.tmp 53), type := 9, pos := "law.go:111", after := #[{ on := 29, ground := Go.Ground.data }, { on := 23, ground := Go.Ground.guard }], guard := some (23, false) } : Go.Oper)) (v := ?_) rfl (by kernel_rfl) (by kernel_rfl) (by kernel_rfl) (fun _ _ _ h => h) (Or.inl ⟨by rfl, ?_⟩) (by assumption) ?_
      rotate_left
      · intro w hSw
        try dsimp only at hSw
        go_simp
        try with_reducible rfl
      try simp only [Act.put]
      try simp only [List.setIfInBounds_toArray]
      try simp only [List.set_cons_succ]
      try simp only [List.set_cons_zero]
      refine wpAnyH_ready (rs := [27]) (by kernel_rfl) (by simp) ?_
      refine AllReadyH.cons (o := ({ dst := some 51, op := Go.Op.call { callee := Go.Callee.value (Go.Operand.func 27), args := #[Go.Operand.tmp 48, Go.Operand.tmp 50], argTypes := #[32, 9] }, type := 43, pos := "law.go:111", after := #[{ on := 24, ground := Go.Ground.data }, { on := 26, ground := Go.Ground.data }, { on := 23, ground := Go.Ground.chain }, { on := 23, ground := Go.Ground.guard }], guard := some (23, false) } : Go.Oper)) rfl (fun K hK => ?_) AllReadyH.nil
      go_simp
      refine (F3.out _ _ _ HS).mono ?_
      rintro e wn ⟨A3, k3, rfl, R3', hx⟩
      replace R1 := Lib.hid (ri_ext R1.out hx)
      replace R2 := Lib.hid (ri_ext R2.out hx)
      have R3 := R3'
      replace HS := Lib.hid (HS.out.step hx)
      clear R3' hx
      refine hK.out _ _ ?_ (fun hHeld2 => ?_)
      · exact stage21 HS.out
      clear hHeld
      have hHeld := hHeld2
      clear hHeld2 hK K
      try simp only [Act.put]
      try simp only [List.setIfInBounds_toArray]
      try simp only [List.set_cons_succ]
      try simp only [List.set_cons_zero]
      refine wpAnyH_ready (rs := [31]) (by kernel_rfl) (by simp) ?_
      refine AllReadyH.cons (o := ({ dst := some 55, op := Go.Op.call { callee := Go.Callee.value (Go.Operand.func 28), args := #[Go.Operand.tmp 52, Go.Operand.tmp 54], argTypes := #[48, 9] }, type := 43, pos := "law.go:111", after := #[{ on := 28, ground := Go.Ground.data }, { on := 30, ground := Go.Ground.data }, { on := 27, ground := Go.Ground.chain }, { on := 23, ground := Go.Ground.guard }], guard := some (23, false) } : Go.Oper)) rfl (fun K hK => ?_) AllReadyH.nil
      go_simp
      refine (F4.out _ _ _ HS).mono ?_
      rintro e wn ⟨A4, k4, rfl, R4', hx⟩
      replace R1 := Lib.hid (ri_ext R1.out hx)
      replace R2 := Lib.hid (ri_ext R2.out hx)
      replace R3 := Lib.hid (ri_ext R3.out hx)
      have R4 := R4'
      replace HS := Lib.hid (HS.out.step hx)
      clear R4' hx
      refine hK.out _ _ ?_ (fun hHeld2 => ?_)
      · exact stage21 HS.out
      clear hHeld
      have hHeld := hHeld2
      clear hHeld2 hK K
      try simp only [Act.put]
      try simp only [List.setIfInBounds_toArray]
      try simp only [List.set_cons_succ]
      try simp only [List.set_cons_zero]
      refine wpAnyH_ready (rs := [32]) (by kernel_rfl) (by simp) ?_
      refine AllReadyH.cons (o := ({ dst := some 56, op := Go.Op.call { callee := Go.Callee.value (Go.Operand.func 25), args := #[Go.Operand.tmp 51, Go.Operand.tmp 55], argTypes := #[43, 43] }, type := 4, pos := "law.go:111", after := #[{ on := 27, ground := Go.Ground.data }, { on := 31, ground := Go.Ground.data }, { on := 31, ground := Go.Ground.chain }, { on := 23, ground := Go.Ground.guard }], guard := some (23, false) } : Go.Oper)) rfl (fun K hK => ?_) AllReadyH.nil
      go_simp
      refine (numbers_calls A3 A4 k3 k4 L2 L2 _ R3.out R4.out (by omega)).mono ?_
      rintro e wn ⟨rfl, hx⟩
      replace R1 := Lib.hid (ri_ext R1.out hx)
      replace R2 := Lib.hid (ri_ext R2.out hx)
      replace R3 := Lib.hid (ri_ext R3.out hx)
      replace R4 := Lib.hid (ri_ext R4.out hx)
      replace HS := Lib.hid (HS.out.step hx)
      clear hx
      refine hK.out _ _ ?_ (fun hHeld2 => ?_)
      · exact stage21 HS.out
      clear hHeld
      have hHeld := hHeld2
      clear hHeld2 hK K
      try simp only [List.setIfInBounds_toArray]
      try simp only [List.set_cons_succ]
      try simp only [List.set_cons_zero]
      refine wpAnyH_take (i := 33) (oi := ({ dst := some 57, op := Go.Op.unOp Go.UnOp.not 4 (Go.Operand.tmp 56), type := 4, pos := "law.go:111", after := #[{ on := 32, ground := Go.Ground.data }, { on := 23, ground := Go.Ground.guard }], guard := some (23, false) } : Go.Oper)) (v := ?_) rfl (by kernel_rfl) (by kernel_rfl) (by kernel_rfl) (fun _ _ _ h => h) (Or.inl ⟨by rfl, ?_⟩) (by assumption) ?_
      rotate_left
      · intro w hSw
        try dsimp only at hSw
        go_simp
        try with_reducible rfl
      try simp only [Act.put]
      try simp only [List.setIfInBounds_toArray]
      try simp only [List.set_cons_succ]
      try simp only [List.set_cons_zero]
      refine wpAnyH_take (i := 34) (oi := ({ dst := some 58, op := Go.Op.pick (Go.Operand.tmp 47) (Go.Operand.const (Go.Value.bool true)) (Go.Operand.tmp 57), type := 4, pos := "law.go:111", after := #[{ on := 23, ground := Go.Ground.data }, { on := 33, ground := Go.Ground.data }], guard := none } : Go.Oper)) (v := ?_) rfl (by kernel_rfl) (by kernel_rfl) (by kernel_rfl) (fun _ _ _ h => h) (Or.inl ⟨by rfl, ?_⟩) (by assumption) ?_
      rotate_left
      · intro w hSw
        try dsimp only at hSw
        go_simp
        try with_reducible rfl
      try simp only [Act.put]
      try simp only [List.setIfInBounds_toArray]
      try simp only [List.set_cons_succ]
      try simp only [List.set_cons_zero]
      refine wpAnyH_done (by kernel_rfl) ?_ _
      clear FD FA F1 F2 F3 F4 R1 R2 R3 R4 hHeld hl1 hl2
      have a15 := HS.out.cell 15 rfl
      have hg2 := get_two t' a.id
      have hgc := get_calls w1.heap.size w1.heap.size O2 t' a.id _ HS.out.t HSM.out
      have hgr : ∀ B' W', Hid (Stage w1 W' w1.heap.size O2 t' xb C2 t' B') → Calls Try.prog 30 #[.pointer (some ⟨xb, 0, none⟩), .int .i64 a.id] W' fun e w' => e = .returned (.int .i64 (if (place t'.l a.id).isSome then 1 else 0)) ∧ Ext W' w' := fun B' W' hh => getR_calls w1.heap.size xb C2 t' a.id W' hh.out.r HSM.out
      rw [hg2.1] at hgc
      generalize (place t'.l a.id).isSome = bb at *
      obtain ⟨G, hG⟩ : ∃ G, (t'.get a.id).1 = G := ⟨_, rfl⟩
      rw [hG] at hgc hg2
      have HZ : Hid (bb = false → G = FZ) := Lib.hid (fun h => hg2.2 (hg2.1.trans h))
      unfold agF at hgc
      have HGR := Lib.hid hgr
      have HGC := Lib.hid hgc
      clear hgc hgr hg2 hG
      go_wp2_with fail
      refine HGC.out.mono ?_
      rintro e wg ⟨rfl, hx⟩
      replace HS := Lib.hid (HS.out.step hx)
      replace a15 := hx.cell a15
      clear hx HGC
      cases bb
      · have hgz := HZ.out (by simp)
        subst hgz
        have HB := Lib.hid (HS.out.box #[.int .i64 0, .string ⟨#[]⟩, .int .i64 0, .int .i64 0, .string ⟨#[]⟩, .bool false, .string ⟨#[]⟩, .bool false, .int .i64 0, .int .i64 0, .int .i64 0, .int .i64 0, .int .i64 0, .bool false] 30)
        have b15 : (wg.alloc (.cells #[.int .i64 0, .string ⟨#[]⟩, .int .i64 0, .int .i64 0, .string ⟨#[]⟩, .bool false, .string ⟨#[]⟩, .bool false, .int .i64 0, .int .i64 0, .int .i64 0, .int .i64 0, .int .i64 0, .bool false] 30)).cell? ⟨cb, 15, none⟩ = some (.int .i64 a.id) := ((Ext.refl wg).alloc _).cell a15
        have hcb : cb < wg.heap.size := block_of_cell a15
        have hcn : cb ≠ wg.heap.size := by omega
        clear HZ
        go_wp2_with fail
        refine (HGR.out _ _ HB).mono ?_
        rintro e w6 ⟨rfl, hx6⟩
        replace HB := Lib.hid (HB.out.step hx6)
        have h7 := (HB.out.at_ _ (List.mem_cons_self ..)).2.2.2
        have H7 := Lib.hid h7
        clear h7 b15 a15 hx6 HGR
        have hb := fun w => neq30 0 ⟨#[]⟩ 0 0 ⟨#[]⟩ false ⟨#[]⟩ false 0 0 0 0 0 false w
        have hg30 := guard30
        have z0 := HB.out.cell 0 rfl
        have z1 := HB.out.cell 1 rfl
        have z2 := HB.out.cell 2 rfl
        have z3 := HB.out.cell 3 rfl
        have z4 := HB.out.cell 4 rfl
        have z5 := HB.out.cell 5 rfl
        have z6 := HB.out.cell 6 rfl
        have z7 := HB.out.cell 7 rfl
        have z8 := HB.out.cell 8 rfl
        have z9 := HB.out.cell 9 rfl
        have z10 := HB.out.cell 10 rfl
        have z11 := HB.out.cell 11 rfl
        have z12 := HB.out.cell 12 rfl
        have z13 := HB.out.cell 13 rfl
        clear H7
        generalize wg.heap.size = gb at *
        go_wp2_with fail
        go_roundw
        case rel => exact ⟨k + 1, _, _, by omega, by go_num, by rw [HR.out]; exact HB.out.less.less⟩
        case measure => simp [intOf] <;> omega
      · skip
        have HB := Lib.hid (HS.out.box #[.int .i64 G.id, .string G.obj, .int .i64 G.fr, .int .i64 G.to, .string G.mt, .bool G.mw, .string G.nt, .bool G.nw, .int .i64 G.en, .int .i64 G.sa, .int .i64 G.mo, .int .i64 G.ge, .int .i64 G.pl, .bool G.he] 30)
        have b15 : (wg.alloc (.cells #[.int .i64 G.id, .string G.obj, .int .i64 G.fr, .int .i64 G.to, .string G.mt, .bool G.mw, .string G.nt, .bool G.nw, .int .i64 G.en, .int .i64 G.sa, .int .i64 G.mo, .int .i64 G.ge, .int .i64 G.pl, .bool G.he] 30)).cell? ⟨cb, 15, none⟩ = some (.int .i64 a.id) := ((Ext.refl wg).alloc _).cell a15
        have hcb : cb < wg.heap.size := block_of_cell a15
        have hcn : cb ≠ wg.heap.size := by omega
        clear HZ
        go_wp2_with fail
        refine (HGR.out _ _ HB).mono ?_
        rintro e w6 ⟨rfl, hx6⟩
        replace HB := Lib.hid (HB.out.step hx6)
        have h7 := (HB.out.at_ _ (List.mem_cons_self ..)).2.2.2
        have H7 := Lib.hid h7
        clear h7 b15 a15 hx6 HGR
        go_wp2_with fail
        go_roundw
        case rel => exact ⟨k + 1, _, _, by omega, by go_num, by rw [HR.out]; exact HB.out.less.less⟩
        case measure => simp [intOf] <;> omega
    · obtain rfl : k = l.length := by omega
      have HX := Lib.hid hS.ext
      clear hS
      go_wp2_with fail
      refine (awake_calls _).mono ?_
      rintro e w8 ⟨rfl, x8⟩
      go_wp2
      go_ret
      exact ⟨rfl, (hx1.trans HX.out).trans x8⟩
end Go.Proofs.Ytaanbgagdanalaa
