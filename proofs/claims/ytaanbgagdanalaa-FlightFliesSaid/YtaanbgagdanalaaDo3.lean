/- The contract of do: who leaves, and what ends. -/
import Derived.Test.YtaanbgagdanalaaDo2
import Derived.Test.YtaanbgagdanalaaAllT
namespace Go.Proofs.Ytaanbgagdanalaa
open Go.RowKit

/-- A list of numbers that lies in a told block. -/
def Told (A : Option Addr) (l : List Int) (B : List (Nat × List Value)) : Prop := ∃ g, (g, l.map (Value.int .i64)) ∈ B ∧ (l ≠ [] → A = some ⟨g, 0, none⟩)
theorem Told.row {w0 w : World} {tb xb : Nat} {O C : List Nat} {s x : Tab} {B : List (Nat × List Value)} {A : Option Addr} {l : List Int} (k : Told A l B) (h : Stage w0 w tb O s xb C x B) : RowI w A l := fun j hj => by
  obtain ⟨g, hg, hA⟩ := k
  refine ⟨g, hA (fun e => by rw [e] at hj; simp at hj), ?_⟩
  have := (h.at_ _ hg).2.2.2 j (.int .i64 l[j]) (by simp [hj])
  rwa [Nat.zero_add] at this
theorem Told.more {B : List (Nat × List Value)} {A : Option Addr} {l : List Int} (k : Told A l B) (b : Nat × List Value) (p : Nat × List Value) : Told A l (B ++ [p]) := by
  obtain ⟨g, hg, hA⟩ := k
  exact ⟨g, List.mem_append_left _ hg, hA⟩
/-- A list that a call has handed back lies in a told block. -/
theorem Stage.list {w0 w : World} {tb xb N : Nat} {O C : List Nat} {s x : Tab} {B : List (Nat × List Value)} {e : TypeId} {v : Value} {l : List Int} (h : Stage w0 w tb O s xb C x B) (hB : B ≠ []) (hr : w.ownsRow N e 1 v l.length (l.map (Value.int .i64)))
    (h1 : Apart (ob v) O) (h2 : Apart (ob v) C) : ∃ A c p, v = .slice A l.length c ∧ Told A l (B ++ [p]) ∧ Stage w0 w tb O s xb C x (B ++ [p]) := by
  obtain ⟨A, c, rfl, _⟩ := own_shape hr
  rcases hr.2 with ⟨g1, g2⟩ | ⟨g, cap, cur, g1, _, hg, _, _, _, htake⟩
  · cases B with
    | nil => exact absurd rfl hB
    | cons b B =>
      refine ⟨A, c, (b.1, []), rfl, ⟨b.1, by simp at g2; simp [g2], fun e => absurd (List.eq_nil_of_length_eq_zero g2) e⟩, ⟨h.t, h.r, h.ap, h.ext, fun p hp => ?_⟩⟩
      rcases List.mem_append.1 hp with hp | hp
      · exact h.at_ p hp
      · simp at hp; subst hp
        obtain ⟨a1, a2, a3, _⟩ := h.at_ b (List.mem_cons_self ..)
        exact ⟨a1, a2, a3, fun j u hu => by simp at hu⟩
  · have hA : A = some ⟨g, 0, none⟩ := by injection g1
    subst hA
    refine ⟨_, c, (g, l.map (Value.int .i64)), rfl, ⟨g, by simp, fun _ => rfl⟩, ⟨h.t, h.r, h.ap, h.ext, fun p hp => ?_⟩⟩
    rcases List.mem_append.1 hp with hp | hp
    · exact h.at_ p hp
    · simp at hp; subst hp
      refine ⟨blk_lt hg, h1 g (by simp [ob, Value.ownBlock]), h2 g (by simp [ob, Value.ownBlock]), fun j u hu => ?_⟩
      have hj : j < l.length := by have := (List.getElem?_eq_some_iff.1 hu).1; simpa using this
      rw [Nat.zero_add, hr.cellAt j (by omega)]
      exact hu
theorem Stage.drops {w0 w : World} {tb xb : Nat} {O C : List Nat} {s x : Tab} {B D : List (Nat × List Value)} (h : Stage w0 w tb O s xb C x D) (hs : ∀ p ∈ B, p ∈ D) : Stage w0 w tb O s xb C x B := ⟨h.t, h.r, h.ap, h.ext, fun p hp => h.at_ p (hs p hp)⟩

/-- A call hands a list back, and the tables are these. -/
def ListPost (w0 : World) (tb : Nat) (s : Tab) (xb : Nat) (x : Tab) (B : List (Nat × List Value)) (l : List Int) (e : Ending) (w' : World) : Prop :=
  ∃ A c p O C, e = .returned (.slice A l.length c) ∧ Hid (Told A l (B ++ [p])) ∧ Hid (Stage w0 w' tb O s xb C x (B ++ [p]))
theorem leave_list {w0 w : World} {tb xb : Nat} {O C : List Nat} {t x : Tab} {B : List (Nat × List Value)} (q : Int) (h : Stage w0 w tb O t xb C x B) (hB : B ≠ []) (hs : Small t) :
    Calls Try.prog 21 #[.pointer (some ⟨tb, 0, none⟩), .int .i64 q] w (ListPost w0 tb (t.leave q).1 xb x B (t.leave q).2) :=
  (leave_calls w0.heap.size tb O t q w h.t hs).mono fun e w' ⟨v, O', h1, h2, h3, h4, h5, h6⟩ => by
    have k := h.turn1 h3 h4 h5
    obtain ⟨A, c, p, rfl, a2, a3⟩ := k.list hB h2 h6 fun x hx hc => by have := (row_lies h2 x hx).1; have := (h.r.lies x hc).2; omega
    exact ⟨A, c, p, _, _, h1, Lib.hid a2, Lib.hid a3⟩
theorem leaveR_list {w0 w : World} {tb xb : Nat} {O C : List Nat} {t s : Tab} {B : List (Nat × List Value)} (q : Int) (h : Stage w0 w tb O s xb C t B) (hB : B ≠ []) (hs : Small t) :
    Calls Try.prog 46 #[.pointer (some ⟨xb, 0, none⟩), .int .i64 q] w (ListPost w0 tb s xb (t.leave q).1 B (t.leave q).2) := by
  obtain ⟨lv, hl⟩ := h.r
  exact (leaveR_calls w0.heap.size xb lv C t q w hl h.ext.size hs).mono fun e w' ⟨v, O', h1, h2, h3, h4, h5, h6⟩ => by
    have k := h.turn2 h3 h4 h5
    obtain ⟨A, c, p, rfl, a2, a3⟩ := k.list hB h2 (fun x hx hc => by have := (row_lies h2 x hx).1; have := (h.t.lies x hc).2; omega) h6
    exact ⟨A, c, p, _, _, h1, Lib.hid a2, Lib.hid a3⟩
theorem leave_length (t : Tab) (q : Int) : (t.leave q).2.length ≤ t.l.length := by
  simp only [Tab.leave, List.length_map]
  exact List.length_filter_le _ _

set_option maxHeartbeats 4000000 in
set_option maxRecDepth 100000 in
theorem do_leave (w0 : World) (tb xb : Nat) (O C : List Nat) (t : Tab) (B : List (Nat × List Value)) (a : Op) (w : World) (h : Stage w0 w tb O t xb C t B) (hs : Small t) (hk : 0 ≤ a.kind ∧ a.kind < 256) (hr : a.kind % 7 = 2) :
    Calls Try.prog 18 #[.pointer (some ⟨tb, 0, none⟩), .pointer (some ⟨xb, 0, none⟩), agOp a] w (DoPost w0 tb xb (t.leave a.who).1 B) := by
  unfold agOp
  have HS := Lib.hid (h.box #[.int .u8 a.kind, .int .i64 a.f.id, .string a.f.obj, .int .i64 a.f.fr, .int .i64 a.f.to, .string a.f.mt, .bool a.f.mw, .string a.f.nt, .bool a.f.nw, .int .i64 a.f.en, .int .i64 a.f.sa, .int .i64 a.f.mo, .int .i64 a.f.ge, .int .i64 a.f.pl, .bool a.f.he, .int .i64 a.id, .int .i64 a.who, .int .i64 a.en, .int .i64 a.n, .int .i64 a.to, .string a.obj] 53)
  have fA : ∀ W O C x B', Hid (Stage w0 W tb O t xb C x ((w.heap.size, (#[.int .u8 a.kind, .int .i64 a.f.id, .string a.f.obj, .int .i64 a.f.fr, .int .i64 a.f.to, .string a.f.mt, .bool a.f.mw, .string a.f.nt, .bool a.f.nw, .int .i64 a.f.en, .int .i64 a.f.sa, .int .i64 a.f.mo, .int .i64 a.f.ge, .int .i64 a.f.pl, .bool a.f.he, .int .i64 a.id, .int .i64 a.who, .int .i64 a.en, .int .i64 a.n, .int .i64 a.to, .string a.obj] : Array Value).toList) :: B')) → Calls Try.prog 21 #[.pointer (some ⟨tb, 0, none⟩), .int .i64 a.who] W (ListPost w0 tb (t.leave a.who).1 xb x ((w.heap.size, (#[.int .u8 a.kind, .int .i64 a.f.id, .string a.f.obj, .int .i64 a.f.fr, .int .i64 a.f.to, .string a.f.mt, .bool a.f.mw, .string a.f.nt, .bool a.f.nw, .int .i64 a.f.en, .int .i64 a.f.sa, .int .i64 a.f.mo, .int .i64 a.f.ge, .int .i64 a.f.pl, .bool a.f.he, .int .i64 a.id, .int .i64 a.who, .int .i64 a.en, .int .i64 a.n, .int .i64 a.to, .string a.obj] : Array Value).toList) :: B') (t.leave a.who).2) := fun W O C x B' hh =>
    leave_list a.who hh.out (by simp) hs
  have fB : ∀ W O C s B', Hid (Stage w0 W tb O s xb C t ((w.heap.size, (#[.int .u8 a.kind, .int .i64 a.f.id, .string a.f.obj, .int .i64 a.f.fr, .int .i64 a.f.to, .string a.f.mt, .bool a.f.mw, .string a.f.nt, .bool a.f.nw, .int .i64 a.f.en, .int .i64 a.f.sa, .int .i64 a.f.mo, .int .i64 a.f.ge, .int .i64 a.f.pl, .bool a.f.he, .int .i64 a.id, .int .i64 a.who, .int .i64 a.en, .int .i64 a.n, .int .i64 a.to, .string a.obj] : Array Value).toList) :: B')) → Calls Try.prog 46 #[.pointer (some ⟨xb, 0, none⟩), .int .i64 a.who] W (ListPost w0 tb s xb (t.leave a.who).1 ((w.heap.size, (#[.int .u8 a.kind, .int .i64 a.f.id, .string a.f.obj, .int .i64 a.f.fr, .int .i64 a.f.to, .string a.f.mt, .bool a.f.mw, .string a.f.nt, .bool a.f.nw, .int .i64 a.f.en, .int .i64 a.f.sa, .int .i64 a.f.mo, .int .i64 a.f.ge, .int .i64 a.f.pl, .bool a.f.he, .int .i64 a.id, .int .i64 a.who, .int .i64 a.en, .int .i64 a.n, .int .i64 a.to, .string a.obj] : Array Value).toList) :: B') (t.leave a.who).2) := fun W O C s B' hh =>
    leaveR_list a.who hh.out (by simp) hs
  have hlen : (t.leave a.who).2.length ≤ 1000000 := by have := leave_length t a.who; have := hs.1; omega
  clear h hs
  generalize (t.leave a.who).1 = t' at *
  generalize (t.leave a.who).2 = L at *
  go_enter Try.func18, Try.ntmps18
  go_upto_region 9 with (fail)
  generalize w.alloc (.cells #[.int .u8 a.kind, .int .i64 a.f.id, .string a.f.obj, .int .i64 a.f.fr, .int .i64 a.f.to, .string a.f.mt, .bool a.f.mw, .string a.f.nt, .bool a.f.nw, .int .i64 a.f.en, .int .i64 a.f.sa, .int .i64 a.f.mo, .int .i64 a.f.ge, .int .i64 a.f.pl, .bool a.f.he, .int .i64 a.id, .int .i64 a.who, .int .i64 a.en, .int .i64 a.n, .int .i64 a.to, .string a.obj] 53) = wn at *
  have c16 : wn.cell? ⟨w.heap.size, 16, none⟩ = some (.int .i64 a.who) := HS.out.cell 16 rfl
  replace HS := Lib.hid (HS.out.step ((Ext.refl _).drew))
  go_region_held3 (fun w' => w'.cell? ⟨w.heap.size, 16, none⟩ = some (.int .i64 a.who)) (exact c16)
    (first
      | (go_at_call 21
         (with_reducible refine (fA _ _ _ _ _ HS).mono ?_)
         clear HS c16
         rintro e wn ⟨A1, k1, p1, O1, C1, rfl, R1, HS⟩
         try (replace R2 := Lib.hid (R2.out.more p1 p1))
         have c16 : wn.cell? ⟨w.heap.size, 16, none⟩ = some (.int .i64 a.who) := HS.out.cell 16 rfl)
      | (go_at_call 46
         (with_reducible refine (fB _ _ _ _ _ HS).mono ?_)
         clear HS c16
         rintro e wn ⟨A2, k2, p2, O2, C2, rfl, R2, HS⟩
         try (replace R1 := Lib.hid (R1.out.more p2 p2))
         have c16 : wn.cell? ⟨w.heap.size, 16, none⟩ = some (.int .i64 a.who) := HS.out.cell 16 rfl)
      | (go_at_call 25
         (with_reducible refine (numbers_calls A1 A2 k1 k2 L L _ (R1.out.row HS.out) (R2.out.row HS.out) hlen).mono ?_)
         clear c16
         rintro e wn ⟨rfl, hx⟩
         replace HS := Lib.hid (HS.out.step hx)
         clear hx
         have c16 : wn.cell? ⟨w.heap.size, 16, none⟩ = some (.int .i64 a.who) := HS.out.cell 16 rfl))
  all_goals
    go_wp2
    go_ret
    exact ⟨by simp, _, _, HS.out.drops fun p hp => by simp [hp]⟩

def EndList (w0 : World) (tb : Nat) (s : Tab) (xb : Nat) (x : Tab) (B : List (Nat × List Value)) (l : List Int) (b : Bool) (e : Ending) (w' : World) : Prop :=
  ∃ A c p O C, e = .returned (.tuple #[.slice A l.length c, .bool b]) ∧ Hid (Told A l (B ++ [p])) ∧ Hid (Stage w0 w' tb O s xb C x (B ++ [p]))
theorem end_list {w0 w : World} {tb xb : Nat} {O C : List Nat} {t x : Tab} {B : List (Nat × List Value)} (id : Int) (h : Stage w0 w tb O t xb C x B) (hB : B ≠ []) (hs : Small t) :
    Calls Try.prog 14 #[.pointer (some ⟨tb, 0, none⟩), .int .i64 id] w (EndList w0 tb (t.end_ id).1 xb x B (t.end_ id).2.1 (t.end_ id).2.2) :=
  (end_calls w0.heap.size tb O t id w h.t hs).mono fun e w' ⟨v, O', h1, h2, h3, h4, h5, h6, h7⟩ => by
    have k := h.turn1 h3 h4 fun x hx => .inl (h5 x hx)
    obtain ⟨A, c, p, rfl, a2, a3⟩ := k.list hB h2 h6 fun x hx hc => h.ap x (h7 x hx) hc
    exact ⟨A, c, p, _, _, h1, Lib.hid a2, Lib.hid a3⟩
def EndListR (w0 : World) (tb : Nat) (s : Tab) (xb : Nat) (x : Tab) (B : List (Nat × List Value)) (l : List Int) (b : Bool) (e : Ending) (w' : World) : Prop :=
  ∃ A c O C, e = .returned (.tuple #[.slice A l.length c, .int .i64 (bI b)]) ∧ Hid (RowI w' A l) ∧ Hid (Stage w0 w' tb O s xb C x B)
theorem endR_list {w0 w : World} {tb xb : Nat} {O C : List Nat} {t s : Tab} {B : List (Nat × List Value)} (id : Int) (h : Stage w0 w tb O s xb C t B) (hs : Small t) :
    Calls Try.prog 51 #[.pointer (some ⟨xb, 0, none⟩), .int .i64 id] w (EndListR w0 tb s xb (t.end_ id).1 B (t.end_ id).2.1 (t.end_ id).2.2) :=
  (endR_calls w0.heap.size xb C t id w h.r h.ext.size hs).mono fun e w' ⟨v, O', h1, h2, h3, h4, h5, h6⟩ => by
    obtain ⟨_, A, c, rfl, _, hri⟩ := row_ints h2
    exact ⟨A, c, _, _, h1, Lib.hid hri, Lib.hid (h.turn2 h3 h4 h5)⟩

set_option maxHeartbeats 4000000 in
set_option maxRecDepth 100000 in
theorem do_end (w0 : World) (tb xb : Nat) (O C : List Nat) (t : Tab) (B : List (Nat × List Value)) (a : Op) (w : World) (h : Stage w0 w tb O t xb C t B) (hs : Small t) (hk : 0 ≤ a.kind ∧ a.kind < 256) (hr : a.kind % 7 = 6) :
    Calls Try.prog 18 #[.pointer (some ⟨tb, 0, none⟩), .pointer (some ⟨xb, 0, none⟩), agOp a] w (DoPost w0 tb xb (t.end_ a.id).1 B) := by
  unfold agOp
  have HS := Lib.hid (h.box #[.int .u8 a.kind, .int .i64 a.f.id, .string a.f.obj, .int .i64 a.f.fr, .int .i64 a.f.to, .string a.f.mt, .bool a.f.mw, .string a.f.nt, .bool a.f.nw, .int .i64 a.f.en, .int .i64 a.f.sa, .int .i64 a.f.mo, .int .i64 a.f.ge, .int .i64 a.f.pl, .bool a.f.he, .int .i64 a.id, .int .i64 a.who, .int .i64 a.en, .int .i64 a.n, .int .i64 a.to, .string a.obj] 53)
  have fA : ∀ W O C x B', Hid (Stage w0 W tb O t xb C x ((w.heap.size, (#[.int .u8 a.kind, .int .i64 a.f.id, .string a.f.obj, .int .i64 a.f.fr, .int .i64 a.f.to, .string a.f.mt, .bool a.f.mw, .string a.f.nt, .bool a.f.nw, .int .i64 a.f.en, .int .i64 a.f.sa, .int .i64 a.f.mo, .int .i64 a.f.ge, .int .i64 a.f.pl, .bool a.f.he, .int .i64 a.id, .int .i64 a.who, .int .i64 a.en, .int .i64 a.n, .int .i64 a.to, .string a.obj] : Array Value).toList) :: B')) → Calls Try.prog 14 #[.pointer (some ⟨tb, 0, none⟩), .int .i64 a.id] W (EndList w0 tb (t.end_ a.id).1 xb x ((w.heap.size, (#[.int .u8 a.kind, .int .i64 a.f.id, .string a.f.obj, .int .i64 a.f.fr, .int .i64 a.f.to, .string a.f.mt, .bool a.f.mw, .string a.f.nt, .bool a.f.nw, .int .i64 a.f.en, .int .i64 a.f.sa, .int .i64 a.f.mo, .int .i64 a.f.ge, .int .i64 a.f.pl, .bool a.f.he, .int .i64 a.id, .int .i64 a.who, .int .i64 a.en, .int .i64 a.n, .int .i64 a.to, .string a.obj] : Array Value).toList) :: B') (t.end_ a.id).2.1 (t.end_ a.id).2.2) := fun W O C x B' hh =>
    end_list a.id hh.out (by simp) hs
  have fB : ∀ W O C s B', Hid (Stage w0 W tb O s xb C t ((w.heap.size, (#[.int .u8 a.kind, .int .i64 a.f.id, .string a.f.obj, .int .i64 a.f.fr, .int .i64 a.f.to, .string a.f.mt, .bool a.f.mw, .string a.f.nt, .bool a.f.nw, .int .i64 a.f.en, .int .i64 a.f.sa, .int .i64 a.f.mo, .int .i64 a.f.ge, .int .i64 a.f.pl, .bool a.f.he, .int .i64 a.id, .int .i64 a.who, .int .i64 a.en, .int .i64 a.n, .int .i64 a.to, .string a.obj] : Array Value).toList) :: B')) → Calls Try.prog 51 #[.pointer (some ⟨xb, 0, none⟩), .int .i64 a.id] W (EndListR w0 tb s xb (t.end_ a.id).1 ((w.heap.size, (#[.int .u8 a.kind, .int .i64 a.f.id, .string a.f.obj, .int .i64 a.f.fr, .int .i64 a.f.to, .string a.f.mt, .bool a.f.mw, .string a.f.nt, .bool a.f.nw, .int .i64 a.f.en, .int .i64 a.f.sa, .int .i64 a.f.mo, .int .i64 a.f.ge, .int .i64 a.f.pl, .bool a.f.he, .int .i64 a.id, .int .i64 a.who, .int .i64 a.en, .int .i64 a.n, .int .i64 a.to, .string a.obj] : Array Value).toList) :: B') (t.end_ a.id).2.1 (t.end_ a.id).2.2) := fun W O C s B' hh =>
    endR_list a.id hh.out hs
  have hlen : (t.end_ a.id).2.1.length ≤ 1000000 := by
    unfold Tab.end_
    cases hp : place t.l a.id with
    | none => simp
    | some i =>
      obtain ⟨p1, p2⟩ := place_some hp
      have := hs.2.2.2.2 _ (List.getElem_mem p1)
      have := this.1
      dsimp only
      rw [getElem!_pos t.l i p1]
      omega
  clear h hs
  generalize (t.end_ a.id).1 = t' at *
  generalize (t.end_ a.id).2.1 = L at *
  generalize (t.end_ a.id).2.2 = r at *
  go_enter Try.func18, Try.ntmps18
  go_upto_region 16 with (fail)
  generalize w.alloc (.cells #[.int .u8 a.kind, .int .i64 a.f.id, .string a.f.obj, .int .i64 a.f.fr, .int .i64 a.f.to, .string a.f.mt, .bool a.f.mw, .string a.f.nt, .bool a.f.nw, .int .i64 a.f.en, .int .i64 a.f.sa, .int .i64 a.f.mo, .int .i64 a.f.ge, .int .i64 a.f.pl, .bool a.f.he, .int .i64 a.id, .int .i64 a.who, .int .i64 a.en, .int .i64 a.n, .int .i64 a.to, .string a.obj] 53) = wn at *
  have c15 : wn.cell? ⟨w.heap.size, 15, none⟩ = some (.int .i64 a.id) := HS.out.cell 15 rfl
  go_wp2_with fail
  refine (fA _ _ _ _ _ HS).mono ?_
  clear HS c15
  rintro e w1 ⟨A1, k1, p1, O1, C1, rfl, R1, HS⟩
  have c15 : w1.cell? ⟨w.heap.size, 15, none⟩ = some (.int .i64 a.id) := HS.out.cell 15 rfl
  go_wp2_with fail
  refine (fB _ _ _ _ _ HS).mono ?_
  clear HS c15
  rintro e w2 ⟨A2, k2, O2, C2, rfl, R2, HS⟩
  go_wp2_with fail
  refine (ints_calls A1 A2 k1 k2 L L _ (R1.out.row HS.out) R2.out hlen).mono ?_
  rintro e w3 ⟨rfl, hx⟩
  replace HS := Lib.hid (HS.out.step hx)
  have e1 : decide (L = L) = true := by simp
  clear hx
  go_wp2
  go_ret
  exact ⟨by cases r <;> simp [bI], _, _, HS.out.drops fun p hp => by simp [hp]⟩

theorem do_calls (w0 : World) (tb xb : Nat) (O C : List Nat) (t : Tab) (B : List (Nat × List Value)) (a : Op) (w : World) (h : Stage w0 w tb O t xb C t B) (hs : Small t) (hk : 0 ≤ a.kind ∧ a.kind < 256) :
    Calls Try.prog 18 #[.pointer (some ⟨tb, 0, none⟩), .pointer (some ⟨xb, 0, none⟩), agOp a] w (DoPost w0 tb xb (t.step a) B) := by
  unfold Tab.step
  by_cases h0 : a.kind % 7 = 0
  · rw [if_pos h0]; exact do_start w0 tb xb O C t B a w h hs hk h0
  rw [if_neg h0]
  by_cases h1 : a.kind % 7 = 1
  · rw [if_pos h1]; exact do_join w0 tb xb O C t B a w h hs hk h1
  rw [if_neg h1]
  by_cases h2 : a.kind % 7 = 2
  · rw [if_pos h2]; exact do_leave w0 tb xb O C t B a w h hs hk h2
  rw [if_neg h2]
  by_cases h3 : a.kind % 7 = 3
  · rw [if_pos h3]; exact do_quit w0 tb xb O C t B a w h hs hk h3
  rw [if_neg h3]
  by_cases h4 : a.kind % 7 = 4
  · rw [if_pos h4]; exact do_hear w0 tb xb O C t B a w h hs hk h4
  rw [if_neg h4]
  by_cases h5 : a.kind % 7 = 5
  · rw [if_pos h5]; exact do_move w0 tb xb O C t B a w h hs hk h5
  rw [if_neg h5]
  exact do_end w0 tb xb O C t B a w h hs hk (by omega)
end Go.Proofs.Ytaanbgagdanalaa
