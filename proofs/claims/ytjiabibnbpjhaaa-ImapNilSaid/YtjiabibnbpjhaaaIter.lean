/- The contract of what Map.In hands back: it tells a function of each run in turn. -/
import Derived.Test.YtjiabibnbpjhaaaMeet
namespace Go.Proofs.Ytjiabibnbpjhaaa
open Go.RowKit

/-- What a round of a walk over runs may turn: nothing below block B; of the rest only the variable o, and rows of element type T. -/
def Kp (B o : Nat) (T : TypeId) (w w' : World) : Prop :=
  Below B w w' ∧ ∀ (g : Nat) (cs : Array Value) (t : TypeId) (fr : Nat × Nat), w.heap[g]? = some (.cells cs t fr) → t ≠ T → g ≠ o → w'.heap[g]? = some (.cells cs t fr)

theorem Kp.refl (B o : Nat) (T : TypeId) (w : World) : Kp B o T w w := ⟨Below.refl _ _, fun _ _ _ _ h _ _ => h⟩
theorem Kp.trans {B o : Nat} {T : TypeId} {a b c : World} (h : Kp B o T a b) (k : Kp B o T b c) : Kp B o T a c :=
  ⟨h.1.trans k.1, fun g cs t fr hg ht ho => k.2 g cs t fr (h.2 g cs t fr hg ht ho) ht ho⟩
theorem Kp.ext {B o : Nat} {T : TypeId} {a b : World} (h : Ext a b) (hB : B ≤ a.heap.size) : Kp B o T a b :=
  ⟨Below.mono h hB, fun _ _ _ _ hg _ _ => h.block hg⟩

/-- The parts of runs that lie in a span, in order. -/
def meetsR (l : List Rn) (f t : Int) : List Rn := (l.filter fun r => meets r.f r.t f t).map fun r => ⟨max r.f f, min r.t t, r.v⟩
theorem meetsR_snoc (l : List Rn) (r : Rn) (f t : Int) : meetsR (l ++ [r]) f t = meetsR l f t ++ (if meets r.f r.t f t then [⟨max r.f f, min r.t t, r.v⟩] else []) := by
  unfold meetsR
  rw [List.filter_append, List.map_append]
  cases h : meets r.f r.t f t <;> simp [h]

/-- The runs' cells, below block B. -/
def RunsAt (w : World) (B : Nat) (A : Option Addr) (l : List Rn) : Prop :=
  ∀ (k : Nat) (h : k < l.length), ∃ b, A = some ⟨b, 0, none⟩ ∧ b < B ∧ w.cell? ⟨b, k * 3, none⟩ = some (.int .i64 l[k].f) ∧ w.cell? ⟨b, k * 3 + 1, none⟩ = some (.int .i64 l[k].t) ∧ w.cell? ⟨b, k * 3 + 2, none⟩ = some (.int .i64 l[k].v)

theorem RunsAt.kept {w w' : World} {B : Nat} {A : Option Addr} {l : List Rn} (h : RunsAt w B A l) (hb : Below B w w') : RunsAt w' B A l := fun k hk => by
  obtain ⟨b, hA, hlt, p0, p1, p2⟩ := h k hk
  exact ⟨b, hA, hlt, (Below.cell (p := ⟨b, k * 3, none⟩) hb hlt).trans p0, (Below.cell (p := ⟨b, k * 3 + 1, none⟩) hb hlt).trans p1, (Below.cell (p := ⟨b, k * 3 + 2, none⟩) hb hlt).trans p2⟩

theorem Holds.row {w : World} {mb : Nat} {l : List Rn} (h : Holds w mb l) : ∃ A c, w.heap[mb]? = some (.cells #[.slice A l.length c] 73 (0, 0)) ∧ l.length ≤ c ∧ RunsAt w w.heap.size A l := by
  obtain ⟨A, c, h1, h2, h3⟩ := h
  refine ⟨A, c, h1, h2, fun k hk => ?_⟩
  obtain ⟨b, hA, _, p0, p1, p2⟩ := holds_at h3 hk
  exact ⟨b, hA, block_of_cell p0, p0, p1, p2⟩
theorem RunsAt.ext {w w' : World} {B : Nat} {A : Option Addr} {l : List Rn} (h : RunsAt w B A l) (hx : Ext w w') : RunsAt w' B A l := fun k hk => by
  obtain ⟨b, hA, hlt, p0, p1, p2⟩ := h k hk
  exact ⟨b, hA, hlt, hx.cell p0, hx.cell p1, hx.cell p2⟩

/-- What Map.In hands back: the runs as they are, and the span, each in a variable of its own. -/
def SeqAt (w : World) (B : Nat) (l : List Rn) (f t : Int) (v : Value) : Prop :=
  ∃ br bs A c, v = .func (.func 47) #[] #[.pointer (some ⟨br, 0, none⟩), .pointer (some ⟨bs, 0, none⟩)] ∧ w.heap[br]? = some (.cells #[.slice A l.length c] 71 (0, 0)) ∧ w.heap[bs]? = some (.cells #[.int .i64 f, .int .i64 t] 34 (0, 0)) ∧ RunsAt w B A l
theorem SeqAt.ext {w w' : World} {B : Nat} {l : List Rn} {f t : Int} {v : Value} (h : SeqAt w B l f t v) (hx : Ext w w') : SeqAt w' B l f t v := by
  obtain ⟨br, bs, A, c, hv, h1, h2, h3⟩ := h
  exact ⟨br, bs, A, c, hv, hx.block h1, hx.block h2, h3.ext hx⟩
def InPost (B : Nat) (w : World) (l : List Rn) (f t : Int) (e : Ending) (w' : World) : Prop := ∃ v, e = .returned v ∧ SeqAt w' B l f t v ∧ Ext w w'

set_option maxRecDepth 100000 in
theorem in_calls (mb : Nat) (l : List Rn) (f t : Int) (w0 w : World) (hx0 : Ext w0 w) (hm : Holds w0 mb l) :
    Calls Try.prog 38 #[.pointer (some ⟨mb, 0, none⟩), .agg #[.int .i64 f, .int .i64 t]] w (InPost w0.heap.size w l f t) := by
  obtain ⟨A, c, hmb, _, hru⟩ := hm.row
  replace hmb := hx0.block hmb
  replace hru := hru.ext hx0
  have hm0 : w.cell? ⟨mb, 0, none⟩ = some (.slice A l.length c) := by rw [cell_of_row w mb 0 _ _ _ hmb]; rfl
  have hmf : ∀ (fn : Fn) (first cap : Array Value) (w : World), (Instr.makeFunc fn first cap).run Try.prog w = .ok (.func fn first cap) w := fun _ _ _ _ => rfl
  have hlt := block_of_cell hm0
  simp only at hlt
  have hlt1 : mb < w.heap.size + 1 := by omega
  clear hmb hm hx0
  go_enter Try.func38, Try.ntmps38
  go_wp2
  go_ret
  have hx : Ext w ((w.alloc (.cells #[.int .i64 f, .int .i64 t] 34)).alloc (.cells #[.slice A l.length c] 71)) := ((Ext.refl w).alloc _).alloc _
  refine ⟨_, rfl, ⟨w.heap.size + 1, w.heap.size, A, c, rfl, ?_, ?_, hru.ext hx⟩, hx⟩
  · have := heap_alloc_new (w.alloc (.cells #[.int .i64 f, .int .i64 t] 34)) (.cells #[.slice A l.length c] 71)
    simpa using this
  · exact ((Ext.refl _).alloc _).block (heap_alloc_new w _)

set_option maxRecDepth 100000 in
theorem all_seq_calls (mb : Nat) (l : List Rn) (w0 w : World) (hx0 : Ext w0 w) (hm : Holds w0 mb l) :
    Calls Try.prog 19 #[.pointer (some ⟨mb, 0, none⟩)] w (InPost w0.heap.size w l 0 4611686018427387904) := by
  go_enter Try.func19, Try.ntmps19
  go_wp2_with fail
  refine (in_calls mb l _ _ _ _ hx0 hm).mono ?_
  rintro e w1 ⟨v, rfl, h1, h2⟩
  go_wp2
  go_ret
  exact ⟨_, rfl, h1, h2⟩

set_option maxRecDepth 100000 in
theorem iter_calls (y o B bs br : Nat) (hent : ∀ (args : Array Value) (w : World), (callFunc y args).run Try.prog w = .ok (.enter y args) w) (rs : List Rn) (A : Option Addr) (c : Nat) (f t : Int) (J Jx : List Rn → World → Prop)
    (hJ : ∀ L w w', J L w → Ext w w' → J L w')
    (hy : ∀ L r w, J L w → (L ++ [r]) <+: meetsR rs f t → Calls Try.prog y #[.agg #[.int .i64 r.f, .int .i64 r.t], .int .i64 r.v, .pointer (some ⟨o, 0, none⟩)] w fun e w' =>
      ∃ q, e = .returned (.bool q) ∧ Kp B o 50 w w' ∧ (q = true → J (L ++ [r]) w') ∧ (q = false → Jx (L ++ [r]) w'))
    (w : World) (hB : B ≤ w.heap.size) (hr : w.heap[br]? = some (.cells #[.slice A rs.length c] 71 (0, 0))) (hs : w.heap[bs]? = some (.cells #[.int .i64 f, .int .i64 t] 34 (0, 0)))
    (hro : br ≠ o) (hso : bs ≠ o) (hru : RunsAt w B A rs) (hlen : rs.length ≤ 1000000) (hJ0 : J [] w) :
    Calls Try.prog 47 #[.func (.func y) #[] #[.pointer (some ⟨o, 0, none⟩)], .pointer (some ⟨br, 0, none⟩), .pointer (some ⟨bs, 0, none⟩)] w fun e w' =>
      e = .returned (.tuple #[]) ∧ Kp B o 50 w w' ∧ (J (meetsR rs f t) w' ∨ ∃ L, L <+: meetsR rs f t ∧ Jx L w') := by
  have hr0 : w.cell? ⟨br, 0, none⟩ = some (.slice A rs.length c) := by rw [cell_of_row w br 0 _ _ _ hr]; rfl
  go_enter Try.func47, Try.ntmps47
  go_wp2
  clear hr0
  go_loopw [10] (fun i wr => ∃ k : Nat, k ≤ rs.length ∧ i = .int .i64 k ∧ Kp B o 50 w wr ∧ J (meetsR (rs.take k) f t) wr) (fun i _ => rs.length - (intOf i).toNat)
  case atStart => exact ⟨0, Nat.zero_le _, rfl, Kp.refl _ _ _ _, hJ0⟩
  case round =>
    obtain ⟨k, hk, rfl, hkp, hj⟩ := hrel
    by_cases hlt : k < rs.length
    · obtain ⟨b, rfl, hbB, p0, p1, p2⟩ := hru.kept hkp.1 k hlt
      obtain ⟨r, hr'⟩ : ∃ r, rs[k] = r := ⟨_, rfl⟩
      rw [hr'] at p0 p1 p2
      have hts : meetsR (rs.take (k + 1)) f t = meetsR (rs.take k) f t ++ (if meets r.f r.t f t then [⟨max r.f f, min r.t t, r.v⟩] else []) := by
        rw [List.take_succ_eq_append_getElem hlt, meetsR_snoc, hr']
      have hpre : meetsR (rs.take (k + 1)) f t <+: meetsR rs f t := by
        conv => rhs; rw [← List.take_append_drop (k + 1) rs]
        unfold meetsR
        rw [List.filter_append, List.map_append]
        exact List.prefix_append _ _
      have hrr := hkp.2 _ _ _ _ hr (by decide) hro
      have hss := hkp.2 _ _ _ _ hs (by decide) hso
      have hlt1 := (Array.getElem?_eq_some_iff.1 hss).1
      have s0 : wr.cell? ⟨bs, 0, none⟩ = some (.int .i64 f) := by rw [cell_of_row wr bs 0 _ _ _ hss]; rfl
      have s1 : wr.cell? ⟨bs, 1, none⟩ = some (.int .i64 t) := by rw [cell_of_row wr bs 1 _ _ _ hss]; rfl
      have HT := Lib.hid hts
      have HP := Lib.hid hpre
      clear hts hpre hr' hr hs hru
      go_wp2_with fail
      refine (meet_calls _ _ _ _ _).mono ?_
      rintro e w1 ⟨rfl, hx⟩
      have hxr : Ext wr w1 := ((Ext.refl wr).alloc _).trans hx
      have q2 : w1.cell? ⟨wr.heap.size, 2, none⟩ = some (.int .i64 r.v) := hx.cell (by simp)
      have z1 : wr.heap.size < w1.heap.size := by have := hx.size; simp at this; omega
      have hBr : B ≤ wr.heap.size := Nat.le_trans hB (Below.size hkp.1)
      clear hx s0 s1 p0 p1 p2 hrr hss
      cases hm : meets r.f r.t f t
      · have hmv : meetV r.f r.t f t = .agg #[.int .i64 0, .int .i64 0] := by simp [meetV, hm]
        rw [hmv]
        have hkp2 : Kp B o 50 wr (w1.alloc (.cells #[.int .i64 0, .int .i64 0] 34)) := Kp.ext (hxr.alloc _) hBr
        have hj2 := hJ _ _ _ hj (hxr.alloc (.cells #[.int .i64 0, .int .i64 0] 34))
        go_wp2
        go_roundw
        case rel =>
          refine ⟨k + 1, by omega, by go_num, hkp.trans hkp2, ?_⟩
          rw [HT.out, hm]; simpa using hj2
        case measure => simp [intOf]; omega
      · have hmv : meetV r.f r.t f t = .agg #[.int .i64 (max r.f f), .int .i64 (min r.t t)] := by simp [meetV, hm]
        rw [hmv]
        have hkp2 : Kp B o 50 wr (w1.alloc (.cells #[.int .i64 (max r.f f), .int .i64 (min r.t t)] 34)) := Kp.ext (hxr.alloc _) hBr
        have hj2 := hJ _ _ _ hj (hxr.alloc (.cells #[.int .i64 (max r.f f), .int .i64 (min r.t t)] 34))
        have hyy := hy (meetsR (rs.take k) f t) ⟨max r.f f, min r.t t, r.v⟩ (w1.alloc (.cells #[.int .i64 (max r.f f), .int .i64 (min r.t t)] 34)) hj2 (by have := HP.out; rw [HT.out, hm] at this; simpa using this)
        have HY := hide hyy
        clear hyy hj2
        go_wp2_with fail
        refine (unhide HY).mono ?_
        rintro e w2 ⟨q, rfl, hkp3, ht, hf⟩
        cases q
        · go_wp2
          refine bodyPost_ret (results_none rfl _ _ _) rfl ⟨rfl, (hkp.trans hkp2).trans hkp3, .inr ⟨_, ?_, by simpa using hf⟩⟩
          have := HP.out; rw [HT.out, hm] at this; simpa using this
        · go_wp2
          go_roundw
          case rel =>
            refine ⟨k + 1, by omega, by go_num, (hkp.trans hkp2).trans hkp3, ?_⟩
            rw [HT.out, hm]; simpa using ht
          case measure => simp [intOf]; omega
    · obtain rfl : k = rs.length := by omega
      rw [List.take_length] at hj
      go_wp2
      go_end0
      exact ⟨rfl, hkp, .inl hj⟩

set_option maxRecDepth 100000 in
theorem iter2_calls (y o o' B bs br : Nat) (hent : ∀ (args : Array Value) (w : World), (callFunc y args).run Try.prog w = .ok (.enter y args) w) (rs : List Rn) (A : Option Addr) (c : Nat) (f t : Int) (J Jx : List Rn → World → Prop)
    (hJ : ∀ L w w', J L w → Ext w w' → J L w')
    (hy : ∀ L r w, J L w → (L ++ [r]) <+: meetsR rs f t → Calls Try.prog y #[.agg #[.int .i64 r.f, .int .i64 r.t], .int .i64 r.v, .pointer (some ⟨o, 0, none⟩), .pointer (some ⟨o', 0, none⟩)] w fun e w' =>
      ∃ q, e = .returned (.bool q) ∧ Kp B o 50 w w' ∧ (q = true → J (L ++ [r]) w') ∧ (q = false → Jx (L ++ [r]) w'))
    (w : World) (hB : B ≤ w.heap.size) (hr : w.heap[br]? = some (.cells #[.slice A rs.length c] 71 (0, 0))) (hs : w.heap[bs]? = some (.cells #[.int .i64 f, .int .i64 t] 34 (0, 0)))
    (hro : br ≠ o) (hso : bs ≠ o) (hru : RunsAt w B A rs) (hlen : rs.length ≤ 1000000) (hJ0 : J [] w) :
    Calls Try.prog 47 #[.func (.func y) #[] #[.pointer (some ⟨o, 0, none⟩), .pointer (some ⟨o', 0, none⟩)], .pointer (some ⟨br, 0, none⟩), .pointer (some ⟨bs, 0, none⟩)] w fun e w' =>
      e = .returned (.tuple #[]) ∧ Kp B o 50 w w' ∧ (J (meetsR rs f t) w' ∨ ∃ L, L <+: meetsR rs f t ∧ Jx L w') := by
  have hr0 : w.cell? ⟨br, 0, none⟩ = some (.slice A rs.length c) := by rw [cell_of_row w br 0 _ _ _ hr]; rfl
  go_enter Try.func47, Try.ntmps47
  go_wp2
  clear hr0
  go_loopw [10] (fun i wr => ∃ k : Nat, k ≤ rs.length ∧ i = .int .i64 k ∧ Kp B o 50 w wr ∧ J (meetsR (rs.take k) f t) wr) (fun i _ => rs.length - (intOf i).toNat)
  case atStart => exact ⟨0, Nat.zero_le _, rfl, Kp.refl _ _ _ _, hJ0⟩
  case round =>
    obtain ⟨k, hk, rfl, hkp, hj⟩ := hrel
    by_cases hlt : k < rs.length
    · obtain ⟨b, rfl, hbB, p0, p1, p2⟩ := hru.kept hkp.1 k hlt
      obtain ⟨r, hr'⟩ : ∃ r, rs[k] = r := ⟨_, rfl⟩
      rw [hr'] at p0 p1 p2
      have hts : meetsR (rs.take (k + 1)) f t = meetsR (rs.take k) f t ++ (if meets r.f r.t f t then [⟨max r.f f, min r.t t, r.v⟩] else []) := by
        rw [List.take_succ_eq_append_getElem hlt, meetsR_snoc, hr']
      have hpre : meetsR (rs.take (k + 1)) f t <+: meetsR rs f t := by
        conv => rhs; rw [← List.take_append_drop (k + 1) rs]
        unfold meetsR
        rw [List.filter_append, List.map_append]
        exact List.prefix_append _ _
      have hrr := hkp.2 _ _ _ _ hr (by decide) hro
      have hss := hkp.2 _ _ _ _ hs (by decide) hso
      have hlt1 := (Array.getElem?_eq_some_iff.1 hss).1
      have s0 : wr.cell? ⟨bs, 0, none⟩ = some (.int .i64 f) := by rw [cell_of_row wr bs 0 _ _ _ hss]; rfl
      have s1 : wr.cell? ⟨bs, 1, none⟩ = some (.int .i64 t) := by rw [cell_of_row wr bs 1 _ _ _ hss]; rfl
      have HT := Lib.hid hts
      have HP := Lib.hid hpre
      clear hts hpre hr' hr hs hru
      go_wp2_with fail
      refine (meet_calls _ _ _ _ _).mono ?_
      rintro e w1 ⟨rfl, hx⟩
      have hxr : Ext wr w1 := ((Ext.refl wr).alloc _).trans hx
      have q2 : w1.cell? ⟨wr.heap.size, 2, none⟩ = some (.int .i64 r.v) := hx.cell (by simp)
      have z1 : wr.heap.size < w1.heap.size := by have := hx.size; simp at this; omega
      have hBr : B ≤ wr.heap.size := Nat.le_trans hB (Below.size hkp.1)
      clear hx s0 s1 p0 p1 p2 hrr hss
      cases hm : meets r.f r.t f t
      · have hmv : meetV r.f r.t f t = .agg #[.int .i64 0, .int .i64 0] := by simp [meetV, hm]
        rw [hmv]
        have hkp2 : Kp B o 50 wr (w1.alloc (.cells #[.int .i64 0, .int .i64 0] 34)) := Kp.ext (hxr.alloc _) hBr
        have hj2 := hJ _ _ _ hj (hxr.alloc (.cells #[.int .i64 0, .int .i64 0] 34))
        go_wp2
        go_roundw
        case rel =>
          refine ⟨k + 1, by omega, by go_num, hkp.trans hkp2, ?_⟩
          rw [HT.out, hm]; simpa using hj2
        case measure => simp [intOf]; omega
      · have hmv : meetV r.f r.t f t = .agg #[.int .i64 (max r.f f), .int .i64 (min r.t t)] := by simp [meetV, hm]
        rw [hmv]
        have hkp2 : Kp B o 50 wr (w1.alloc (.cells #[.int .i64 (max r.f f), .int .i64 (min r.t t)] 34)) := Kp.ext (hxr.alloc _) hBr
        have hj2 := hJ _ _ _ hj (hxr.alloc (.cells #[.int .i64 (max r.f f), .int .i64 (min r.t t)] 34))
        have hyy := hy (meetsR (rs.take k) f t) ⟨max r.f f, min r.t t, r.v⟩ (w1.alloc (.cells #[.int .i64 (max r.f f), .int .i64 (min r.t t)] 34)) hj2 (by have := HP.out; rw [HT.out, hm] at this; simpa using this)
        have HY := hide hyy
        clear hyy hj2
        go_wp2_with fail
        refine (unhide HY).mono ?_
        rintro e w2 ⟨q, rfl, hkp3, ht, hf⟩
        cases q
        · go_wp2
          refine bodyPost_ret (results_none rfl _ _ _) rfl ⟨rfl, (hkp.trans hkp2).trans hkp3, .inr ⟨_, ?_, by simpa using hf⟩⟩
          have := HP.out; rw [HT.out, hm] at this; simpa using this
        · go_wp2
          go_roundw
          case rel =>
            refine ⟨k + 1, by omega, by go_num, (hkp.trans hkp2).trans hkp3, ?_⟩
            rw [HT.out, hm]; simpa using ht
          case measure => simp [intOf]; omega
    · obtain rfl : k = rs.length := by omega
      rw [List.take_length] at hj
      go_wp2
      go_end0
      exact ⟨rfl, hkp, .inl hj⟩
end Go.Proofs.Ytjiabibnbpjhaaa
