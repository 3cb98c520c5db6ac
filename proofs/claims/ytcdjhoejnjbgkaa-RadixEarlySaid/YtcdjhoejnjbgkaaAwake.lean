/- The contract of the law's awake: it holds. -/
import Derived.Test.YtcdjhoejnjbgkaaSMaps
namespace Go.Proofs.Ytcdjhoejnjbgkaa.St
open Go.RowKit
attribute [local go_sem] Oper.semAt_some

def tA : Nd := .br 0 1 (.leaf 1 1) (.br 1 0 (.leaf 2 2) (.leaf 3 3))
def tB : Nd := .br 0 1 (.leaf 1 1) (.leaf 3 3)
theorem wfA : Nd.oWF (some tA) := by
  simp [Nd.oWF, tA, Nd.WF, Nd.toL]
theorem wfB : Nd.oWF (some tB) := by
  simp [Nd.oWF, tB, Nd.WF, Nd.toL]

theorem p1 (p : Option Addr) (w : World) (h : AtO w p none) : Calls Try.prog 25 #[.agg #[.pointer p], .int .u64 2, .string ⟨#[98]⟩] w (MapPost w (some (.leaf 2 2))) :=
  mput_calls p none 2 2 w ⟨h, trivial, by simp [Nd.oL]⟩ (by decide)
theorem p2 (p : Option Addr) (w : World) (h : AtO w p (some (.leaf 2 2))) : Calls Try.prog 25 #[.agg #[.pointer p], .int .u64 1, .string ⟨#[97]⟩] w (MapPost w (some (.br 0 1 (.leaf 1 1) (.leaf 2 2)))) :=
  mput_calls p (some (.leaf 2 2)) 1 1 w ⟨h, by simp [Nd.oWF, Nd.WF], by simp [Nd.oL, Nd.toL]⟩ (by decide)
theorem p3 (p : Option Addr) (w : World) (h : AtO w p (some (.br 0 1 (.leaf 1 1) (.leaf 2 2)))) : Calls Try.prog 25 #[.agg #[.pointer p], .int .u64 3, .string ⟨#[99]⟩] w (MapPost w (some tA)) :=
  mput_calls p (some (.br 0 1 (.leaf 1 1) (.leaf 2 2))) 3 3 w ⟨h, by simp [Nd.oWF, Nd.WF, Nd.toL], by simp [Nd.oL, Nd.toL]⟩ (by decide)
theorem d1 (p : Option Addr) (w : World) (h : AtO w p (some tA)) : Calls Try.prog 26 #[.agg #[.pointer p], .int .u64 2] w (MapPost w (some tB)) :=
  mdrop_calls p (some tA) 2 w ⟨h, wfA, by simp [Nd.oL, Nd.toL, tA]⟩ (by decide)
theorem n1 (p : Option Addr) (w : World) (h : AtO w p (some tA)) : Calls Try.prog 27 #[.agg #[.pointer p], .int .u64 2] w fun e w' => e = .returned (.tuple #[.int .u64 2, .string ⟨#[98]⟩, .bool true]) ∧ Ext w w' :=
  (next_calls p (some tA) 2 w h wfA).mono fun _ _ ⟨he, hx⟩ => ⟨he, hx⟩
theorem n2 (p : Option Addr) (w : World) (h : AtO w p (some tB)) : Calls Try.prog 27 #[.agg #[.pointer p], .int .u64 4] w fun e w' => e = .returned (.tuple #[.int .u64 0, .string ⟨#[]⟩, .bool false]) ∧ Ext w w' :=
  (next_calls p (some tB) 4 w h wfB).mono fun _ _ ⟨he, hx⟩ => ⟨he, hx⟩
theorem g1 (p : Option Addr) (w : World) (h : AtO w p (some tB)) : Calls Try.prog 28 #[.agg #[.pointer p], .int .u64 2] w fun e w' => e = .returned (.tuple #[.string ⟨#[]⟩, .bool false]) ∧ Ext w w' :=
  (mget_calls p (some tB) 2 w h wfB (by decide)).mono fun _ _ ⟨he, hx⟩ => ⟨he, hx⟩
theorem l0 (p : Option Addr) (w : World) (h : AtO w p none) : Calls Try.prog 30 #[.agg #[.pointer p]] w fun e w' => e = .returned (.int .i64 0) ∧ Ext w w' := mlen_calls p none w h
theorem l3 (p : Option Addr) (w : World) (h : AtO w p (some tA)) : Calls Try.prog 30 #[.agg #[.pointer p]] w fun e w' => e = .returned (.int .i64 3) ∧ Ext w w' := mlen_calls p (some tA) w h
theorem l2 (p : Option Addr) (w : World) (h : AtO w p (some tB)) : Calls Try.prog 30 #[.agg #[.pointer p]] w fun e w' => e = .returned (.int .i64 2) ∧ Ext w w' := mlen_calls p (some tB) w h
theorem e2 (p : Option Addr) (w : World) (h : AtO w p (some tA)) : Calls Try.prog 31 #[.agg #[.pointer p]] w fun e w' => e = .returned (.int .i64 2) ∧ Ext w w' := mdepth_calls p (some tA) w h
theorem e1 (p : Option Addr) (w : World) (h : AtO w p (some tB)) : Calls Try.prog 31 #[.agg #[.pointer p]] w fun e w' => e = .returned (.int .i64 1) ∧ Ext w w' := mdepth_calls p (some tB) w h
theorem e0 (p : Option Addr) (w : World) (h : AtO w p none) : Calls Try.prog 31 #[.agg #[.pointer p]] w fun e w' => e = .returned (.int .i64 0) ∧ Ext w w' := mdepth_calls p none w h

theorem str_a (v : Int) : ((str v).toList == [97]) = decide (str v = ⟨#[97]⟩) := by
  unfold str; split
  · decide +kernel
  · split
    · decide +kernel
    · split <;> decide +kernel
theorem str_b (v : Int) : ((str v).toList == [98]) = decide (str v = ⟨#[98]⟩) := by
  unfold str; split
  · decide +kernel
  · split
    · decide +kernel
    · split <;> decide +kernel
theorem str_c (v : Int) : ((str v).toList == [99]) = decide (str v = ⟨#[99]⟩) := by
  unfold str; split
  · decide +kernel
  · split
    · decide +kernel
    · split <;> decide +kernel

/-- What awake's loop wants, told so far. -/
def abc : List (Nat × ByteArray) := [(1, ⟨#[97]⟩), (2, ⟨#[98]⟩), (3, ⟨#[99]⟩)]
def told (pre : List Pr) : List (Nat × ByteArray) := pre.map fun x => (x.k, str x.v)
def Iw (w8 : World) (pre : List Pr) (W : World) : Prop := told pre <+: abc ∧ pre.length < 3 ∧ Boxed W w8.heap.size 3 (.int .i64 (pre.length : Int)) ∧ Below w8.heap.size w8 W
def Ixw (w8 : World) (c : Code) (pre : List Pr) (W : World) : Prop := (c = .ret ∧ ¬ told pre <+: abc) ∨ (c = .exit 0 ∧ Boxed W w8.heap.size 3 (.int .i64 3) ∧ Below w8.heap.size w8 W)
theorem told_all : told (fromO 0 (some tA)) = abc := by decide
theorem told_pre {pre : List Pr} (h : pre <+: fromO 0 (some tA)) : told pre <+: abc := by
  rw [← told_all]; obtain ⟨r, hr⟩ := h; exact ⟨told r, by unfold told; rw [← List.map_append, hr]⟩
theorem told_step0 {x : Pr} : told ([] ++ [x]) <+: abc ↔ x.k = 1 ∧ str x.v = ⟨#[97]⟩ := by
  simp [told, abc]
theorem told_step1 {y x : Pr} (h : told [y] <+: abc) : told ([y] ++ [x]) <+: abc ↔ x.k = 2 ∧ str x.v = ⟨#[98]⟩ := by
  simp [told, abc] at h ⊢; simp [h]
theorem told_step2 {z y x : Pr} (h : told [z, y] <+: abc) : told ([z, y] ++ [x]) <+: abc ↔ x.k = 3 ∧ str x.v = ⟨#[99]⟩ := by
  simp [told, abc] at h ⊢; simp [h]

set_option maxRecDepth 100000 in
set_option maxHeartbeats 4000000 in
theorem awake_calls (w : World) : Calls Try.prog 10 #[] w fun e w' => e = .returned (.bool true) ∧ Ext w w' := by
  have hnf : ∀ (f : FuncId) (a b : Array Value) (w : World), (binOp .eql 64 (.func (.func f) a b) .nilFunc).run Try.prog w = .ok (.bool false) w := fun _ _ _ _ => by kernel_rfl
  refine (callsIn_wide (n := 5)).1 ?_
  refine callsIn_of_wp_marks Try.func10 rfl trivial ?_ rfl
  simp only [Try.ntmps10, List.size_toArray, List.length_nil, Nat.reduceSub, Array.replicate_succ, Array.replicate_zero, List.push_toArray, List.append_toArray, List.nil_append, List.cons_append]
  gi_wp2_with fail
  have x0 : Ext w ((w.alloc (.cells #[.bool false] 4)).alloc (.cells #[.pointer none] 56)) := ((Ext.refl w).alloc _).alloc _
  have br := (Boxed.new w 4 (.bool false)).alloc (.cells #[.pointer none] 56)
  have bm := Boxed.new (w.alloc (.cells #[.bool false] 4)) 56 (.pointer none)
  rw [World.size_alloc] at bm
  refine ⟨trivial, (callsIn_wide.2 (p1 none _ rfl)).mono ?_⟩
  rintro e w1 ⟨q1, rfl, h1, x1⟩
  replace br := show Boxed w1 _ _ _ from x1.block br
  replace bm := show Boxed w1 _ _ _ from x1.block bm
  replace x0 := x0.trans x1
  clear x1
  gi_wp2_with fail
  refine ⟨trivial, (callsIn_wide.2 (p2 q1 _ h1)).mono ?_⟩
  rintro e w2 ⟨q2, rfl, h2, x1⟩
  replace br := show Boxed w2 _ _ _ from x1.block br
  replace bm := show Boxed w2 _ _ _ from x1.block bm
  replace x0 := x0.trans x1
  clear x1 h1
  gi_wp2_with fail
  refine ⟨trivial, (callsIn_wide.2 (p3 q2 _ h2)).mono ?_⟩
  rintro e w3 ⟨qa, rfl, ha, x1⟩
  replace br := show Boxed w3 _ _ _ from x1.block br
  replace bm := show Boxed w3 _ _ _ from x1.block bm
  replace x0 := x0.trans x1
  clear x1 h2
  gi_wp2_with fail
  obtain ⟨ab, hab⟩ : ∃ ab, ab = w3.heap.size := ⟨_, rfl⟩
  have hlr := br.lt
  have hlm := bm.lt
  have ba := Boxed.new w3 56 (.pointer qa)
  rw [← hab] at ba hlr hlm ⊢
  have xa : Ext w3 (w3.alloc (.cells #[.pointer qa] 56)) := (Ext.refl _).alloc _
  refine ⟨trivial, (callsIn_wide.2 (d1 qa _ (ha.ext xa))).mono ?_⟩
  rintro e w4 ⟨qb, rfl, hb, x1⟩
  have xx := xa.trans x1
  replace br := show Boxed w4 _ _ _ from xx.block br
  replace bm := show Boxed w4 _ _ _ from xx.block bm
  replace ba := show Boxed w4 _ _ _ from x1.block ba
  replace x0 := x0.trans xx
  replace ha := ha.ext xx
  clear x1 xa xx hab w3
  have ca := ba.cell
  have hla := ba.lt
  have b3 := Boxed.new w4 56 (.pointer qb)
  have xb : Ext w4 (w4.alloc (.cells #[.pointer qb] 56)) := (Ext.refl _).alloc _
  gi_wp2_with fail
  refine ⟨trivial, (callsIn_wide.2 (n1 qa _ (ha.ext xb))).mono ?_⟩
  rintro e w5 ⟨rfl, x1⟩
  obtain ⟨bb, hbb⟩ : ∃ bb, bb = w4.heap.size := ⟨_, rfl⟩
  rw [← hbb] at b3 hla ⊢
  have xx := xb.trans x1
  replace br := show Boxed w5 _ _ _ from xx.block br
  replace bm := show Boxed w5 _ _ _ from xx.block bm
  replace ba := show Boxed w5 _ _ _ from xx.block ba
  replace b3 := show Boxed w5 _ _ _ from x1.block b3
  replace x0 := x0.trans xx
  replace ha := ha.ext xx
  replace hb := hb.ext xx
  clear x1 xb xx hbb ca w4
  have c3 := b3.cell
  gi_wp2_with fail
  refine ⟨trivial, (callsIn_wide.2 (g1 qb _ hb)).mono ?_⟩
  rintro e w6 ⟨rfl, xx⟩
  replace br := show Boxed w6 _ _ _ from xx.block br
  replace bm := show Boxed w6 _ _ _ from xx.block bm
  replace ba := show Boxed w6 _ _ _ from xx.block ba
  replace b3 := show Boxed w6 _ _ _ from xx.block b3
  replace x0 := x0.trans xx
  replace ha := ha.ext xx
  replace hb := hb.ext xx
  clear xx c3 w5
  have c3 := b3.cell
  gi_wp2_with fail
  refine ⟨trivial, (callsIn_wide.2 (n2 qb _ hb)).mono ?_⟩
  rintro e w7 ⟨rfl, xx⟩
  replace br := show Boxed w7 _ _ _ from xx.block br
  replace bm := show Boxed w7 _ _ _ from xx.block bm
  replace ba := show Boxed w7 _ _ _ from xx.block ba
  replace b3 := show Boxed w7 _ _ _ from xx.block b3
  replace x0 := x0.trans xx
  replace ha := ha.ext xx
  replace hb := hb.ext xx
  clear xx c3 w6
  have ca := ba.cell
  gi_wp2_with fail
  refine ⟨trivial, (callsIn_wide.2 (all_calls qa _)).mono ?_⟩
  rintro e w8 ⟨v, rfl, ⟨bq, bk, rfl, h1, h2⟩, xx⟩
  replace br := show Boxed w8 _ _ _ from xx.block br
  replace bm := show Boxed w8 _ _ _ from xx.block bm
  replace ba := show Boxed w8 _ _ _ from xx.block ba
  replace b3 := show Boxed w8 _ _ _ from xx.block b3
  replace x0 := x0.trans xx
  replace ha := ha.ext xx
  replace hb := hb.ext xx
  clear xx ca w7
  gi_wp2_with fail
  have xn : Ext w8 (w8.alloc (.cells #[.int .i64 0] 3)) := (Ext.refl _).alloc _
  refine wpIn_rangeFunc_ownF rfl (by omega) (gf := 47) (lb := #[.pointer (some ⟨bq, 0, none⟩), .pointer (some ⟨bk, 0, none⟩)]) rfl trivial (enters_of Try.func47 (by kernel_rfl) rfl)
    (from_stops 0 w8 (some tA) qa ha wfA bq bk _ _ xn (xn.block h1) (xn.block h2)) belowK_t (belowK_b (by simp)) (Below.refl _ _) (fun _ => rfl)
    (Iw w8) (Ixw w8)
    (fun s A B row hs hg hr => ⟨hs.1, hs.2.1, boxed_keep hs.2.2.1 hg hr, ownFrom_below (β := Unit) (Nat.le_refl _) (by simp) () A B row hs.2.2.2 hg hr⟩)
    (fun c s A B row hs hg hr => hs.imp id (fun hs => ⟨hs.1, boxed_keep hs.2.1 hg hr, ownFrom_below (β := Unit) (Nat.le_refl _) (by simp) () A B row hs.2.2 hg hr⟩))
    ⟨by simp [told], by simp, Boxed.new w8 3 (.int .i64 0), xn⟩
    (fun x => { tmps := #[.pointer (some ⟨w.heap.size, 0, none⟩), .pointer (some ⟨w.heap.size + 1, 0, none⟩), .pointer (some ⟨ab, 0, none⟩), .pointer (some ⟨bb, 0, none⟩), .int .u64 2, .string ⟨#[98]⟩, .bool true, .string ⟨#[]⟩, .bool false, .int .u64 0, .string ⟨#[]⟩, .bool false, .pointer (some ⟨w8.heap.size, 0, none⟩), .func (.func 47) #[] #[.pointer (some ⟨bq, 0, none⟩), .pointer (some ⟨bk, 0, none⟩)], .int .u64 (x.k : Int), .string (str x.v), .agg #[.pointer none], .agg #[.pointer q1], .agg #[.pointer q2], .agg #[.pointer qa], .agg #[.pointer qa], .agg #[.pointer qb], .tuple #[.int .u64 2, .string ⟨#[98]⟩, .bool true], .agg #[.pointer qa], .tuple #[.int .u64 2, .string ⟨#[98]⟩, .bool true], .int .u64 2, .string ⟨#[98]⟩, .bool true, .tuple #[.string ⟨#[]⟩, .bool false], .agg #[.pointer qb], .tuple #[.string ⟨#[]⟩, .bool false], .string ⟨#[]⟩, .bool false, .tuple #[.int .u64 0, .string ⟨#[]⟩, .bool false], .agg #[.pointer qb], .tuple #[.int .u64 0, .string ⟨#[]⟩, .bool false], .int .u64 0, .string ⟨#[]⟩, .bool false, .agg #[.pointer qa], .func (.func 47) #[] #[.pointer (some ⟨bq, 0, none⟩), .pointer (some ⟨bk, 0, none⟩)], .func (.func 47) #[] #[.pointer (some ⟨bq, 0, none⟩), .pointer (some ⟨bk, 0, none⟩)], .bool false, .func (.func 47) #[] #[.pointer (some ⟨bq, 0, none⟩), .pointer (some ⟨bk, 0, none⟩)], .int .u64 (x.k : Int), .string (str x.v), undef, undef, undef, undef, undef, undef, undef, undef, undef, undef, undef, undef, undef, undef, undef, undef, undef, undef, undef, undef, undef, undef, undef, undef, undef, undef, undef, undef, undef, undef, undef, undef, undef, undef, undef, undef, undef, undef, undef, undef, undef, undef, undef, undef, undef, undef, undef, undef, undef, undef, undef, undef, undef, undef, undef, undef, undef, undef, undef, undef, undef, undef, undef, undef, undef, undef, undef, undef, undef, undef, undef], defers := [] }) ?assign ?body ?done ?stop
  case assign =>
    intro l x W K hK
    gi_wp2
    exact hK
  case body =>
    rintro l pre x W ⟨ht, hl, hn, hB⟩ _
    have hrn := br.lt
    have hnl := hn.lt
    replace br := (show Boxed W _ _ _ from Ext.block hB br)
    have hrl := br.lt
    have n0 := hn.cell
    have n1 := hn.frozen
    have r0 := br.cell
    have r1 := br.frozen
    clear ha hb h1 h2 xn bm ba b3 x0 br
    rcases pre with _ | ⟨y, _ | ⟨z, _ | _⟩⟩
    · have hiff := told_step0 (x := x)
      have HI := Lib.hid (And.intro hiff (And.intro hn hB))
      clear hiff hn hB ht hl
      simp only [List.length_nil] at n0
      have hsa := str_a x.v
      by_cases ek : x.k = 1
      · have e1 : ((x.k : Int) == 1) = true := by simp [ek]
        by_cases hstr : str x.v = ⟨#[97]⟩
        · have hq : decide (str x.v = ⟨#[97]⟩) = true := by simp [hstr]
          rw [hq] at hsa
          have HS := Lib.hid hstr
          clear hstr hq
          gi_wp2
          have hstr := HS.out
          obtain ⟨hiff, hn, hB⟩ := HI.out
          exact ⟨((KeepsOthers.setCell _ _ _).trans (KeepsOthers.alloc _ _)), (((Below.refl w8.heap.size W).setCell (p := ⟨w8.heap.size, 0, none⟩) (Nat.le_refl _) _).alloc (by simp; omega) _), HI.out.1.2 ⟨ek, hstr⟩, by simp, (hn.set _).alloc _, ((hB.setCell (p := ⟨w8.heap.size, 0, none⟩) (Nat.le_refl _) _).alloc (by simp; omega) _)⟩
        · have hq : decide (str x.v = ⟨#[97]⟩) = false := by simp [hstr]
          rw [hq] at hsa
          have HS := Lib.hid hstr
          clear hstr hq
          gi_wp2
          exact ⟨((KeepsOthers.setCell _ _ _).trans (KeepsOthers.setCell _ _ _)).trans (KeepsOthers.alloc _ _), .inl ⟨rfl, fun h => HS.out (HI.out.1.1 h).2⟩⟩
      · have e1 : ((x.k : Int) == 1) = false := by simp; omega
        have e2 : ((x.k : Int) != 1) = true := by simp; omega
        have e3 : ¬ (x.k : Int) = 1 := by omega
        have EK := Lib.hid ek
        clear ek hsa
        gi_wp2
        exact ⟨(KeepsOthers.setCell _ _ _).trans (KeepsOthers.setCell _ _ _), .inl ⟨rfl, fun h => EK.out (HI.out.1.1 h).1⟩⟩
    · have hiff := told_step1 (x := x) ht
      have HI := Lib.hid (And.intro hiff (And.intro hn hB))
      clear hiff hn hB ht hl
      simp only [List.length_nil, List.length_cons] at n0
      have hsa := str_b x.v
      by_cases ek : x.k = 2
      · have e1 : ((x.k : Int) == 2) = true := by simp [ek]
        by_cases hstr : str x.v = ⟨#[98]⟩
        · have hq : decide (str x.v = ⟨#[98]⟩) = true := by simp [hstr]
          rw [hq] at hsa
          have HS := Lib.hid hstr
          clear hstr hq
          gi_wp2
          have hstr := HS.out
          obtain ⟨hiff, hn, hB⟩ := HI.out
          exact ⟨((KeepsOthers.setCell _ _ _).trans (KeepsOthers.alloc _ _)), (((Below.refl w8.heap.size W).setCell (p := ⟨w8.heap.size, 0, none⟩) (Nat.le_refl _) _).alloc (by simp; omega) _), HI.out.1.2 ⟨ek, hstr⟩, by simp, (hn.set _).alloc _, ((hB.setCell (p := ⟨w8.heap.size, 0, none⟩) (Nat.le_refl _) _).alloc (by simp; omega) _)⟩
        · have hq : decide (str x.v = ⟨#[98]⟩) = false := by simp [hstr]
          rw [hq] at hsa
          have HS := Lib.hid hstr
          clear hstr hq
          gi_wp2
          exact ⟨((KeepsOthers.setCell _ _ _).trans (KeepsOthers.setCell _ _ _)).trans (KeepsOthers.alloc _ _), .inl ⟨rfl, fun h => HS.out (HI.out.1.1 h).2⟩⟩
      · have e1 : ((x.k : Int) == 2) = false := by simp; omega
        have e2 : ((x.k : Int) != 2) = true := by simp; omega
        have e3 : ¬ (x.k : Int) = 2 := by omega
        have EK := Lib.hid ek
        clear ek hsa
        gi_wp2
        exact ⟨(KeepsOthers.setCell _ _ _).trans (KeepsOthers.setCell _ _ _), .inl ⟨rfl, fun h => EK.out (HI.out.1.1 h).1⟩⟩
    · have hiff := told_step2 (x := x) ht
      have HI := Lib.hid (And.intro hiff (And.intro hn hB))
      clear hiff hn hB ht hl
      simp only [List.length_nil, List.length_cons] at n0
      have hsa := str_c x.v
      by_cases ek : x.k = 3
      · have e1 : ((x.k : Int) == 3) = true := by simp [ek]
        by_cases hstr : str x.v = ⟨#[99]⟩
        · have hq : decide (str x.v = ⟨#[99]⟩) = true := by simp [hstr]
          rw [hq] at hsa
          have HS := Lib.hid hstr
          clear hstr hq
          gi_wp2
          have hstr := HS.out
          obtain ⟨hiff, hn, hB⟩ := HI.out
          exact ⟨((KeepsOthers.setCell _ _ _).trans (KeepsOthers.alloc _ _)), .inr ⟨rfl, (hn.set _).alloc _, ((hB.setCell (p := ⟨w8.heap.size, 0, none⟩) (Nat.le_refl _) _).alloc (by simp; omega) _)⟩⟩
        · have hq : decide (str x.v = ⟨#[99]⟩) = false := by simp [hstr]
          rw [hq] at hsa
          have HS := Lib.hid hstr
          clear hstr hq
          gi_wp2
          exact ⟨((KeepsOthers.setCell _ _ _).trans (KeepsOthers.setCell _ _ _)).trans (KeepsOthers.alloc _ _), .inl ⟨rfl, fun h => HS.out (HI.out.1.1 h).2⟩⟩
      · have e1 : ((x.k : Int) == 3) = false := by simp; omega
        have e2 : ((x.k : Int) != 3) = true := by simp; omega
        have e3 : ¬ (x.k : Int) = 3 := by omega
        have EK := Lib.hid ek
        clear ek hsa
        gi_wp2
        exact ⟨(KeepsOthers.setCell _ _ _).trans (KeepsOthers.setCell _ _ _), .inl ⟨rfl, fun h => EK.out (HI.out.1.1 h).1⟩⟩
    · simp at hl; omega
  case done =>
    rintro D ys W hD rfl ⟨_, hl, _⟩ hK
    exact absurd hl (by decide)
  case stop =>
    rintro D c pre W hD hpre hix hK
    rcases hix with ⟨rfl, hne⟩ | ⟨rfl, hn, hB⟩
    · exact absurd (told_pre hpre) hne
    · have xx : Ext w8 W := hB
      have hsz := x0.size
      replace br := show Boxed W _ _ _ from xx.block br
      replace bm := show Boxed W _ _ _ from xx.block bm
      replace ba := show Boxed W _ _ _ from xx.block ba
      replace b3 := show Boxed W _ _ _ from xx.block b3
      replace x0 := x0.trans xx
      replace ha := ha.ext xx
      replace hb := hb.ext xx
      have n0 := hn.cell
      have c1 := bm.cell
      clear xx h1 h2 xn hB
      gi_wp2_with fail
      refine ⟨trivial, (callsIn_wide.2 (l0 none _ rfl)).mono ?_⟩
      rintro e V0 ⟨rfl, xx⟩
      replace br := show Boxed V0 _ _ _ from xx.block br
      replace bm := show Boxed V0 _ _ _ from xx.block bm
      replace ba := show Boxed V0 _ _ _ from xx.block ba
      replace b3 := show Boxed V0 _ _ _ from xx.block b3
      replace x0 := x0.trans xx
      replace ha := ha.ext xx
      replace hb := hb.ext xx
      replace hK := xx.block hK
      clear xx c1
      have c1 := ba.cell
      gi_wp2_with fail
      refine ⟨trivial, (callsIn_wide.2 (l3 qa _ ha)).mono ?_⟩
      rintro e V1 ⟨rfl, xx⟩
      replace br := show Boxed V1 _ _ _ from xx.block br
      replace bm := show Boxed V1 _ _ _ from xx.block bm
      replace ba := show Boxed V1 _ _ _ from xx.block ba
      replace b3 := show Boxed V1 _ _ _ from xx.block b3
      replace x0 := x0.trans xx
      replace ha := ha.ext xx
      replace hb := hb.ext xx
      replace hK := xx.block hK
      clear xx c1
      have c1 := b3.cell
      gi_wp2_with fail
      refine ⟨trivial, (callsIn_wide.2 (l2 qb _ hb)).mono ?_⟩
      rintro e V2 ⟨rfl, xx⟩
      replace br := show Boxed V2 _ _ _ from xx.block br
      replace bm := show Boxed V2 _ _ _ from xx.block bm
      replace ba := show Boxed V2 _ _ _ from xx.block ba
      replace b3 := show Boxed V2 _ _ _ from xx.block b3
      replace x0 := x0.trans xx
      replace ha := ha.ext xx
      replace hb := hb.ext xx
      replace hK := xx.block hK
      clear xx c1
      have c1 := ba.cell
      gi_wp2_with fail
      refine ⟨trivial, (callsIn_wide.2 (e2 qa _ ha)).mono ?_⟩
      rintro e V3 ⟨rfl, xx⟩
      replace br := show Boxed V3 _ _ _ from xx.block br
      replace bm := show Boxed V3 _ _ _ from xx.block bm
      replace ba := show Boxed V3 _ _ _ from xx.block ba
      replace b3 := show Boxed V3 _ _ _ from xx.block b3
      replace x0 := x0.trans xx
      replace ha := ha.ext xx
      replace hb := hb.ext xx
      replace hK := xx.block hK
      clear xx c1
      have c1 := b3.cell
      gi_wp2_with fail
      refine ⟨trivial, (callsIn_wide.2 (e1 qb _ hb)).mono ?_⟩
      rintro e V4 ⟨rfl, xx⟩
      replace br := show Boxed V4 _ _ _ from xx.block br
      replace bm := show Boxed V4 _ _ _ from xx.block bm
      replace ba := show Boxed V4 _ _ _ from xx.block ba
      replace b3 := show Boxed V4 _ _ _ from xx.block b3
      replace x0 := x0.trans xx
      replace ha := ha.ext xx
      replace hb := hb.ext xx
      replace hK := xx.block hK
      clear xx c1
      have c1 := bm.cell
      gi_wp2_with fail
      refine ⟨trivial, (callsIn_wide.2 (e0 none _ rfl)).mono ?_⟩
      rintro e V5 ⟨rfl, xx⟩
      replace br := show Boxed V5 _ _ _ from xx.block br
      replace bm := show Boxed V5 _ _ _ from xx.block bm
      replace ba := show Boxed V5 _ _ _ from xx.block ba
      replace b3 := show Boxed V5 _ _ _ from xx.block b3
      replace x0 := x0.trans xx
      replace ha := ha.ext xx
      replace hb := hb.ext xx
      replace hK := xx.block hK
      clear xx c1
      have c1 := br.cell
      have f1 := br.frozen
      gi_wp2_with fail
      have hK' := (KeepsOthers.setCell V5 ⟨w.heap.size, 0, none⟩ (.bool true)).same D _ hK rfl
      refine ⟨by simp, .inl ⟨_, _, rfl, run_takeDeferred hK', ?_⟩⟩
      have u := (boxed_put (br.set (.bool true)) hK').cell
      refine ⟨.bool true, by simp [results, Try.f10, go_sem, u], rfl, ?_⟩
      have h9 : Ext w (V5.setCell ⟨w.heap.size, 0, none⟩ (.bool true)) := x0.setCell (p := ⟨w.heap.size, 0, none⟩) (Nat.le_refl _) _
      exact Below.trans h9 (belowK_b (w := w) (n₀ := w.heap.size) (Nat.le_refl _) _ D _ _ (by simp at hD; omega) hK' rfl rfl)
end Go.Proofs.Ytcdjhoejnjbgkaa.St
