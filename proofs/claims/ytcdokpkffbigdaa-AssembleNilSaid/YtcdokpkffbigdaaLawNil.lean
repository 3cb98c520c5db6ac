/- What no body tells; the walk of AssembleNil. -/
import Derived.Test.YtcdokpkffbigdaaPrs
namespace Go.Proofs.Ytcdokpkffbigdaa
open Go.RowKit

set_option maxRecDepth 100000 in
theorem sent_nilp (w : World) : Calls Try.prog 15 #[.pointer none] w fun e w' => e = .returned (.int .i64 0) ∧ w' = w := by
  go_enter Try.func15, Try.ntmps15
  go_wp2
  go_ret
  exact ⟨rfl, rfl⟩
set_option maxRecDepth 100000 in
theorem done_nilp (w : World) : Calls Try.prog 17 #[.pointer none] w fun e w' => e = .returned (.bool true) ∧ w' = w := by
  go_enter Try.func17, Try.ntmps17
  go_wp2
  go_ret
  exact ⟨rfl, rfl⟩
set_option maxRecDepth 100000 in
theorem left_nilp (w : World) : Calls Try.prog 12 #[.pointer none] w fun e w' => e = .returned (.int .i64 0) ∧ w' = w := by
  go_enter Try.func12, Try.ntmps12
  go_wp2
  go_ret
  exact ⟨rfl, rfl⟩
set_option maxRecDepth 100000 in
theorem at_nilp (w : World) : Calls Try.prog 30 #[.pointer none] w fun e w' => e = .returned (.tuple #[.int .i64 0, .bool false]) ∧ w' = w := by
  go_enter Try.func30, Try.ntmps30
  go_wp2
  go_ret2
  exact ⟨rfl, rfl⟩
set_option maxRecDepth 100000 in
theorem need_nilp (w : World) : Calls Try.prog 31 #[.pointer none] w fun e w' => e = .returned (.agg #[.slice none 0 0]) ∧ Ext w w' := by
  go_enter Try.func31, Try.ntmps31
  go_wp2
  refine bodyPost_ret (v := .agg #[.slice none 0 0]) (by simp [results, Try.results31, go_sem]) rfl ⟨rfl, ?_⟩
  exact (Ext.refl w).alloc _
set_option maxRecDepth 100000 in
theorem seal_nilp (x : Int) (w : World) : Calls Try.prog 20 #[.pointer none, .int .i64 x] w fun e w' => e = .returned (.int .i64 6) ∧ Ext w w' := by
  go_enter Try.func20, Try.ntmps20
  go_wp2
  refine wp_region_ext_lit (by kernel_rfl) (by kernel_rfl) ?_
  intro X _ g hg hg'
  repeat (go_big_quiet_step (fail))
  refine wpQuiet_nil ?_
  rintro w2 ⟨m, rfl⟩
  go_wp2
  go_ret
  exact ⟨rfl, hg m⟩
set_option maxRecDepth 100000 in
theorem next_nilp (A : Option Addr) (n c : Nat) (m : Int) (w : World) : Calls Try.prog 16 #[.pointer none, .agg #[.slice A n c], .int .i64 m] w fun e w' => e = .returned (.tuple #[.agg #[.string ⟨#[]⟩, .int .i64 0, .int .i64 0], .bool false]) ∧ Ext w w' := by
  go_enter Try.func16, Try.ntmps16
  go_wp2
  refine bodyPost_ret (v := .tuple #[.agg #[.string ⟨#[]⟩, .int .i64 0, .int .i64 0], .bool false]) (by simp [results, Try.results16, go_sem]) rfl ⟨rfl, ?_⟩
  exact ((Ext.refl w).alloc _).alloc _
set_option maxRecDepth 100000 in
theorem can_nilp (B : Option Addr) (d : Nat) (S : List Sp) (w : World) : Calls Try.prog 26 #[.pointer none, .agg #[.slice B S.length d]] w (CanPost w B d S []) := by
  have hmf : ∀ (fn : Fn) (first cap : Array Value) (w : World), (Instr.makeFunc fn first cap).run Try.prog w = .ok (.func fn first cap) w := fun _ _ _ _ => rfl
  go_enter Try.func26, Try.ntmps26
  go_wp2
  go_ret
  have hx0 : Ext w ((w.alloc (.cells #[.slice B S.length d] 34)).alloc (.cells #[.slice none 0 0] 22)) := ((Ext.refl w).alloc _).alloc _
  refine ⟨w.heap.size + 1, w.heap.size, none, 0, rfl, Lib.hid ⟨?_, ?_, PAt.nil _ _, by omega, Nat.le_refl _, fun b o e => by cases e⟩, hx0⟩
  · have := heap_alloc_new (w.alloc (.cells #[.slice B S.length d] 34)) (.cells #[.slice none 0 0] 22)
    simpa using this
  · exact ((Ext.refl _).alloc _).block (heap_alloc_new w _)
set_option maxHeartbeats 1000000 in
set_option maxRecDepth 100000 in
theorem lcan_nilp (B : Option Addr) (d : Nat) (S : List Sp) (w : World) (hS : SAt w B S) (hN : Norm S) (hlS : S.length ≤ 1000000) :
    Calls Try.prog 21 #[.pointer none, .agg #[.slice B S.length d]] w (PRowPost w []) := by
  have hmf : ∀ (fn : Fn) (first cap : Array Value) (w : World), (Instr.makeFunc fn first cap).run Try.prog w = .ok (.func fn first cap) w := fun _ _ _ _ => rfl
  have hx0 : Ext w ((w.alloc (.cells #[.slice B S.length d] 34)).alloc (.cells #[.slice none 0 0] 22)) := ((Ext.refl w).alloc _).alloc _
  have hob : ((w.alloc (.cells #[.slice B S.length d] 34)).alloc (.cells #[.slice none 0 0] 22)).heap[w.heap.size + 1]? = some (.cells #[.slice none 0 0] 22 (0, 0)) := by
    have := heap_alloc_new (w.alloc (.cells #[.slice B S.length d] 34)) (.cells #[.slice none 0 0] 22)
    simpa using this
  have hsb := (((Ext.refl _).alloc (.cells #[.slice none 0 0] 22)).block (heap_alloc_new w (.cells #[.slice B S.length d] 34)))
  have hBlt : 0 < S.length → ∀ b o, B = some ⟨b, o, none⟩ → b < w.heap.size := fun h0 b o e => by
    obtain ⟨b', o', e', p0, _⟩ := hS 0 h0
    rw [e] at e'
    cases e'
    exact block_of_cell p0
  have HS := Lib.hid (fun W (hx : Ext w W) => hS.ext hx)
  have s0 : ((w.alloc (.cells #[.slice B S.length d] 34)).alloc (.cells #[.slice none 0 0] 22)).cell? ⟨w.heap.size, 0, none⟩ = some (.slice B S.length d) := by rw [cell_of_block hsb]; rfl
  have HBL := Lib.hid hBlt
  clear hS hBlt hsb
  go_enter Try.func21, Try.ntmps21
  go_wp2_with fail
  generalize ((w.alloc (.cells #[.slice B S.length d] 34)).alloc (.cells #[.slice none 0 0] 22)) = w1 at *
  refine (can_nilp B d S w1).mono ?_
  rintro e w2 ⟨bl, bh, A, c, rfl, hcp, hx2⟩
  obtain ⟨h1, h2, h3, h4, h5, h6⟩ := hcp.out
  have hx02 := hx0.trans hx2
  have hz1 := (Array.getElem?_eq_some_iff.1 hob).1
  have hO : Out w2.heap.size (w.heap.size + 1) [] w2 := ⟨_, hx2.block hob, World.ownsRow_nil _ _ _ _, by have := hx2.size; omega, Nat.le_refl _⟩
  have hi1 := (Array.getElem?_eq_some_iff.1 h1).1
  have hi2 := (Array.getElem?_eq_some_iff.1 h2).1
  have HIT := Lib.hid (iter_calls 41 (w.heap.size + 1) w2.heap.size bl bh (fun args w => by simp [go_sem]) [] A c B d S (Out w2.heap.size (w.heap.size + 1)) (fun _ _ => False) (RwO (w.heap.size + 1)) (by have := hx2.size; omega)
    (fun L a b g hj hx hr => hj.rw_ hx hr) (fun L a b hj hx => hj.ext hx) hN hlS
    (fun L q W hj hp hn => by have := hp.length_le; simp [pcanL] at this)
    w2 (Nat.le_refl _) h1 h2 ⟨hi1, by omega⟩ ⟨hi2, by omega⟩ h3
    (fun h0 => absurd h0 (by simp))
    (HS.out w2 hx02)
    (fun h0 b o' e => by have := HBL.out h0 b o' e; have := hx02.size; exact ⟨by omega, by omega⟩) (by simp) hO)
  clear hcp h1 h2 h3 h4 h5 h6 hO hob s0
  go_wp2_with fail
  refine HIT.out.mono ?_
  rintro e w3 ⟨rfl, hk, hE⟩
  rcases hE with hJ | ⟨_, _, hJ⟩
  · obtain ⟨v, ho, hown, _, _⟩ := hJ
    have o0 : w3.cell? ⟨w.heap.size + 1, 0, none⟩ = some v := by rw [cell_of_block ho]; rfl
    obtain ⟨A', c', rfl, _⟩ := own_shape hown
    have hxf : Ext w w3 := ⟨hk.os.trans hx02.os, hk.tape.trans hx02.tape, hk.output.trans hx02.output, Nat.le_trans hx02.size hk.size, fun k hk' => (hk.block k (Nat.lt_of_lt_of_le hk' hx02.size) (by omega)).trans (Below.block hx02 k hk')⟩
    have HO := Lib.hid (own_base_le hown hx02.size)
    clear ho hown hk HIT
    go_wp2
    go_ret
    exact ⟨_, rfl, HO, hxf⟩
  · exact hJ.elim
theorem eqlPart (s : List UInt8) (a b a' b' : Int) (w : World) : (binOp .eql 40 (.agg #[.string ⟨s.toArray⟩, .int .i64 a, .int .i64 b]) (.agg #[.string ⟨s.toArray⟩, .int .i64 a', .int .i64 b'])).run Try.prog w = .ok (.bool (a == a' && b == b')) w := by
  have h1 : Try.prog.underlying 40 = some (.struct (Try.prog.fieldsOf 40)) := by kernel_rfl
  have h2 : Try.prog.stoodInHeld 40 = false := by kernel_rfl
  rw [run_eql_struct, run_equalIn_agg _ _ _ _ _ h1 h2]
  simp [go_sem]
  by_cases x1 : a = a' <;> by_cases x2 : b = b' <;> simp [x1, x2]

set_option maxHeartbeats 8000000 in
set_option maxRecDepth 100000 in
theorem lawNil_calls (B : Option Addr) (d : Nat) (hs : List Sp) (n : Int) (w : World) (hH : SAt w B hs ∧ hs.length ≤ d ∧ hs.length ≤ 9223372036854775807) :
    Calls Try.prog 8 #[.slice B hs.length d, .int .i64 n] w fun e w' => e = .returned (.bool true) ∧ Ext w w' := by
  obtain ⟨hH1, hH2, hH3⟩ := hH
  have HS := Lib.hid (fun W (hx : Ext w W) => hH1.ext hx)
  clear hH1 hH2
  go_enter Try.func8, Try.ntmps8
  go_wp2_with fail
  refine (alive_calls _).mono ?_
  rintro e w1 ⟨rfl, hx1⟩
  cases hg : decide ((30 : Int) < hs.length)
  case true =>
    go_wp2
    go_ret
    exact ⟨rfl, hx1⟩
  case false =>
  have hb : hs.length ≤ 30 := by have := of_decide_eq_false hg; omega
  go_wp2_with fail
  refine (of_calls B d hs _ (HS.out _ hx1) (by omega)).mono ?_
  rintro e w2 ⟨A2, c2, rfl, hS2, _, hx2⟩
  have hofl := of_length hs
  have HNO := Lib.hid (norm_of hs)
  generalize ofS hs = SS at *
  have hxa : Ext w2 (w2.alloc (.cells #[.slice A2 SS.length c2] 34)) := (Ext.refl _).alloc _
  have t6 : (w2.alloc (.cells #[.slice A2 SS.length c2] 34)).cell? ⟨w2.heap.size, 0, none⟩ = some (.slice A2 SS.length c2) := by rw [cell_of_block (heap_alloc_new _ _)]; rfl
  have hX := (hx1.trans hx2).trans hxa
  have hS3 := Lib.hid (hS2.out.ext hxa)
  clear hS2 hx1 hx2 hxa HS
  go_wp2_with fail
  generalize (w2.alloc (.cells #[.slice A2 SS.length c2] 34)) = w3 at *
  refine (next_nilp A2 SS.length c2 n _).mono ?_
  rintro e w4 ⟨rfl, hx⟩
  have hxa : Ext w4 (w4.alloc (.cells #[.string ⟨#[]⟩, .int .i64 0, .int .i64 0] 40)) := (Ext.refl _).alloc _
  have t7 := heap_alloc_new w4 (.cells #[.string ⟨#[]⟩, .int .i64 0, .int .i64 0] 40)
  replace t6 := hxa.cell (hx.cell t6)
  replace hX := (hX.trans hx).trans hxa
  replace hS3 := Lib.hid ((hS3.out.ext hx).ext hxa)
  have p0 : (w4.alloc (.cells #[.string ⟨#[]⟩, .int .i64 0, .int .i64 0] 40)).cell? ⟨w4.heap.size, 0, none⟩ = some (.string ⟨#[]⟩) := by rw [cell_of_block t7]; rfl
  have p1 : (w4.alloc (.cells #[.string ⟨#[]⟩, .int .i64 0, .int .i64 0] 40)).cell? ⟨w4.heap.size, 1, none⟩ = some (.int .i64 0) := by rw [cell_of_block t7]; rfl
  have p2 : (w4.alloc (.cells #[.string ⟨#[]⟩, .int .i64 0, .int .i64 0] 40)).cell? ⟨w4.heap.size, 2, none⟩ = some (.int .i64 0) := by rw [cell_of_block t7]; rfl
  have hq := eqlPart [] 0 0 0 0
  simp only [beq_self_eq_true, Bool.and_self] at hq
  have hgp := guardPart
  have HLC := Lib.hid (lcan_nilp A2 c2 SS _ hS3.out HNO.out (by omega))
  clear hx hxa t7
  go_wp2_with (first
    | (go_at_call 30; refine (at_nilp _).mono ?_; rintro e w5 ⟨rfl, rfl⟩))
  generalize (w4.alloc (.cells #[.string ⟨#[]⟩, .int .i64 0, .int .i64 0] 40)) = w6 at *
  refine HLC.out.mono ?_
  rintro e w7 ⟨v7, rfl, hown, hx7⟩
  obtain ⟨A7, c7, rfl, _⟩ := own_shape hown.out
  replace hX := hX.trans hx7
  rw [show ([] : List Pt).length = 0 from rfl]
  clear hown HLC hx7 p0 p1 p2 t6 hq hgp hS3
  go_wp2_with fail
  refine (seal_nilp n _).mono ?_
  rintro e w8 ⟨rfl, hx⟩
  replace hX := hX.trans hx
  clear hx
  go_wp2_with (first
    | (go_at_call 17; refine (done_nilp _).mono ?_; rintro e w9 ⟨rfl, rfl⟩)
    | (go_at_call 15; refine (sent_nilp _).mono ?_; rintro e w10 ⟨rfl, rfl⟩)
    | (go_at_call 12; refine (left_nilp _).mono ?_; rintro e w11 ⟨rfl, rfl⟩))
  refine (need_nilp _).mono ?_
  rintro e w12 ⟨rfl, hx⟩
  replace hX := hX.trans hx
  clear hx
  go_wp2_with fail
  refine (spans_calls none 0 [] _ (SAt.nil _ _) (by simp)).mono ?_
  rintro e w13 ⟨v, rfl, hown, hx⟩
  obtain ⟨A13, c13, rfl, _⟩ := own_shape hown
  rw [show ([] : List Sp).length = 0 from rfl]
  replace hX := hX.trans hx
  clear hx hown
  go_wp2
  go_ret
  exact ⟨by first | rfl | simp, hX⟩
end Go.Proofs.Ytcdokpkffbigdaa
