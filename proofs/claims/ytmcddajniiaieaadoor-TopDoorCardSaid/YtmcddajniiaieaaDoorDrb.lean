/- The contracts of Ask, Bytes, Things. -/
import Derived.Test.YtmcddajniiaieaaDoorDr
namespace Go.Proofs.YtmcddajniiaieaaDoor
open Go.RowKit

section
variable {w w' : World} {B db c : Nat} {S : Int} {d : Dr}
theorem DrAt.step (h : DrAt w B db c S d) {B' : Nat} {T : List TypeId} {M : List Nat} (hk : Kp B' T M w w') (hT : 63 ∉ T) (hM : d.tm ∉ M) {c' : Nat} (hc : c ≤ c') (h8 : c' ≤ 800) {bk : Bk} {ls : Ls} {m : Int}
    (h1 : BkAt w' B d.bb c' S bk) (h2 : LsAt w' B d.lb c' ls) (h3 : SkAt w' B d.sb m) (h4 : ∀ k, (∃ x ∈ d.D, x.k = k) ↔ ∃ y ∈ ls.all, y.k = k)
    (a1 : ls.m ≠ some d.tm) (a2 : bk.m ≠ some d.tm) (a3 : ∀ a, ls.m = some a → bk.m ≠ some a) : DrAt w' B db c' S ⟨d.lb, d.bb, d.sb, d.tm, ls, bk, m, d.D⟩ :=
  ⟨hk.cells h.blk hT, h.db, h1, h2, h3, h.tm, by
    obtain ⟨f, h1, h2⟩ := h.map
    exact ⟨f, (h1.kp hk hM).mono hc, h2⟩, h.kd, h4, h.small, a1, a2, a3, h.S1, h8⟩
end
def AskPost (w : World) (B db c : Nat) (S : Int) (d : Dr) (e : Ending) (w' : World) : Prop := ∃ d', e = .returned (.tuple #[]) ∧ DrAt w' B db c S d' ∧ d'.D = d.D ∧ d'.m = d.m + 1 ∧ Kp B (skTs ++ lsTs) [] w w'

set_option maxHeartbeats 1000000 in
set_option maxRecDepth 100000 in
theorem ask_calls (B db c : Nat) (S : Int) (d : Dr) (u k : Int) (w : World) (h : DrAt w B db c S d) (hk : I64 k) (hu : 0 ≤ u ∧ u < 18446744073709551616) (hm : 0 ≤ d.m ∧ d.m < 16000) :
    Calls Tryd.prog 6 #[.pointer (some ⟨db, 0, none⟩), .int .u64 u, .int .i64 k] w (AskPost w B db c S d) := by
  have l4 : w.cell? ⟨db, 4, none⟩ = some (.pointer (some ⟨d.sb, 0, none⟩)) := blk_cell h.blk 4 rfl
  have HS := Lib.hid (shut_calls B db c S d w h)
  have HA := Lib.hid (skadd_calls B d.sb d.m u w h.sk hm hu)
  have H := Lib.hid h
  have HI := Lib.hid hk
  clear h hk hu hm
  go_enter Tryd.func6, Tryd.ntmps6
  go_wp2_with fail
  refine HS.out.mono ?_
  rintro e w1 ⟨rfl, rfl⟩
  go_wp2_with fail
  refine HA.out.mono ?_
  rintro e w2 ⟨rfl, hs2, hk2⟩
  have hb2 := hk2.cells H.out.blk (by decide)
  have hl2 := H.out.ls.kp_ hk2 (by decide) (by decide) (by simp)
  have HK2 := Lib.hid (hk2.mono (Nat.le_refl _) (T' := skTs ++ lsTs) (fun t h => List.mem_append_left _ h) (fun m h => h))
  have HBK := Lib.hid (H.out.bk.kp_ hk2 (by decide) (by simp))
  have HS2 := Lib.hid hs2
  have HT := Lib.hid (touch_calls B d.lb c d.ls k w2 hl2 HI.out)
  have l3 : w2.cell? ⟨db, 3, none⟩ = some (.pointer (some ⟨d.lb, 0, none⟩)) := blk_cell hb2 3 rfl
  clear hs2 hk2 hb2 hl2 HA HS
  go_wp2_with fail
  refine HT.out.mono ?_
  rintro e w3 ⟨b, s', rfl, h1, h2, h3, h4, h5⟩
  have HH := Lib.hid (And.intro h1 (And.intro h2 (And.intro h4 h5)))
  clear h1 h2 h3 h4 h5
  go_wp2
  go_end0
  obtain ⟨h1, h2, h4, h5⟩ := HH.out
  have hk3 := HK2.out.trans (h5.mono (Nat.le_refl _) (T' := skTs ++ lsTs) (fun t h => List.mem_append_right _ h) (fun m h => h))
  refine ⟨⟨d.lb, d.bb, d.sb, d.tm, s', d.bk, d.m + 1, d.D⟩, rfl, H.out.step hk3 (by decide) (by simp) (Nat.le_refl _) H.out.cc (HBK.out.kp_ h5 (by decide) (by simp)) h1 (HS2.out.kp_ h5 (by decide) (by decide) (by decide)) (fun k => ?_) (by rw [h2]; exact H.out.ap1) H.out.ap2 (fun a ha => H.out.ap3 a (by rw [← h2]; exact ha)), rfl, rfl, hk3⟩
  rw [H.out.same k]
  constructor
  · rintro ⟨y, hy, e⟩; exact ⟨y, h4.mem_iff.2 hy, e⟩
  · rintro ⟨y, hy, e⟩; exact ⟨y, h4.mem_iff.1 hy, e⟩

set_option maxHeartbeats 1000000 in
set_option maxRecDepth 100000 in
theorem dbytes_calls (B db c : Nat) (S : Int) (d : Dr) (t : Bool) (w : World) (h : DrAt w B db c S d) :
    Calls Tryd.prog 12 #[.pointer (some ⟨db, 0, none⟩), .string (nmB t)] w fun e w' => e = .returned (.tuple #[.int .i64 (d.bk.p true + d.bk.p false), .int .i64 (d.bk.p t)]) ∧ Ext w w' := by
  have l2 : w.cell? ⟨db, 2, none⟩ = some (.pointer (some ⟨d.bb, 0, none⟩)) := blk_cell h.blk 2 rfl
  have HS := Lib.hid (shut_calls B db c S d w h)
  have H1 : Hid (∀ W, Ext w W → Calls Tryd.prog 27 #[.pointer (some ⟨d.bb, 0, none⟩)] W fun e w' => e = .returned (.int .i64 (d.bk.p true + d.bk.p false)) ∧ Ext W w') := Lib.hid fun W hx => (ball_calls B d.bb c S d.bk W (h.bk.ext hx)).mono fun e w' ⟨he, hw⟩ => ⟨he, by rw [hw]; exact Ext.refl _⟩
  have H2 : Hid (∀ W, Ext w W → Calls Tryd.prog 28 #[.pointer (some ⟨d.bb, 0, none⟩), .string (nmB t)] W fun e w' => e = .returned (.int .i64 (d.bk.p t)) ∧ Ext W w') := Lib.hid fun W hx => (bof_calls B d.bb c S d.bk t W (h.bk.ext hx)).mono fun e w' ⟨he, hw⟩ => ⟨he, by rw [hw]; exact Ext.refl _⟩
  obtain ⟨al, hal⟩ : ∃ a, d.bk.p true + d.bk.p false = a := ⟨_, rfl⟩
  obtain ⟨pt, hpt⟩ : ∃ a, d.bk.p t = a := ⟨_, rfl⟩
  rw [hal] at H1
  rw [hpt] at H2
  rw [hal, hpt]
  clear h hal hpt
  go_enter Tryd.func12, Tryd.ntmps12
  go_wp2_with fail
  refine HS.out.mono ?_
  rintro e w1 ⟨rfl, rfl⟩
  go_wp2
  refine wp_region_ext_lit (by kernel_rfl) (by kernel_rfl) ?_
  intro X' _ g hg hg'
  have Q0 : ∀ n, (g n).cell? ⟨db, 2, none⟩ = some (.pointer (some ⟨d.bb, 0, none⟩)) := fun n => (hg n).cell l2
  clear l2
  repeat (go_big_quiet_step ((first | (go_at_call 27; refine (H1.out _ (hg _)).mono ?_; exact (fun e w2 hh => ⟨hh.1, hg' _ ((hg _).trans hh.2)⟩)) | (go_at_call 28; refine (H2.out _ (hg _)).mono ?_; exact (fun e w2 hh => ⟨hh.1, hg' _ ((hg _).trans hh.2)⟩)))))
  refine wpQuiet_nil ?_
  rintro w' ⟨n, rfl⟩
  have hxg := hg n
  clear Q0 hg hg'
  go_wp2
  exact bodyPost_ret (v := .tuple #[.int .i64 al, .int .i64 pt]) (by simp [results, Tryd.results12, go_sem]) rfl ⟨rfl, hxg⟩

/-- A slice that shows a list of numbers. -/
def IAt (w : World) (A : Option Addr) (l : List Int) : Prop := ∀ k (hk : k < l.length), ∃ b o, A = some ⟨b, o, none⟩ ∧ w.cell? ⟨b, o + k, none⟩ = some (.int .i64 l[k])
theorem IAt.ext {w w' : World} {A : Option Addr} {l : List Int} (h : IAt w A l) (hx : Ext w w') : IAt w' A l := fun k hk => by
  obtain ⟨b, o, e, p⟩ := h k hk
  exact ⟨b, o, e, hx.cell p⟩
theorem iat_of_own {w : World} {base : Nat} {e : TypeId} {A : Option Addr} {n c : Nat} {l : List Int} (h : w.ownsRow base e 1 (.slice A n c) n (intsV l)) : IAt w A l := fun k hk => by
  have hn : n = l.length := by have := h.1; simp [intsV] at this; omega
  subst hn
  obtain ⟨g, cap, hv, _, _⟩ := h.form (by omega)
  cases hv
  refine ⟨g, 0, rfl, ?_⟩
  rw [Nat.zero_add, h.cellAt _ (by omega)]
  simp [intsV, hk]
def thsV (l : List Th) : List Value := l.flatMap Th.cells
theorem thsV_append (a b : List Th) : thsV (a ++ b) = thsV a ++ thsV b := by simp [thsV]
theorem infoTh : (Tryd.prog.info? 39).map (fun i => (i.zero, i.size, i.bytes)) = some (some (.agg #[.int .i64 0, .int .i64 0, .string ⟨#[]⟩, .int .u64 0]), 4, 40) := by kernel_rfl
theorem own_less {w : World} {N N' : Nat} {e : TypeId} {size n : Nat} {v : Value} {xs : List Value} (h : w.ownsRow N e size v n xs) (hn : N' ≤ N) : w.ownsRow N' e size v n xs := by
  refine ⟨h.1, ?_⟩
  rcases h.2 with h2 | ⟨g, cap, cur, hv, hg, r⟩
  · exact .inl h2
  · exact .inr ⟨g, cap, cur, hv, by omega, r⟩
theorem eq_of_key {L : List Th} (h : (L.map Th.k).Nodup) {x y : Th} (hx : x ∈ L) (hy : y ∈ L) (e : x.k = y.k) : x = y := by
  induction L with
  | nil => cases hx
  | cons z L ih =>
    rw [List.map_cons, List.nodup_cons] at h
    rcases List.mem_cons.1 hx with rfl | hx2
    · rcases List.mem_cons.1 hy with rfl | hy2
      · rfl
      · exact absurd (show x.k ∈ L.map Th.k from List.mem_map.2 ⟨y, hy2, e.symm⟩) h.1
    · rcases List.mem_cons.1 hy with rfl | hy2
      · exact absurd (show y.k ∈ L.map Th.k from List.mem_map.2 ⟨x, hx2, e⟩) h.1
      · exact ih h.2 hx2 hy2
def ThingsPost (w : World) (d : Dr) (e : Ending) (w' : World) : Prop := ∃ v L, e = .returned v ∧ w'.ownsRow w.heap.size 39 4 v L.length (thsV L) ∧ (∀ x ∈ L, x ∈ d.D) ∧ L.length ≤ 1000 ∧ Ext w w'

set_option maxHeartbeats 2000000 in
set_option maxRecDepth 100000 in
theorem things_calls (B db c : Nat) (S : Int) (d : Dr) (w : World) (h : DrAt w B db c S d) : Calls Tryd.prog 7 #[.pointer (some ⟨db, 0, none⟩)] w (ThingsPost w d) := by
  have l3 : w.cell? ⟨db, 3, none⟩ = some (.pointer (some ⟨d.lb, 0, none⟩)) := blk_cell h.blk 3 rfl
  have l5 : w.cell? ⟨db, 5, none⟩ = some (.map (some d.tm)) := blk_cell h.blk 5 rfl
  have HS := Lib.hid (shut_calls B db c S d w h)
  have HO := Lib.hid (order_calls B d.lb c d.ls w h.ls)
  have H := Lib.hid h
  have hlen : d.ls.all.length ≤ 1000 := by have := h.ls.len; have := h.cc; omega
  have HL := Lib.hid (show ∀ y ∈ d.ls.all, I64 y.k ∧ ∃ x ∈ d.D, x.k = y.k from fun y hy => ⟨h.ls.keys y hy, (h.same y.k).2 ⟨y, hy, rfl⟩⟩)
  obtain ⟨tm, htm⟩ : ∃ m, d.tm = m := ⟨_, rfl⟩
  have HTM := Lib.hid htm
  rw [htm] at l5
  generalize hall : d.ls.all = Y at *
  clear h htm hall
  go_enter Tryd.func7, Tryd.ntmps7
  go_wp2_with fail
  refine HS.out.mono ?_
  rintro e w1 ⟨rfl, rfl⟩
  go_wp2_with fail
  refine HO.out.mono ?_
  rintro e w2 ⟨v2, rfl, hkeys, hx2⟩
  obtain ⟨A2, c2, rfl, -⟩ := hkeys.shape
  have HI := Lib.hid (show IAt w2 A2 (Y.map Nd.k) from iat_of_own hkeys)
  have l5' := hx2.cell l5
  have HX2 := Lib.hid hx2
  clear hkeys hx2 HO HS l3
  go_wp2
  go_loopw [3, 14] (fun s i wr => ∃ k : Nat, k ≤ Y.length ∧ i = .int .i64 k ∧ (∃ L : List Th, L.length = k ∧ wr.ownsRow w2.heap.size 39 4 s k (thsV L) ∧ (∀ x ∈ L, x ∈ d.D)) ∧ Ext w2 wr) (fun _ i _ => Y.length - (intOf i).toNat)
  case atStart => exact ⟨0, Nat.zero_le _, rfl, ⟨[], rfl, World.ownsRow_nil _ _ _ _, fun x hx => by cases hx⟩, Ext.refl w2⟩
  case round =>
    obtain ⟨k, hk, rfl, ⟨L, hL, hown, hLD⟩, hx⟩ := hrel
    by_cases hlt : k < Y.length
    · obtain ⟨b, o, rfl, p0⟩ := (HI.out.ext hx) k (by simpa using hlt)
      rw [List.getElem_map] at p0
      obtain ⟨hi, x, hxD, hxk⟩ := HL.out Y[k] (List.getElem_mem hlt)
      have hDr := H.out.ext (HX2.out.trans hx)
      rw [← hxk] at p0 hi
      have hrun : (Instr.lookup 61 (.map (some tm)) (.int .i64 x.k) false).run Tryd.prog wr = .ok (.agg #[.int .i64 x.k, .int .i64 x.n, .string (nmB x.t), .int .u64 x.u]) wr := by
        rcases hDr.look hi with ⟨y, hy, e, -, -, h2⟩ | ⟨hno, -⟩
        · rw [HTM.out] at h2
          have : y = x := by
            have hnd := hDr.kd
            exact eq_of_key hnd hy hxD e
          subst this
          exact h2
        · rw [(d.has_iff x.k).2 ⟨x, hxD, rfl⟩] at hno
          cases hno
      have l5r := hx.cell l5'
      have HXD := Lib.hid hxD
      have HLL := Lib.hid (And.intro hL hLD)
      have hws : w2.heap.size ≤ wr.heap.size := hx.size
      have HX := Lib.hid hx
      have hown2 := Lib.hid hown
      have hTV := Lib.hid (show thsV (L ++ [x]) = thsV L ++ [.int .i64 x.k, .int .i64 x.n, .string (nmB x.t), .int .u64 x.u] by rw [thsV_append]; simp [thsV, Th.cells])
      obtain ⟨A3, c3, rfl, -⟩ := own_shape hown
      clear hDr hi hxk hxD hL hLD hx
      go_wp2_with (at_builtin; refine wpList_append_new _ rfl _ _ 33 rfl w2.heap.size 39 _ 4 40 Tryd.underlying33 infoTh rfl (by omega) _ k (thsV L) rfl hown 1 1 wr.heap.size (by simp) #[.int .i64 x.k, .int .i64 x.n, .string (nmB x.t), .int .u64 x.u] (by rfl) (by rfl) (by simp [Value.oneCell']) (by simp [maxLen]; omega) (by omega) hws ?_; intro v1 w3 hown3 hm3)
      have hx3 : Ext w2 w3 := ext_moved HX.out hown2.out hm3
      go_roundw
      case rel => exact ⟨k + 1, by omega, by go_num, ⟨L ++ [x], by simp [HLL.out.1], by rw [hTV.out]; exact hown3, fun y hy => by
        rcases List.mem_append.1 hy with hy | hy
        · exact HLL.out.2 y hy
        · rw [List.mem_singleton.1 hy]; exact HXD.out⟩, hx3⟩
      case measure => simp [intOf] <;> omega
    · obtain rfl : k = Y.length := by omega
      go_wp2
      go_ret
      exact ⟨_, L, rfl, by rw [hL]; exact own_less hown HX2.out.size, hLD, by rw [hL]; exact hlen, HX2.out.trans hx⟩
end Go.Proofs.YtmcddajniiaieaaDoor
