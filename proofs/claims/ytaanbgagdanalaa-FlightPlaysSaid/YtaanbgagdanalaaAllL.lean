/- The contract of all. -/
import Derived.Test.YtaanbgagdanalaaGetF
import Derived.Test.YtaanbgagdanalaaUnh
namespace Go.Proofs.Ytaanbgagdanalaa
open Go.RowKit

theorem neq30 (id : Int) (o : ByteArray) (f t : Int) (m : ByteArray) (mw : Bool) (n : ByteArray) (nw : Bool) (en sa mo ge pl : Int) (he : Bool) (w : World) :
    (binOp .neq 30 (.agg #[.int .i64 id, .string o, .int .i64 f, .int .i64 t, .string m, .bool mw, .string n, .bool nw, .int .i64 en, .int .i64 sa, .int .i64 mo, .int .i64 ge, .int .i64 pl, .bool he]) (.agg #[.int .i64 id, .string o, .int .i64 f, .int .i64 t, .string m, .bool mw, .string n, .bool nw, .int .i64 en, .int .i64 sa, .int .i64 mo, .int .i64 ge, .int .i64 pl, .bool he])).run Try.prog w = .ok (.bool false) w := by
  have h1 : Try.prog.underlying 30 = some (.struct (Try.prog.fieldsOf 30)) := by kernel_rfl
  have h2 : Try.prog.stoodInHeld 30 = false := by kernel_rfl
  rw [run_neq_struct, run_equalIn_agg _ _ _ _ _ h1 h2]
  simp [go_sem]
theorem guard30 : Try.prog.eqGuardType Try.prog.depth 30 = false := by kernel_rfl
theorem ri_ext {w w' : World} {A : Option Addr} {l : List Int} (h : RowI w A l) (hx : Ext w w') : RowI w' A l := fun k hk => by
  obtain ⟨g, e, h⟩ := h k hk
  exact ⟨g, e, hx.cell h⟩
theorem get_at {t : Tab} (hs : Small t) {k : Nat} (hk : k < t.l.length) : t.get t.l[k].id = (t.l[k], true) ∧ t.who t.l[k].id = t.l[k].who := by
  have hp := place_at hs.2.2.2.1 hk
  unfold Tab.get Tab.who
  rw [hp]
  dsimp only
  rw [getElem!_pos _ k hk]
  exact ⟨rfl, rfl⟩

set_option maxHeartbeats 8000000 in
set_option maxRecDepth 100000 in
theorem allL_calls (N tb xb : Nat) (O C : List Nat) (t : Tab) (w : World) (h : TabR N w tb O t) (hr : RTabR N w xb C t) (hs : Small t) :
    Calls Try.prog 24 #[.pointer (some ⟨tb, 0, none⟩), .pointer (some ⟨xb, 0, none⟩)] w fun e w' => e = .returned (.bool true) ∧ Ext w w' := by
  have hall := all_calls N tb O t w h hs
  obtain ⟨lv, hlr⟩ : ∃ lv, RTabL N w xb lv C t := hr
  obtain ⟨b0, A8, c8, rfl, hrow⟩ := hlr.rowk
  have HT0 := Lib.hid h
  have HRW := Lib.hid hrow
  have hn := hs.1
  have HSM := Lib.hid hs
  clear h hlr hrow hs
  go_enter Try.func24, Try.ntmps24
  go_wp2_with fail
  refine hall.mono ?_
  rintro e w7 ⟨v, rfl, r7, x7⟩
  obtain ⟨A7, c7, rfl, _⟩ := own_shape r7
  replace b0 := x7.cell b0
  have hnow : ∀ k (hk : k < t.l.length), ∃ g, A7 = some ⟨g, 0, none⟩ ∧ w7.rangeAt g (k * 14) (headOf t.l[k]) := fun k hk => by
    rcases r7.2 with ⟨z1, z2⟩ | ⟨g, cap, cur, z1, _⟩
    · omega
    · have hA : A7 = some ⟨g, 0, none⟩ := by injection z1
      subst hA
      refine ⟨g, rfl, fun j u hu => ?_⟩
      have hj : j < 14 := (List.getElem?_eq_some_iff.1 hu).1
      rw [r7.cellAt _ (by omega), heads_get _ _ _ hk hj, ← hu]
  have HNW := Lib.hid hnow
  have HX7 := Lib.hid x7
  clear hall r7 x7 hnow
  go_wp2
  go_loopw [22] (fun i wr => ∃ k : Nat, k ≤ t.l.length ∧ i = .int .i64 k ∧ Ext w7 wr) (fun i _ => t.l.length - (intOf i).toNat)
  case atStart => exact ⟨0, Nat.zero_le _, rfl, Ext.refl _⟩
  case round =>
    obtain ⟨k, hk, rfl, hx⟩ := hrel
    by_cases hlt : k < t.l.length
    · obtain ⟨g7, rfl, hr7⟩ := HNW.out k hlt
      obtain ⟨g8, A2, c2, rfl, hr8, hri⟩ := HRW.out k hlt
      replace b0 := hx.cell b0
      obtain ⟨hge, hwh⟩ := get_at HSM.out hlt
      have hfi := HSM.out.2.2.2.2 _ (List.getElem_mem hlt)
      have hwl := hfi.1
      obtain ⟨f, hf⟩ : ∃ f, t.l[k] = f := ⟨_, rfl⟩
      rw [hf] at hr7 hr8 hri hge hwh hwl
      have hra7 : wr.rangeAt g7 (k * 14) [.int .i64 f.id, .string f.obj, .int .i64 f.fr, .int .i64 f.to, .string f.mt, .bool f.mw, .string f.nt, .bool f.nw, .int .i64 f.en, .int .i64 f.sa, .int .i64 f.mo, .int .i64 f.ge, .int .i64 f.pl, .bool f.he] := fun j u hu => hx.cell (hr7 j u hu)
      have hth7 : (wr.alloc (.cells #[.int .i64 0, .string ⟨#[]⟩, .int .i64 0, .int .i64 0, .string ⟨#[]⟩, .bool false, .string ⟨#[]⟩, .bool false, .int .i64 0, .int .i64 0, .int .i64 0, .int .i64 0, .int .i64 0, .bool false] 30)).there wr.heap.size 0 14 := there_of_block (heap_alloc_new wr _) rfl
      have hc7 := World.rangeAt_setCells_same _ wr.heap.size 0 (#[.int .i64 f.id, .string f.obj, .int .i64 f.fr, .int .i64 f.to, .string f.mt, .bool f.mw, .string f.nt, .bool f.nw, .int .i64 f.en, .int .i64 f.sa, .int .i64 f.mo, .int .i64 f.ge, .int .i64 f.pl, .bool f.he] : Array Value).toList hth7
      have hx7 : Ext wr ((wr.alloc (.cells #[.int .i64 0, .string ⟨#[]⟩, .int .i64 0, .int .i64 0, .string ⟨#[]⟩, .bool false, .string ⟨#[]⟩, .bool false, .int .i64 0, .int .i64 0, .int .i64 0, .int .i64 0, .int .i64 0, .bool false] 30)).setCells wr.heap.size 0 (#[.int .i64 f.id, .string f.obj, .int .i64 f.fr, .int .i64 f.to, .string f.mt, .bool f.mw, .string f.nt, .bool f.nw, .int .i64 f.en, .int .i64 f.sa, .int .i64 f.mo, .int .i64 f.ge, .int .i64 f.pl, .bool f.he] : Array Value).toList) := ext_setCells ((Ext.refl wr).alloc _) (Nat.le_refl _)
      have HXR := Lib.hid hx
      have HG := Lib.hid hge
      have HW := Lib.hid hwh
      clear hf hr7 hx hfi hge hwh
      go_upto_region 7 with (first | (refine wpList_load_mid rfl 30 _ rfl g7 (k * 14) (by rfl) _ _ hra7 Try.underlying30 rfl size30 ?_) | (refine wpList_store_mid rfl 30 _ _ rfl wr.heap.size 0 #[.int .i64 f.id, .string f.obj, .int .i64 f.fr, .int .i64 f.to, .string f.mt, .bool f.mw, .string f.nt, .bool f.nw, .int .i64 f.en, .int .i64 f.sa, .int .i64 f.mo, .int .i64 f.ge, .int .i64 f.pl, .bool f.he] rfl rfl hth7 size30 (by simp [Value.oneCell']) ?_))
      generalize (wr.alloc (.cells #[.int .i64 0, .string ⟨#[]⟩, .int .i64 0, .int .i64 0, .string ⟨#[]⟩, .bool false, .string ⟨#[]⟩, .bool false, .int .i64 0, .int .i64 0, .int .i64 0, .int .i64 0, .int .i64 0, .bool false] 30)).setCells wr.heap.size 0 (#[.int .i64 f.id, .string f.obj, .int .i64 f.fr, .int .i64 f.to, .string f.mt, .bool f.mw, .string f.nt, .bool f.nw, .int .i64 f.en, .int .i64 f.sa, .int .i64 f.mo, .int .i64 f.ge, .int .i64 f.pl, .bool f.he] : Array Value).toList = wy at *
      generalize hca : wr.heap.size = ca at *
      clear hca hra7 hth7
      replace b0 := hx7.cell b0
      have HXY := Lib.hid (HXR.out.trans hx7)
      have c0 : wy.cell? ⟨ca, 0, none⟩ = some (.int .i64 f.id) := hc7 0 _ rfl
      have hget := get_calls N tb O t f.id wy (HT0.out.ext (HX7.out.trans HXY.out)) HSM.out
      rw [HG.out] at hget
      unfold agF at hget
      dsimp only at hget
      have HC7 := Lib.hid (show wy.rangeAt ca 0 [.int .i64 f.id, .string f.obj, .int .i64 f.fr, .int .i64 f.to, .string f.mt, .bool f.mw, .string f.nt, .bool f.nw, .int .i64 f.en, .int .i64 f.sa, .int .i64 f.mo, .int .i64 f.ge, .int .i64 f.pl, .bool f.he] from hc7)
      clear HXR hx7 hc7
      go_wp2_with fail
      refine hget.mono ?_
      rintro e wg ⟨rfl, hxg⟩
      have hbg := heap_alloc_new wg (.cells #[.int .i64 f.id, .string f.obj, .int .i64 f.fr, .int .i64 f.to, .string f.mt, .bool f.mw, .string f.nt, .bool f.nw, .int .i64 f.en, .int .i64 f.sa, .int .i64 f.mo, .int .i64 f.ge, .int .i64 f.pl, .bool f.he] 30)
      have hxz : Ext wg (wg.alloc (.cells #[.int .i64 f.id, .string f.obj, .int .i64 f.fr, .int .i64 f.to, .string f.mt, .bool f.mw, .string f.nt, .bool f.nw, .int .i64 f.en, .int .i64 f.sa, .int .i64 f.mo, .int .i64 f.ge, .int .i64 f.pl, .bool f.he] 30)) := (Ext.refl wg).alloc _
      have hc7 := fun j u (hu : ([.int .i64 f.id, .string f.obj, .int .i64 f.fr, .int .i64 f.to, .string f.mt, .bool f.mw, .string f.nt, .bool f.nw, .int .i64 f.en, .int .i64 f.sa, .int .i64 f.mo, .int .i64 f.ge, .int .i64 f.pl, .bool f.he] : List Value)[j]? = some u) => hxg.cell (HC7.out j u hu)
      have HXG := Lib.hid (HXY.out.trans hxg)
      replace b0 := hxg.cell b0
      clear hxg hget c0 HC7 HXY
      go_upto_region 8 with (fail)
      generalize wg.alloc (.cells #[.int .i64 f.id, .string f.obj, .int .i64 f.fr, .int .i64 f.to, .string f.mt, .bool f.mw, .string f.nt, .bool f.nw, .int .i64 f.en, .int .i64 f.sa, .int .i64 f.mo, .int .i64 f.ge, .int .i64 f.pl, .bool f.he] 30) = wn at *
      generalize hca : wg.heap.size = cg at *
      clear hca
      have hcg : wn.rangeAt cg 0 [.int .i64 f.id, .string f.obj, .int .i64 f.fr, .int .i64 f.to, .string f.mt, .bool f.mw, .string f.nt, .bool f.nw, .int .i64 f.en, .int .i64 f.sa, .int .i64 f.mo, .int .i64 f.ge, .int .i64 f.pl, .bool f.he] := fun j u hu => by
        rw [Nat.zero_add, cell_of_row _ _ _ _ _ _ hbg]
        simpa using hu
      clear hbg
      have hxn := HXG.out.trans hxz
      replace hc7 := fun j u (hu : ([.int .i64 f.id, .string f.obj, .int .i64 f.fr, .int .i64 f.to, .string f.mt, .bool f.mw, .string f.nt, .bool f.nw, .int .i64 f.en, .int .i64 f.sa, .int .i64 f.mo, .int .i64 f.ge, .int .i64 f.pl, .bool f.he] : List Value)[j]? = some u) => hxz.cell (hc7 j u hu)
      have hr8n := fun j u (hu : (rowOf f (.slice A2 f.who.length c2))[j]? = some u) => hxn.cell (HX7.out.cell (hr8 j u hu))
      replace b0 := hxz.cell b0
      have f0' : wn.cell? ⟨ca, 0, none⟩ = some (.int .i64 f.id) := hc7 0 _ rfl
      have f1' : wn.cell? ⟨ca, 1, none⟩ = some (.string f.obj) := hc7 1 _ rfl
      have f2' : wn.cell? ⟨ca, 2, none⟩ = some (.int .i64 f.fr) := hc7 2 _ rfl
      have f3' : wn.cell? ⟨ca, 3, none⟩ = some (.int .i64 f.to) := hc7 3 _ rfl
      have f4' : wn.cell? ⟨ca, 4, none⟩ = some (.string f.mt) := hc7 4 _ rfl
      have f5' : wn.cell? ⟨ca, 5, none⟩ = some (.bool f.mw) := hc7 5 _ rfl
      have f6' : wn.cell? ⟨ca, 6, none⟩ = some (.string f.nt) := hc7 6 _ rfl
      have f7' : wn.cell? ⟨ca, 7, none⟩ = some (.bool f.nw) := hc7 7 _ rfl
      have f8' : wn.cell? ⟨ca, 8, none⟩ = some (.int .i64 f.en) := hc7 8 _ rfl
      have f9' : wn.cell? ⟨ca, 9, none⟩ = some (.int .i64 f.sa) := hc7 9 _ rfl
      have f10' : wn.cell? ⟨ca, 10, none⟩ = some (.int .i64 f.mo) := hc7 10 _ rfl
      have f11' : wn.cell? ⟨ca, 11, none⟩ = some (.int .i64 f.ge) := hc7 11 _ rfl
      have f12' : wn.cell? ⟨ca, 12, none⟩ = some (.int .i64 f.pl) := hc7 12 _ rfl
      have f13' : wn.cell? ⟨ca, 13, none⟩ = some (.bool f.he) := hc7 13 _ rfl
      have g0' : wn.cell? ⟨cg, 0, none⟩ = some (.int .i64 f.id) := hcg 0 _ rfl
      have g1' : wn.cell? ⟨cg, 1, none⟩ = some (.string f.obj) := hcg 1 _ rfl
      have g2' : wn.cell? ⟨cg, 2, none⟩ = some (.int .i64 f.fr) := hcg 2 _ rfl
      have g3' : wn.cell? ⟨cg, 3, none⟩ = some (.int .i64 f.to) := hcg 3 _ rfl
      have g4' : wn.cell? ⟨cg, 4, none⟩ = some (.string f.mt) := hcg 4 _ rfl
      have g5' : wn.cell? ⟨cg, 5, none⟩ = some (.bool f.mw) := hcg 5 _ rfl
      have g6' : wn.cell? ⟨cg, 6, none⟩ = some (.string f.nt) := hcg 6 _ rfl
      have g7' : wn.cell? ⟨cg, 7, none⟩ = some (.bool f.nw) := hcg 7 _ rfl
      have g8' : wn.cell? ⟨cg, 8, none⟩ = some (.int .i64 f.en) := hcg 8 _ rfl
      have g9' : wn.cell? ⟨cg, 9, none⟩ = some (.int .i64 f.sa) := hcg 9 _ rfl
      have g10' : wn.cell? ⟨cg, 10, none⟩ = some (.int .i64 f.mo) := hcg 10 _ rfl
      have g11' : wn.cell? ⟨cg, 11, none⟩ = some (.int .i64 f.ge) := hcg 11 _ rfl
      have g12' : wn.cell? ⟨cg, 12, none⟩ = some (.int .i64 f.pl) := hcg 12 _ rfl
      have g13' : wn.cell? ⟨cg, 13, none⟩ = some (.bool f.he) := hcg 13 _ rfl
      have r0' : wn.cell? ⟨g8, k * 16, none⟩ = some (.int .i64 f.id) := hr8n 0 _ rfl
      have r1' : wn.cell? ⟨g8, k * 16 + 1, none⟩ = some (.string f.obj) := hr8n 1 _ rfl
      have r2' : wn.cell? ⟨g8, k * 16 + 2, none⟩ = some (.int .i64 f.fr) := hr8n 2 _ rfl
      have r3' : wn.cell? ⟨g8, k * 16 + 3, none⟩ = some (.int .i64 f.to) := hr8n 3 _ rfl
      have r4' : wn.cell? ⟨g8, k * 16 + 4, none⟩ = some (.string f.mt) := hr8n 4 _ rfl
      have r5' : wn.cell? ⟨g8, k * 16 + 5, none⟩ = some (.bool f.mw) := hr8n 5 _ rfl
      have r6' : wn.cell? ⟨g8, k * 16 + 6, none⟩ = some (.string f.nt) := hr8n 6 _ rfl
      have r7' : wn.cell? ⟨g8, k * 16 + 7, none⟩ = some (.bool f.nw) := hr8n 7 _ rfl
      have r8' : wn.cell? ⟨g8, k * 16 + 8, none⟩ = some (.int .i64 f.en) := hr8n 8 _ rfl
      have r9' : wn.cell? ⟨g8, k * 16 + 9, none⟩ = some (.int .i64 f.sa) := hr8n 9 _ rfl
      have r10' : wn.cell? ⟨g8, k * 16 + 10, none⟩ = some (.int .i64 f.mo) := hr8n 10 _ rfl
      have r11' : wn.cell? ⟨g8, k * 16 + 11, none⟩ = some (.int .i64 f.ge) := hr8n 11 _ rfl
      have r12' : wn.cell? ⟨g8, k * 16 + 12, none⟩ = some (.int .i64 f.pl) := hr8n 12 _ rfl
      have r13' : wn.cell? ⟨g8, k * 16 + 13, none⟩ = some (.int .i64 f.stop) := hr8n 13 _ rfl
      have r14' : wn.cell? ⟨g8, k * 16 + 14, none⟩ = some (.int .i64 (heI f)) := hr8n 14 _ rfl
      have r15' : wn.cell? ⟨g8, k * 16 + 15, none⟩ = some (.slice A2 f.who.length c2) := hr8n 15 _ rfl
      have HRI := Lib.hid (show RowI wn.drew A2 f.who from fun j hj => by
        obtain ⟨g, e, h⟩ := hri j hj
        exact ⟨g, e, hxn.cell (HX7.out.cell h)⟩)
      have HT := Lib.hid (show TabR N wn.drew tb O t from HT0.out.ext ((HX7.out.trans hxn).trans (Ext.refl _).drew))
      have HXN := Lib.hid (show Ext w7 wn.drew from hxn.trans (Ext.refl _).drew)
      have hb := fun w => neq30 f.id f.obj f.fr f.to f.mt f.mw f.nt f.nw f.en f.sa f.mo f.ge f.pl f.he w
      have hg := guard30
      have FS := Lib.hid (fun w => same_calls f A2 f.who.length c2 w)
      unfold agF agR at FS
      clear hc7 hr8 hr8n hri hcg hxn hxz HXG HG
      go_region_held3 (fun w' => w'.cell? ⟨ca, 0, none⟩ = some (.int .i64 f.id) ∧ w'.cell? ⟨ca, 1, none⟩ = some (.string f.obj) ∧ w'.cell? ⟨ca, 2, none⟩ = some (.int .i64 f.fr) ∧ w'.cell? ⟨ca, 3, none⟩ = some (.int .i64 f.to) ∧ w'.cell? ⟨ca, 4, none⟩ = some (.string f.mt) ∧ w'.cell? ⟨ca, 5, none⟩ = some (.bool f.mw) ∧ w'.cell? ⟨ca, 6, none⟩ = some (.string f.nt) ∧ w'.cell? ⟨ca, 7, none⟩ = some (.bool f.nw) ∧ w'.cell? ⟨ca, 8, none⟩ = some (.int .i64 f.en) ∧ w'.cell? ⟨ca, 9, none⟩ = some (.int .i64 f.sa) ∧ w'.cell? ⟨ca, 10, none⟩ = some (.int .i64 f.mo) ∧ w'.cell? ⟨ca, 11, none⟩ = some (.int .i64 f.ge) ∧ w'.cell? ⟨ca, 12, none⟩ = some (.int .i64 f.pl) ∧ w'.cell? ⟨ca, 13, none⟩ = some (.bool f.he) ∧ w'.cell? ⟨cg, 0, none⟩ = some (.int .i64 f.id) ∧ w'.cell? ⟨cg, 1, none⟩ = some (.string f.obj) ∧ w'.cell? ⟨cg, 2, none⟩ = some (.int .i64 f.fr) ∧ w'.cell? ⟨cg, 3, none⟩ = some (.int .i64 f.to) ∧ w'.cell? ⟨cg, 4, none⟩ = some (.string f.mt) ∧ w'.cell? ⟨cg, 5, none⟩ = some (.bool f.mw) ∧ w'.cell? ⟨cg, 6, none⟩ = some (.string f.nt) ∧ w'.cell? ⟨cg, 7, none⟩ = some (.bool f.nw) ∧ w'.cell? ⟨cg, 8, none⟩ = some (.int .i64 f.en) ∧ w'.cell? ⟨cg, 9, none⟩ = some (.int .i64 f.sa) ∧ w'.cell? ⟨cg, 10, none⟩ = some (.int .i64 f.mo) ∧ w'.cell? ⟨cg, 11, none⟩ = some (.int .i64 f.ge) ∧ w'.cell? ⟨cg, 12, none⟩ = some (.int .i64 f.pl) ∧ w'.cell? ⟨cg, 13, none⟩ = some (.bool f.he) ∧ w'.cell? ⟨g8, k * 16, none⟩ = some (.int .i64 f.id) ∧ w'.cell? ⟨g8, k * 16 + 1, none⟩ = some (.string f.obj) ∧ w'.cell? ⟨g8, k * 16 + 2, none⟩ = some (.int .i64 f.fr) ∧ w'.cell? ⟨g8, k * 16 + 3, none⟩ = some (.int .i64 f.to) ∧ w'.cell? ⟨g8, k * 16 + 4, none⟩ = some (.string f.mt) ∧ w'.cell? ⟨g8, k * 16 + 5, none⟩ = some (.bool f.mw) ∧ w'.cell? ⟨g8, k * 16 + 6, none⟩ = some (.string f.nt) ∧ w'.cell? ⟨g8, k * 16 + 7, none⟩ = some (.bool f.nw) ∧ w'.cell? ⟨g8, k * 16 + 8, none⟩ = some (.int .i64 f.en) ∧ w'.cell? ⟨g8, k * 16 + 9, none⟩ = some (.int .i64 f.sa) ∧ w'.cell? ⟨g8, k * 16 + 10, none⟩ = some (.int .i64 f.mo) ∧ w'.cell? ⟨g8, k * 16 + 11, none⟩ = some (.int .i64 f.ge) ∧ w'.cell? ⟨g8, k * 16 + 12, none⟩ = some (.int .i64 f.pl) ∧ w'.cell? ⟨g8, k * 16 + 13, none⟩ = some (.int .i64 f.stop) ∧ w'.cell? ⟨g8, k * 16 + 14, none⟩ = some (.int .i64 (heI f)) ∧ w'.cell? ⟨g8, k * 16 + 15, none⟩ = some (.slice A2 f.who.length c2) ∧ w'.cell? ⟨xb, 0, none⟩ = some (.slice (some ⟨g8, 0, none⟩) t.l.length c8)) (exact ⟨f0', f1', f2', f3', f4', f5', f6', f7', f8', f9', f10', f11', f12', f13', g0', g1', g2', g3', g4', g5', g6', g7', g8', g9', g10', g11', g12', g13', r0', r1', r2', r3', r4', r5', r6', r7', r8', r9', r10', r11', r12', r13', r14', r15', b0⟩)
        (first
          | (go_at_call 22
             (with_reducible refine (FS.out _).mono ?_)
             rintro e wn ⟨rfl, hx⟩
             replace f0' := hx.cell f0'; replace f1' := hx.cell f1'; replace f2' := hx.cell f2'; replace f3' := hx.cell f3'; replace f4' := hx.cell f4'; replace f5' := hx.cell f5'; replace f6' := hx.cell f6'; replace f7' := hx.cell f7'; replace f8' := hx.cell f8'; replace f9' := hx.cell f9'; replace f10' := hx.cell f10'; replace f11' := hx.cell f11'; replace f12' := hx.cell f12'; replace f13' := hx.cell f13'; replace g0' := hx.cell g0'; replace g1' := hx.cell g1'; replace g2' := hx.cell g2'; replace g3' := hx.cell g3'; replace g4' := hx.cell g4'; replace g5' := hx.cell g5'; replace g6' := hx.cell g6'; replace g7' := hx.cell g7'; replace g8' := hx.cell g8'; replace g9' := hx.cell g9'; replace g10' := hx.cell g10'; replace g11' := hx.cell g11'; replace g12' := hx.cell g12'; replace g13' := hx.cell g13'; replace r0' := hx.cell r0'; replace r1' := hx.cell r1'; replace r2' := hx.cell r2'; replace r3' := hx.cell r3'; replace r4' := hx.cell r4'; replace r5' := hx.cell r5'; replace r6' := hx.cell r6'; replace r7' := hx.cell r7'; replace r8' := hx.cell r8'; replace r9' := hx.cell r9'; replace r10' := hx.cell r10'; replace r11' := hx.cell r11'; replace r12' := hx.cell r12'; replace r13' := hx.cell r13'; replace r14' := hx.cell r14'; replace r15' := hx.cell r15'; replace b0 := hx.cell b0; replace HXN := Lib.hid (HXN.out.trans hx); replace HT := Lib.hid (HT.out.ext hx); replace HRI := Lib.hid (ri_ext HRI.out hx); clear hx)
          | (go_at_call 23
             (with_reducible refine (who_calls N tb O t f.id _ HT.out HSM.out).mono ?_)
             rintro e wn ⟨v, rfl, rb, hx⟩
             rw [HW.out] at rb
             obtain ⟨_, Ab, cb', rfl, _, hrib⟩ := row_ints rb
             have HRB := Lib.hid hrib
             replace f0' := hx.cell f0'; replace f1' := hx.cell f1'; replace f2' := hx.cell f2'; replace f3' := hx.cell f3'; replace f4' := hx.cell f4'; replace f5' := hx.cell f5'; replace f6' := hx.cell f6'; replace f7' := hx.cell f7'; replace f8' := hx.cell f8'; replace f9' := hx.cell f9'; replace f10' := hx.cell f10'; replace f11' := hx.cell f11'; replace f12' := hx.cell f12'; replace f13' := hx.cell f13'; replace g0' := hx.cell g0'; replace g1' := hx.cell g1'; replace g2' := hx.cell g2'; replace g3' := hx.cell g3'; replace g4' := hx.cell g4'; replace g5' := hx.cell g5'; replace g6' := hx.cell g6'; replace g7' := hx.cell g7'; replace g8' := hx.cell g8'; replace g9' := hx.cell g9'; replace g10' := hx.cell g10'; replace g11' := hx.cell g11'; replace g12' := hx.cell g12'; replace g13' := hx.cell g13'; replace r0' := hx.cell r0'; replace r1' := hx.cell r1'; replace r2' := hx.cell r2'; replace r3' := hx.cell r3'; replace r4' := hx.cell r4'; replace r5' := hx.cell r5'; replace r6' := hx.cell r6'; replace r7' := hx.cell r7'; replace r8' := hx.cell r8'; replace r9' := hx.cell r9'; replace r10' := hx.cell r10'; replace r11' := hx.cell r11'; replace r12' := hx.cell r12'; replace r13' := hx.cell r13'; replace r14' := hx.cell r14'; replace r15' := hx.cell r15'; replace b0 := hx.cell b0; replace HXN := Lib.hid (HXN.out.trans hx); replace HT := Lib.hid (HT.out.ext hx); replace HRI := Lib.hid (ri_ext HRI.out hx); clear hx rb hrib)
          | (go_at_call 15
             (with_reducible refine (ints_calls Ab A2 cb' c2 f.who f.who _ HRB.out HRI.out (by omega)).mono ?_)
             rintro e wn ⟨rfl, hx⟩
             replace f0' := hx.cell f0'; replace f1' := hx.cell f1'; replace f2' := hx.cell f2'; replace f3' := hx.cell f3'; replace f4' := hx.cell f4'; replace f5' := hx.cell f5'; replace f6' := hx.cell f6'; replace f7' := hx.cell f7'; replace f8' := hx.cell f8'; replace f9' := hx.cell f9'; replace f10' := hx.cell f10'; replace f11' := hx.cell f11'; replace f12' := hx.cell f12'; replace f13' := hx.cell f13'; replace g0' := hx.cell g0'; replace g1' := hx.cell g1'; replace g2' := hx.cell g2'; replace g3' := hx.cell g3'; replace g4' := hx.cell g4'; replace g5' := hx.cell g5'; replace g6' := hx.cell g6'; replace g7' := hx.cell g7'; replace g8' := hx.cell g8'; replace g9' := hx.cell g9'; replace g10' := hx.cell g10'; replace g11' := hx.cell g11'; replace g12' := hx.cell g12'; replace g13' := hx.cell g13'; replace r0' := hx.cell r0'; replace r1' := hx.cell r1'; replace r2' := hx.cell r2'; replace r3' := hx.cell r3'; replace r4' := hx.cell r4'; replace r5' := hx.cell r5'; replace r6' := hx.cell r6'; replace r7' := hx.cell r7'; replace r8' := hx.cell r8'; replace r9' := hx.cell r9'; replace r10' := hx.cell r10'; replace r11' := hx.cell r11'; replace r12' := hx.cell r12'; replace r13' := hx.cell r13'; replace r14' := hx.cell r14'; replace r15' := hx.cell r15'; replace b0 := hx.cell b0; replace HXN := Lib.hid (HXN.out.trans hx); replace HT := Lib.hid (HT.out.ext hx); replace HRI := Lib.hid (ri_ext HRI.out hx); clear hx))
      all_goals
        have hxe := HXN.out
        go_wp2
        go_roundw
        case rel => exact ⟨k + 1, by omega, by go_num, hxe⟩
        case measure => simp [intOf] <;> omega
    · obtain rfl : k = t.l.length := by omega
      have HXF := Lib.hid (HX7.out.trans hx)
      clear hx
      go_wp2
      go_ret
      exact ⟨rfl, HXF.out⟩
end Go.Proofs.Ytaanbgagdanalaa
