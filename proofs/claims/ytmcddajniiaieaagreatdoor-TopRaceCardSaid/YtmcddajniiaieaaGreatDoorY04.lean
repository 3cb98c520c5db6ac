/- TopRace: a part of the proof that it holds for every input and every schedule. -/
import Derived.Test.YtmcddajniiaieaaGreatDoorY03
import Derived.Test.YtmcddajniiaieaaGreatDoorY01
import Derived.Laws.IdiomCopy
import Derived.Laws.Cells
import Derived.Conc.AppendEvents3
import Derived.Great.BuildSlice
import Derived.Conc.AppendWalk
import Derived.Shelf.Abstract
import Derived.Laws.AppendOwn
set_option linter.unusedVariables false
set_option linter.unusedSimpArgs false
namespace Go.Proofs.YtmcddajniiaieaaGreatDoor
open Go Go.Conc Go.ConcM Go.Proofs.Tryz
variable {Γ:Rc} {k:List Item} {e:En} {V V':View} {b:Frame} {cs:List Frame} {P:Program} {main aw sv:Bool} {Stop:View->Goroutine->World->Prop} {ops:Array Oper} {i n c r it:Nat} {S:Act->List Item->Frame} {B:Nat->Prop} {A:Addr->Prop} {w' w₁:World} {ad:Addr} {y z:Operand} {t yt kt et:TypeId} {m ws:Int} {xs news:List Value} {es:Array MapEntry} {X:Tag->View->Goroutine->World->Prop} {wd:Wd}
section
variable {k:Nat} {f:Fz} {w:World} {a:Act}
theorem aQ7{n:Nat}(hk:b.kind≠.early)(qY:b.fn=100)(hV:V.deaf=1)(gU:k<Γ.ns)(nl:dB Γ k V)(K:kF Γ (Next Γ e f) V b cs w)(ha:UcA Γ k n a):At Γ ⟨e,f,.lk k (.sA n)⟩ V (ucG b a cs) w:=
 At.aax (UlX Γ k e f V b cs) (fun t V' g w h=>aGw hk qY hV gU nl t V' g w h) ⟨rfl,K,.inl ⟨n,a,rfl,ha,rfl⟩⟩
theorem aoX{q:Tag->Prop}{wd:Wd}(hl:wd.L=false)(bG:wd.n<32)(hk:b.kind≠.early)(hs:a.tmps.size=43)(hd:a.defers=[])(h0:a.eval (.tmp 0)=.pointer (some (eC Γ k)))(h1:a.eval (.tmp 1)=.int .i32 (wz wd))
  (K:∀a,a.tmps.size=43->a.defers=[]->a.eval (.tmp 0)=.pointer (some (eC Γ k))->a.eval (.tmp 1)=.int .i32 (wz wd)->a.eval (.tmp 12)=.bool (!wd.S)->bf (At Γ) q V (G (b.at a (.code CN::[])) cs) w):
  bf (At Γ) q V (G (b.at a (.code ny::[])) cs) w:=by
 refine bg aGv (bg aGr (aF aGn (rl [0,1,2,3] rfl) (bp Qg hk hs (af Qg.o h1) fun a ae h5=>t2 ae hs hd h0 h1 fun hs hd h0 h1=>?_)));refine bp Qh hk hs (gQ Qh.o h5 rfl) fun a ae h6=>t2 ae hs hd h0 h1 fun hs hd h0 h1=>?_;refine bp Qi hk hs (gP Qi.o h6 rfl) fun a ae h7=>t2 ae hs hd h0 h1 fun hs hd h0 h1=>?_;refine bp Qj hk hs (eH Qj.o h7 rfl) fun a ae h8=>t2 ae hs hd h0 h1 fun hs hd h0 h1=>?_;rw [anp wd bG hl]at h8;refine al (eo aGq h8 (eZ aGp (bg aGu (aF aGs (rl [0,1,2] rfl) (bp Qk hk hs (af Qk.o h1) fun a ae aM=>t2 ae hs hd h0 h1 fun hs hd h0 h1=>?_)))));refine bp Ql hk hs (gP Ql.o aM rfl) fun a ae aH=>t2 ae hs hd h0 h1 fun hs hd h0 h1=>?_;refine bp Qm hk hs (eH Qm.o aH rfl) fun a ae aJ=>t2 ae hs hd h0 h1 fun hs hd h0 h1=>?_;rw [Oi wd bG]at aJ;exact al (K a hs hd h0 h1 aJ)
theorem ab1{q:Tag->Prop}{wd:Wd}(hl:wd.L=false)(hS:wd.S=false)(bG:wd.n<32)(hk:b.kind≠.early)(hs:a.tmps.size=43)(hd:a.defers=[])(h0:a.eval (.tmp 0)=.pointer (some (eC Γ k)))(h1:a.eval (.tmp 1)=.int .i32 (wz wd))
  (K:∀a,a.tmps.size=43->a.defers=[]->a.eval (.tmp 0)=.pointer (some (eC Γ k))->a.eval (.tmp 4)=.int .i32 (wz wd)->bf (At Γ) q V (G (b.at a (.code gE::.inLoop gE::.inBlock 0::[])) cs) w):
  bf (At Γ) q V (G (b.at a (.code ny::[])) cs) w:=by
 refine aoX hl bG hk hs hd h0 h1 fun a hs hd h0 h1 aJ=>?_;rw [hS]at aJ;refine fH aoT aJ (bg aGt (aF ayA (rl [0,1] rfl) (bp Qn hk hs (af Qn.o h1) fun a ae aK=>t1 ae hs hd h0 fun hs hd h0=>?_)));refine bp Qo hk hs (ak Qo.o aK) fun a ae h4=>t1 ae hs hd h0 fun hs hd h0=>?_;exact al (tQ ayO (anr ayN (K a hs hd h0 h4)))
theorem aGx{wd:Wd}(hl:wd.L=false)(hS:wd.S=false)(hz:wd.n=0\/wd.W=true)(bG:wd.n<32)(hk:b.kind≠.early)(hs:a.tmps.size=43)(hd:a.defers=[])(h0:a.eval (.tmp 0)=.pointer (some (eC Γ k)))(h1:a.eval (.tmp 1)=.int .i32 (wz wd))
  (K:kF Γ (Next Γ e f) V b cs w):bf (At Γ) (Next Γ e f) V (G (b.at a (.code ny::[])) cs) w:=
 ab1 hl hS bG hk hs hd h0 h1 fun a hs hd h0 h4=>aoV bG (hz.imp id fun h=>.inr (.inl h)) hk hs hd h0 h4 (fun _ _ _ _ h=>h) K
theorem aQ8{n:Nat}(hn:n≠0)(bG:n<32)(qY:b.fn=100)(hV:V.deaf=1)(gU:k<Γ.ns)(nl:dB Γ k V)(hk:b.kind≠.early)(hs:a.tmps.size=43)(hd:a.defers=[])(h0:a.eval (.tmp 0)=.pointer (some (eC Γ k)))(h1:a.eval (.tmp 1)=.int .i32 (wz ⟨false,false,false,n⟩))
  (K:kF Γ (Next Γ e f) V b cs w):bf (At Γ) (fun t=>t=⟨e,f,.lk k (.sA n)⟩) V (G (b.at a (.code ny::[])) cs) w:=
 ab1 rfl rfl bG hk hs hd h0 h1 fun a hs hd h0 h4=>aBq hn bG hk hs hd h0 h4 fun a w₁ hr ha=>aQ7 hk qY hV gU nl (K.rely hr) ha
theorem ayR{wd:Wd}(hl:wd.L=false)(hS:wd.S=true)(bG:wd.n<32)(hV:V.deaf=1)(gU:k<Γ.ns)(nl:dB Γ k V)(hk:b.kind≠.early)(hs:a.tmps.size=43)(hd:a.defers=[])(h0:a.eval (.tmp 0)=.pointer (some (eC Γ k)))(h1:a.eval (.tmp 1)=.int .i32 (wz wd))
  (K:kF Γ (Next Γ e f) V b cs w):bf (At Γ) (fun t=>t=⟨e,f,.lk k (.sB true)⟩) V (G (b.at a (.code ny::[])) cs) w:=by
 refine aoX hl bG hk hs hd h0 h1 fun a hs hd h0 h1 aJ=>?_;rw [hS]at aJ;refine eo aoT aJ (aF ayP (rl [0,1,2,3] rfl) (bp QE hk hs (af QE.o h0) fun a ae im=>t0 ae hs hd fun hs hd=>?_));refine bp QF hk hs (bE QF.o im) fun a ae fQ=>t0 ae hs hd fun hs hd=>?_;refine bp QG hk hs (aB QG.o fQ underlying56 rfl sizeOf54 (by decide) rfl) fun a ae iT=>t0 ae hs hd fun hs hd=>?_
 exact di _ rfl fun w₁ hr=>At.fold (aaA hV gU nl vg.a vg.g hk vg.d (by rw [hs];decide) vg.o (by simp [iT];rfl) fun a au an _ _=>al (rX ((K.rely hr) a [] (an.trans hd))))
end
section
variable {w:World} {a:Act} {d:Nat} {rest:List Nat} {o:Oper} {fn:Func}
theorem QH{c:Frame}{todo:List Item}(hn:b.kind=.normal)(hd:a.defers=[])(hf:P.funcs[b.fn]? =some fn)(hr:fn.results=#[])(K:Loc P main Stop V (G (c.finish (.tuple #[])) cs) w):
  Loc P main Stop V (G {b.at a todo with mode:=.returning} (c::cs)) w:=Loc.ctl rfl (fun w₁=>stepG_leave hn hd hf (results_none hr _ P w₁) (events_results_none hr _ _)) K
theorem jg{aQ9:Frame}{aoY:Act}{todo:List Item}(hn:b.kind=.normal)(hd:a.defers=[])(hf:P.funcs[b.fn]? =some fn)(hr:fn.results=#[])(ho:ops[i]? =some o)(hdd:o.dst=some d)
  (K:∀a',a'.tmps.size=aoY.tmps.size->a'.defers=aoY.defers->(∀j,d≠j->a'.eval (.tmp j)=aoY.eval (.tmp j))->Loc P main Stop V (G (aQ9.at a' (.inRegion ops rest::k)) cs) w):
  Loc P main Stop V (G {b.at a todo with mode:=.returning} (aQ9.at aoY (.inRegion ops (i::rest)::k)::cs)) w:=by
 refine QH hn hd hf hr ?_;rw [Frame.finish_at,ho];have u:=bj aoY o.dst (.tuple #[]);exact K _ u.size u.defers (fun j hj=>u.ne j (by rw [hdd];intro h;exact hj (Option.some.inj h)))
theorem aoZ{c:Frame}{todo:List Item}(hn:b.kind=.deferred)(hd:a.defers=[])(hf:P.funcs[b.fn]? =some fn)(hr:fn.results=#[])(hc:c.mode=.returning)(hs:c.todo=c.todo)(K:Loc P main Stop V (G c cs) w):
  Loc P main Stop V (G {b.at a todo with mode:=.returning} (c::cs)) w:=Loc.ctl rfl (fun w₁=>stepG_leave_deferred hn hd hf (results_none hr _ P w₁) (events_results_none hr _ _) hc) K
theorem lS{f:FuncId}{xs:Array Operand}{gY:Array TypeId}{c:Code}(ho:ops[i]? =some o)(hw:Region.wanted o (yielded ops a.tmps)=true)(hk:b.kind≠.early)(aE:o.op=.call {callee:=.value (.func f),args:=xs,argTypes:=gY})
  (hf:P.funcs[f]? =some fn)(jq:(fn.name== "runtime.NumGoroutine")=false)(hb:fn.body=some c)
  (K:Loc P main Stop V (G ((base f).at {tmps:=xs.map a.eval++Array.replicate (fn.ntmps-(xs.map a.eval).size) undef,defers:=[]} [.code c]) (b.at a (.inRegion ops (i::rest)::k)::cs)) w):
  Loc P main Stop V (G (b.at a (.inRegion ops (i::rest)::k)) cs) w:=by
 have h1:¬fn.name= "runtime.NumGoroutine" :=by simpa using jq
 refine axO (f:=f) (args:=xs.map a.eval) ho hw hk (fun w₁ _=>?_) (by rw [enter_at _ hf hb];exact K)
 have e1:=execOp_call_func (a:=a) aE;constructor
 ·rw [e1];simp [callFunc,hf,h1,hb]
 ·intro e he;rw [e1]at he;simp [callFunc,hf,h1,hb]at he
end
section
variable {k:Nat} {f:Fz} {w:World} {a:Act}
theorem dB.le{V':View}(n:dB Γ k V)(h:V'.Le V):dB Γ k V':=⟨fun x=>n.own (h.own _ x),fun a ha hb=>by
 rcases ha with ha|ha
 ·rcases h.ro a ha with x|x|x
  ·exact n.cell a (.inl x) hb
  ·exact n.cell a (.inr x) hb
  ·exact absurd (hb▸x) n.own
 ·rcases h.wc a ha with x|x
  ·exact n.cell a (.inr x) hb
  ·exact absurd (hb▸x) n.own⟩
theorem dB.hears(n:dB Γ k V)(d:Nat):dB Γ k (V.hears d):=⟨n.own,n.cell⟩
theorem pa(V:View)(d d':Nat):(V.hears d).hears d'=V.hears d':=rfl
theorem s0{d:Nat}(h:V.deaf=d):V.hears d=V:=by subst h;rfl
theorem aGy{ops:Array Oper}{i d:Nat}{rest:List Nat}{o:Oper}{kk:List Item}{x:Operand}{Stop:View->Goroutine->World->Prop}{c:Array Value}{ty:TypeId}{fr:Nat×Nat}(hB:w.heap[Γ.src k]? =some (.cells c ty fr))(fO:2<c.size)
  (ho:ops[i]? =some o)(hw:Region.wanted o (yielded ops a.tmps)=true)(hk:b.kind≠.early)(hq:(prog.funcs[b.fn]?).any (·.norace)=true)(hd:o.dst=some d)(aE:o.op=.load 21 x)(hx:a.eval x=.pointer (some (eC Γ k)))
  (K:∀a',a'.tmps.size=a.tmps.size->a'.defers=a.defers->(∀j,d≠j->a'.eval (.tmp j)=a.eval (.tmp j))->Loc prog false Stop V (G (b.at a' (.inRegion ops rest::kk)) cs) w):
  Loc prog false Stop V (G (b.at a (.inRegion ops (i::rest)::kk)) cs) w:=by
 refine Loc.step rfl fun w₁ hr=>?_;obtain⟨c',h1,h2⟩:=hr.kind _ _ _ _ hB;have aU:2<c'.size:=by omega
 have hc:w₁.cell? (eC Γ k)=some c'[2]:=by simp [World.cell?,eC,h1,aU]
 have e1:(Instr.loadAt 21 (.pointer (some (eC Γ k)))).run prog w₁=.ok c'[2] w₁:=by go_simp
 have e2:(Instr.loadAt 21 (.pointer (some (eC Γ k)))).events prog w₁ #[]=#[⟨.cell (eC Γ k),false,false⟩]:=by simp [go_sem,hc]
 have cr:(execOp a.eval o).run prog w₁=.ok (.value c'[2]) w₁:=by simp [execOp,aE,hx,e1]
 have bF:=stepG_value (P:=prog) (main:=false) (k:=kk) (cs:=cs) (rest:=rest) ho hw hk cr;rw [tR (ad:=eC Γ k) hq (by simp [execOp,aE,hx,e1,e2])]at bF
 have u:=bj a o.dst c'[2];exact⟨_,_,_,V,bF,aY V w₁,(K _ u.size u.defers (fun j hj=>u.ne j (by rw [hd];intro h;exact hj (Option.some.inj h)))).rely hr⟩
theorem als:(prog.funcs[88]?).any (·.norace)=true:=by rw [func88];rfl
theorem ab2{q:Tag->Prop}(hk:b.kind≠.early)(hV:V.deaf=1)(hs:a.tmps.size=21)(hd:a.defers=[])(K:kF Γ q (V.hears 0) b cs w):bf (At Γ) q V (G (b.at a (.code xG::[])) cs) w:=by
 refine aF aE3 (rl [0] rfl) (mY .enable 0 (.inr ⟨rfl,by rw [hV]⟩) zi.a zi.f hk zi.d zi.o func38 Fx Fy FA FB fun a au an _=>?_)
 exact al (rX (K a [] (an.trans hd)))
theorem Xj{q:Tag->Prop}(hk:b.kind≠.early)(hV:V.deaf=1)(hs:a.tmps.size=21)(hd:a.defers=[])(K:kF Γ q (V.hears 0) b cs w):
  kF Γ q V (base 100) (b.at a (.inRegion F3 (2::[])::.code xG::[])::cs) w:=fun a' todo aV=>
 jg rfl aV func100 rfl il.a il.d fun a au an ah=>al (ab2 hk hV (au.trans hs) (an.trans hd) K)
theorem aGz(hk:b.kind≠.early)(hV:V.deaf=1)(gU:k<Γ.ns)(nl:dB Γ k V)(hs:a.tmps.size=21)(hd:a.defers=[])(h0:a.eval (.tmp 0)=.pointer (some (eC Γ k)))(K:kF Γ (Next Γ e f) (V.hears 0) b cs w):
  bf (At Γ) (fun t=>t=⟨e,f,.lk k .add⟩) V (G (b.at a (.code ON::[])) cs) w:=by
 refine bg aQT (aF aQS (rl [0,1,2,3,4] rfl) (bp abj hk hs (af abj.o h0) fun a ae aH=>t1 ae hs hd h0 fun hs hd h0=>?_));refine bp abk hk hs (bE abk.o aH) fun a ae aJ=>t1 ae hs hd h0 fun hs hd h0=>?_;refine bp abl hk hs (aB abl.o aJ underlying56 rfl sizeOf21 (by decide) rfl) fun a ae aK=>t1 ae hs hd h0 fun hs hd h0=>?_
 refine di _ rfl fun fU gb=>At.fold ?_;replace K:=K.rely (gb.hears 0);refine anu trivial (by simp) hV gU nl zh.a zh.f hk zh.d (by rw [hs];decide) zh.o aK rfl fun wd sm ht=>?_
 have hL:=ht.hold rfl;have bG:=ht.n;have go:∀q:Tag->Prop,(∀a,a.tmps.size=21->a.defers=[]->a.eval (.tmp 0)=.pointer (some (eC Γ k))->a.eval (.tmp 2)=.int .i32 (wz ⟨false,wd.W,wd.S,wd.n⟩)->a.eval (.tmp 16)=.bool (wd.W||wd.S||wd.n !=0)->bf (At Γ) q V (G (b.at a (.code CC::.code xG::[])) cs) fU)->
   mZ (At Γ) q V b a Cz [4] (.code CB::[]) cs fU 14 (.int .i32 (wz ⟨false,wd.W,wd.S,wd.n⟩)):=by
  intro q K2 a au an ah aW;replace hs:=au.trans hs;replace hd:=an.trans hd;replace h0:=(ah 0 (by decide)).trans h0
  refine bp abm hk hs (ak abm.o aW) fun a ae h2=>t1 ae hs hd h0 fun hs hd h0=>?_;refine al (bg aE4 (bg aE2 (aF aE0 (rl [0,1] rfl) (bp abn hk hs (af abn.o h2) fun a ae eS=>t2 ae hs hd h0 h2 fun hs hd h0 h2=>?_))));refine bp abo hk hs (eI abo.o eS rfl) fun a ae fP=>t2 ae hs hd h0 h2 fun hs hd h0 h2=>?_;rw [axU ⟨false,wd.W,wd.S,wd.n⟩ bG]at fP;exact al (K2 a hs hd h0 h2 (by rw [fP];simp))
 by_cases hS:wd.S=true
 ·refine⟨_,_,_,by rw [Vv wd bG hL,hS],.tG hS,?_⟩
  have:=go (rY Γ e f k (.on fun p=>p=.sB true)) fun a hs hd h0 h2 fP=>?_
  ·rw [hS]at this;exact this
  ·rw [hS]at fP h2;refine fH Hx (by rw [fP];simp) (aF Wq aoi (bp rb hk hs (af rb.o h0) fun a ae bT=>t2 ae hs hd h0 h2 fun hs hd h0 h2=>?_))
   refine bp re hk hs (af re.o h2) fun a ae jL=>t3 ae hs hd h0 h2 bT fun hs hd h0 h2 bT=>?_;refine lS il.a il.f hk il.o func100 (by kernel_rfl) IY (Loc.mono ?_ (ayR (wd:=⟨false,wd.W,true,wd.n⟩) rfl rfl bG hV gU nl (by decide) (by simp [show Tryz.f100.ntmps=43 from rfl]) rfl (by simpa [Act.eval]using bT) (by simpa [Act.eval]using jL) (Xj hk hV hs hd K)))
   rintro V g w ⟨t,rfl,h⟩;exact⟨_,⟨_,rfl,rfl⟩,h⟩
 ·have eE:wd.S=false:=by simpa using hS
  by_cases hz:wd.n=0\/wd.W=true
  ·refine⟨_,_,_,by rw [Vv wd bG hL,eE],.GZ eE hz,?_⟩
   have:=go (Next Γ e f) fun a hs hd h0 h2 fP=>?_
   ·rw [eE]at this;exact this
   ·rw [eE]at fP h2;by_cases hnz:(wd.W||false||wd.n !=0)=true
    ·refine fH Hx (by rw [fP,hnz]) (aF Wq aoi (bp rb hk hs (af rb.o h0) fun a ae bT=>t2 ae hs hd h0 h2 fun hs hd h0 h2=>?_))
     refine bp re hk hs (af re.o h2) fun a ae jL=>t3 ae hs hd h0 h2 bT fun hs hd h0 h2 bT=>?_;exact lS il.a il.f hk il.o func100 (by kernel_rfl) IY (aGx (wd:=⟨false,wd.W,false,wd.n⟩) rfl rfl hz bG (by decide) (by simp [show Tryz.f100.ntmps=43 from rfl]) rfl (by simpa [Act.eval]using bT) (by simpa [Act.eval]using jL) (Xj hk hV hs hd K))
    ·exact eo Hx (by rw [fP];simpa using hnz) (eZ aE1 (ab2 hk hV hs hd K))
  ·have hz':wd.n≠0/\wd.W=false:=⟨fun h=>hz (.inl h),by simpa using fun h=>hz (.inr h)⟩
   refine⟨_,_,_,by rw [Vv wd bG hL,eE,hz'.2],.tF eE hz',?_⟩
   have:=go (rY Γ e f k (.on fun p=>p=.sA wd.n)) fun a hs hd h0 h2 fP=>?_
   ·rw [eE,hz'.2]at this;exact this
   ·rw [eE,hz'.2]at fP h2;refine fH Hx (by rw [fP];simp [hz'.1]) (aF Wq aoi (bp rb hk hs (af rb.o h0) fun a ae bT=>t1 ae hs hd h2 fun hs hd h2=>?_))
    refine bp re hk hs (af re.o h2) fun a ae jL=>t1 ae hs hd bT fun hs hd bT=>?_;refine lS il.a il.f hk il.o func100 (by kernel_rfl) IY (Loc.mono ?_ (aQ8 hz'.1 bG rfl hV gU nl (by decide) (by simp [show Tryz.f100.ntmps=43 from rfl]) rfl (by simpa [Act.eval]using bT) (by simpa [Act.eval]using jL) (Xj hk hV hs hd K)))
    rintro V g w ⟨t,rfl,h⟩;exact⟨_,⟨_,rfl,rfl⟩,h⟩
end
def jO(b:Frame)(l:Nat)(a:Act)(k:List Item):Frame:={fn:=b.fn,tmps:=a.tmps,todo:=k,defers:=a.defers,mode:=.run,kind:=b.kind,roundOf:=some l}
structure fg(P:Program)(main:Bool)(S:Act->List Item->Frame):Prop where
 skip:∀a k cs w,stepG P main (G (S a (.code .skip::k)) cs) w=.go (G (S a k) cs) w #[]
 inBlock:∀id a k cs w,stepG P main (G (S a (.inBlock id::k)) cs) w=.go (G (S a k) cs) w #[]
 seq:∀x y a k cs w,stepG P main (G (S a (.code (.seq x y)::k)) cs) w=.go (G (S a (.code x::.code y::k)) cs) w #[]
 cond:∀c x y t (a:Act) k cs w,a.eval c=.bool t->stepG P main (G (S a (.code (.cond c x y)::k)) cs) w=.go (G (S a (.code (if t then x else y)::k)) cs) w #[]
 block:∀id c a k cs w,stepG P main (G (S a (.code (.block id c)::k)) cs) w=.go (G (S a (.code c::.inBlock id::k)) cs) w #[]
 loop:∀c a k cs w,stepG P main (G (S a (.code (.loop c)::k)) cs) w=.go (G (S a (.code c::.inLoop c::k)) cs) w #[]
 inLoop:∀c a k cs w,stepG P main (G (S a (.inLoop c::k)) cs) w=.go (G (S a (.code c::.inLoop c::k)) cs) w #[]
 exit:∀id a k k' cs w,exitTo id k=some k'->stepG P main (G (S a (.code (.exit id)::k)) cs) w=.go (G (S a k') cs) w #[]
 region:∀id (ops:Array Oper) a k cs w,stepG P main (G (S a (.code (.region id ops false)::k)) cs) w=.go (G (S a (.inRegion ops (List.range ops.size)::k)) cs) w #[]
 draw:∀id (ops:Array Oper) a k cs w,∃t,stepG P main (G (S a (.code (.region id ops true)::k)) cs) w=.go (G (S a (.inRegion ops (Region.schedule (P.follows .mixedOrders) ops t)::k)) cs) {w with drawn:=w.drawn+1} #[]
 aGA:∀(ops:Array Oper) a k cs w,stepG P main (G (S a (.inRegion ops []::k)) cs) w=.go (G (S a k) cs) w #[]
 unwanted:∀(ops:Array Oper) i rest o (a:Act) k cs w,ops[i]? =some o->Region.wanted o (yielded ops a.tmps)=false->stepG P main (G (S a (.inRegion ops (i::rest)::k)) cs) w=.go (G (S (a.put o.dst undef) (.inRegion ops rest::k)) cs) w #[]
 value:∀(ops:Array Oper) i rest o v (a:Act) k cs w w',ops[i]? =some o->Region.wanted o (yielded ops a.tmps)=true->(execOp a.eval o).run P w=.ok (.value v) w'->
  ∃es,stepG P main (G (S a (.inRegion ops (i::rest)::k)) cs) w=.go (G (S (a.put o.dst v) (.inRegion ops rest::k)) cs) w' es/\∀e∈es,e∈(execOp a.eval o).events P w #[]
 none:∀(ops:Array Oper) i rest o (a:Act) k cs w w',ops[i]? =some o->Region.wanted o (yielded ops a.tmps)=true->(execOp a.eval o).run P w=.ok .skip w'->
  ∃es,stepG P main (G (S a (.inRegion ops (i::rest)::k)) cs) w=.go (G (S (a.put o.dst undef) (.inRegion ops rest::k)) cs) w' es/\∀e∈es,e∈(execOp a.eval o).events P w #[]
 enter:∀(ops:Array Oper) i rest o f args (a:Act) k cs w w',ops[i]? =some o->Region.wanted o (yielded ops a.tmps)=true->(execOp a.eval o).run P w=.ok (.enter f args) w'->
  ∃es,stepG P main (G (S a (.inRegion ops (i::rest)::k)) cs) w=.go (G (Frame.enter P f args .normal) (S a (.inRegion ops (i::rest)::k)::cs)) w' es/\∀e∈es,e∈(execOp a.eval o).events P w #[]
 finish:∀(ops:Array Oper) i rest (a:Act) k v,(S a (.inRegion ops (i::rest)::k)).finish v=S (a.put ((ops[i]?).bind (·.dst)) v) (.inRegion ops rest::k)
theorem bh(hk:b.kind≠.early):fg P main b.at where
 skip _ _ _ _:=stepG_skip
 inBlock _ _ _ _ _:=stepG_inBlock
 seq _ _ _ _ _ _:=stepG_seq
 cond _ _ _ _ _ _ _ _ h:=stepG_cond h
 block _ _ _ _ _ _:=stepG_block
 loop _ _ _ _ _:=stepG_loop
 inLoop _ _ _ _ _:=stepG_inLoop
 exit _ _ _ _ _ _ h:=stepG_exit h
 region _ _ _ _ _ _:=stepG_region
 draw _ _ _ _ _ _:=⟨_,stepG_region_draw⟩
 aGA _ _ _ _ _:=stepG_region_end
 unwanted _ _ _ _ _ _ _ _ ho hw:=stepG_unwanted ho hw
 value _ _ _ _ _ _ _ _ _ _ ho hw hr:=⟨_,stepG_value ho hw hk hr,fun _=>mem_listed⟩
 none _ _ _ _ _ _ _ _ _ ho hw hr:=⟨_,stepG_none ho hw hk hr,fun _=>mem_listed⟩
 enter _ _ _ _ _ _ _ _ _ _ _ ho hw hr:=⟨_,stepG_enter ho hw hk hr,fun _=>mem_listed⟩
 finish _ _ _ _ _ _:=Frame.finish_at ..
theorem QI(l:Nat)(a:Act)(k:List Item):(jO b l a k).eval=a.eval:=by
 funext x;cases x<;>rfl
theorem CR{l:Nat}{ops:Array Oper}{i:Nat}{rest:List Nat}{o:Oper}{a:Act}{k:List Item}{cs:List Frame}{w:World}(ho:ops[i]? =some o)(hw:Region.wanted o (yielded ops a.tmps)=true)(hd:∀c,o.op≠.defer c):
  stepG P main (G (jO b l a (.inRegion ops (i::rest)::k)) cs) w=stepG.apply P true (jO b l a (.inRegion ops (i::rest)::k)) cs none (execOp a.eval o) w:=by
 have he:=QI (b:=b) l a (.inRegion ops (i::rest)::k);simp only [jO]at he;simp only [G,stepG,stepG.exec,stepG.oper,Frame.oper?,jO,ho,Option.map_some,Option.getD_some,hw,if_true,he];split
 ·rename_i h;exact absurd h (hd _)
 ·rfl
theorem xI{o:Oper}{a:Act}{w w':World}{n:Go.Next}(hr:(execOp a.eval o).run P w=.ok n w')(hn:∀d,n≠.defer d):∀c,o.op≠.defer c:=fun c hc=>by
 simp only [execOp,hc,Sem.run_bind]at hr;cases hx:(resolve a.eval c o.type).run P w with
 |ok d w2=>rw [hx]at hr;simp at hr;exact hn d hr.1.symm
 |halt e w2=>rw [hx]at hr;cases hr
theorem vh(hk:b.kind≠.early)(l:Nat):fg P main (jO b l) where
 skip _ _ _ _:=by simp [G,stepG,stepG.exec,jO]
 inBlock _ _ _ _ _:=by simp [G,stepG,stepG.exec,jO]
 seq _ _ _ _ _ _:=by simp [G,stepG,stepG.exec,jO]
 cond c x y t a k _ _ h:=by
  have h':(jO b l a (.code (.cond c x y)::k)).eval c=.bool t:=by rw [QI];exact h
  simp only [jO]at h';simp [G,stepG,stepG.exec,jO,h']
 block _ _ _ _ _ _:=by simp [G,stepG,stepG.exec,jO]
 loop _ _ _ _ _:=by simp [G,stepG,stepG.exec,jO]
 inLoop _ _ _ _ _:=by simp [G,stepG,stepG.exec,jO]
 exit _ _ _ _ _ _ h:=by simp [G,stepG,stepG.exec,jO,h]
 region _ _ _ _ _ _:=by simp [G,stepG,stepG.exec,jO]
 draw id ops a k cs w:=⟨_,by simp [G,stepG,stepG.exec,jO,choose,Sem.run,Question.forced,Question.cut];rfl⟩
 aGA _ _ _ _ _:=by simp [G,stepG,stepG.exec,jO]
 unwanted ops i rest o a k cs w ho hw:=by
  have uf:(jO b l a (.inRegion ops (i::rest)::k)).finish undef=jO b l (a.put o.dst undef) (.inRegion ops rest::k):=by cases hx:o.dst<;>simp [Frame.finish,jO,Act.put,ho,hx]
  rw [←uf];simp [G,stepG,stepG.exec,jO,ho,hw]
 value ops i rest o v a k cs w w' ho hw hr:=by
  have uf:(jO b l a (.inRegion ops (i::rest)::k)).finish v=jO b l (a.put o.dst v) (.inRegion ops rest::k):=by cases hx:o.dst<;>simp [Frame.finish,jO,Act.put,ho,hx]
  have cm:(b.kind==CallKind.early)=false:=by simpa using hk
  rw [CR ho hw (xI hr (by simp)),←uf]
  exact⟨listed P b.fn a o w,by simp [stepG.apply,hr,G,jO,cm,GStep.after,listed],fun _=>mem_listed⟩
 none ops i rest o a k cs w w' ho hw hr:=by
  have uf:(jO b l a (.inRegion ops (i::rest)::k)).finish undef=jO b l (a.put o.dst undef) (.inRegion ops rest::k):=by cases hx:o.dst<;>simp [Frame.finish,jO,Act.put,ho,hx]
  have cm:(b.kind==CallKind.early)=false:=by simpa using hk
  rw [CR ho hw (xI hr (by simp)),←uf]
  exact⟨listed P b.fn a o w,by simp [stepG.apply,hr,G,jO,cm,GStep.after,listed],fun _=>mem_listed⟩
 enter ops i rest o f args a k cs w w' ho hw hr:=by
  have cm:(b.kind==CallKind.early)=false:=by simpa using hk
  rw [CR ho hw (xI hr (by simp))]
  exact⟨listed P b.fn a o w,by simp [stepG.apply,hr,G,jO,cm,GStep.after,listed],fun _=>mem_listed⟩
 finish ops i rest a k v:=by cases hx:((ops[i]?).bind (·.dst))<;>simp [Frame.finish,jO,Act.put,hx]
section
variable {w:World} {a:Act} {c x y:Code} {d:Nat} {rest:List Nat} {o:Oper} {v:Value}
theorem q_skip(hS:fg P main S)(e:c=.skip)(K:Loc P main Stop V (G (S a k) cs) w):Loc P main Stop V (G (S a (.code c::k)) cs) w:=by subst e;exact Loc.step rfl fun w₁ hr=>⟨_,w₁,#[],V,hS.skip ..,aY V w₁,K.rely hr⟩
theorem c7{id:Nat}(hS:fg P main S)(K:Loc P main Stop V (G (S a k) cs) w):Loc P main Stop V (G (S a (.inBlock id::k)) cs) w:=Loc.step rfl fun w₁ hr=>⟨_,w₁,#[],V,hS.inBlock ..,aY V w₁,K.rely hr⟩
theorem aj(hS:fg P main S)(e:c=.seq x y)(K:Loc P main Stop V (G (S a (.code x::.code y::k)) cs) w):Loc P main Stop V (G (S a (.code c::k)) cs) w:=by subst e;exact Loc.step rfl fun w₁ hr=>⟨_,w₁,#[],V,hS.seq ..,aY V w₁,K.rely hr⟩
theorem bY{t:Operand}(hS:fg P main S)(e:c=.cond t x y)(h:a.eval t=.bool true)(K:Loc P main Stop V (G (S a (.code x::k)) cs) w):Loc P main Stop V (G (S a (.code c::k)) cs) w:=by subst e;exact Loc.step rfl fun w₁ hr=>⟨_,w₁,#[],V,hS.cond _ _ _ _ _ _ _ _ h,aY V w₁,K.rely hr⟩
theorem aX{t:Operand}(hS:fg P main S)(e:c=.cond t x y)(h:a.eval t=.bool false)(K:Loc P main Stop V (G (S a (.code y::k)) cs) w):Loc P main Stop V (G (S a (.code c::k)) cs) w:=by subst e;exact Loc.step rfl fun w₁ hr=>⟨_,w₁,#[],V,hS.cond _ _ _ _ _ _ _ _ h,aY V w₁,K.rely hr⟩
theorem bV{id:Nat}(hS:fg P main S)(e:c=.block id x)(K:Loc P main Stop V (G (S a (.code x::.inBlock id::k)) cs) w):Loc P main Stop V (G (S a (.code c::k)) cs) w:=by subst e;exact Loc.step rfl fun w₁ hr=>⟨_,w₁,#[],V,hS.block ..,aY V w₁,K.rely hr⟩
theorem iU(hS:fg P main S)(e:c=.loop x)(K:Loc P main Stop V (G (S a (.code x::.inLoop x::k)) cs) w):Loc P main Stop V (G (S a (.code c::k)) cs) w:=by subst e;exact Loc.step rfl fun w₁ hr=>⟨_,w₁,#[],V,hS.loop ..,aY V w₁,K.rely hr⟩
theorem dW(hS:fg P main S)(K:Loc P main Stop V (G (S a (.code x::.inLoop x::k)) cs) w):Loc P main Stop V (G (S a (.inLoop x::k)) cs) w:=Loc.step rfl fun w₁ hr=>⟨_,w₁,#[],V,hS.inLoop ..,aY V w₁,K.rely hr⟩
theorem q_exit{id:Nat}{k':List Item}(hS:fg P main S)(e:c=.exit id)(h:exitTo id k=some k')(K:Loc P main Stop V (G (S a k') cs) w):Loc P main Stop V (G (S a (.code c::k)) cs) w:=by subst e;exact Loc.step rfl fun w₁ hr=>⟨_,w₁,#[],V,hS.exit _ _ _ _ _ _ h,aY V w₁,K.rely hr⟩
theorem ag{id:Nat}{l:List Nat}(hS:fg P main S)(e:c=.region id ops false)(r:List.range ops.size=l)(K:Loc P main Stop V (G (S a (.inRegion ops l::k)) cs) w):Loc P main Stop V (G (S a (.code c::k)) cs) w:=by subst e;subst r;exact Loc.step rfl fun w₁ hr=>⟨_,w₁,#[],V,hS.region ..,aY V w₁,K.rely hr⟩
theorem ai(hS:fg P main S)(K:Loc P main Stop V (G (S a k) cs) w):Loc P main Stop V (G (S a (.inRegion ops []::k)) cs) w:=Loc.step rfl fun w₁ hr=>⟨_,w₁,#[],V,hS.aGA ..,aY V w₁,K.rely hr⟩
theorem aGB{id:Nat}(hS:fg P main S)(K:∀(t:Nat) (w₁:World),aP V w w₁->Loc P main Stop V (G (S a (.inRegion ops (Region.schedule (P.follows .mixedOrders) ops t)::k)) cs) w₁):
  Loc P main Stop V (G (S a (.code (.region id ops true)::k)) cs) w:=by
 refine Loc.step rfl fun w₁ hr=>?_;obtain⟨t,ht⟩:=hS.draw id ops a k cs w₁;refine⟨_,{w₁ with drawn:=w₁.drawn+1},#[],V,ht,?_,K _ _ ?_⟩
 ·have:=(BV V w₁ (w₁.drawn+1)).eY (es:=#[]) (fun e h=>absurd h (Array.not_mem_empty _));rwa [View.bB V (w:=w₁) (w':={w₁ with drawn:=w₁.drawn+1}) rfl]at this
 ·exact hr.trans ⟨rfl,rfl,.refl _,Nat.le_refl _,fun _ c _ _ h=>⟨c,h,rfl⟩,fun _ _=>rfl,fun _ _=>rfl⟩
theorem zw(ho:ops[i]? =some o)(hw:Region.wanted o (yielded ops a.tmps)=true)(hS:fg P main S)(hd:o.dst=some d)(aU:d<a.tmps.size)(hy:Yl P V w o a v)
  (K:∀a',a'.tmps.size=a.tmps.size->a'.defers=a.defers->(∀j,d≠j->a'.eval (.tmp j)=a.eval (.tmp j))->a'.eval (.tmp d)=v->Loc P main Stop V (G (S a' (.inRegion ops rest::k)) cs) w):
  Loc P main Stop V (G (S a (.inRegion ops (i::rest)::k)) cs) w:=by
 refine Loc.step rfl fun w₁ hr=>?_;obtain⟨h1,he⟩:=hy w₁ hr;obtain⟨es,bF,Wi⟩:=hS.value ops i rest o v a k cs w₁ w₁ ho hw h1;have F7:=(ia.refl V w₁).eY (es:=es) fun e hx=>by rw [View.bB V rfl];exact he e (Wi e hx)
 rw [View.bB V rfl]at F7;have u:=bj a o.dst v;exact⟨_,_,_,_,bF,F7,(K _ u.size u.defers (fun j hj=>u.ne j (by rw [hd];intro h;exact hj (Option.some.inj h))) (u.eq d hd aU)).rely hr⟩
theorem ay{op:Op}{m:Nat}(p:KO ops i op (some d) none)(hS:fg P main S)(hs:a.tmps.size=m)(hy:Yl P V w (nR ops i) a v)
  (K:∀a',Ua a a' d->a'.eval (.tmp d)=v->Loc P main Stop V (G (S a' (.inRegion ops rest::k)) cs) w)(hm:d<m:=by decide):
  Loc P main Stop V (G (S a (.inRegion ops (i::rest)::k)) cs) w:=zw p.a p.f hS p.d (by rw [hs];exact hm) hy fun a' x y z h=>K a' ⟨x,y,z⟩ h
theorem mo{op:Op}{m j dj:Nat}{t x:Bool}(p:KO ops i op (some d) (some (j,t)))(hj:(ops[j]?).bind (·.dst)=some dj)(h:a.eval (.tmp dj)=.bool x)(hS:fg P main S)(hs:a.tmps.size=m)(hy:Yl P V w (nR ops i) a v)
  (K:∀a',Ua a a' d->a'.eval (.tmp d)=v->Loc P main Stop V (G (S a' (.inRegion ops rest::k)) cs) w)(hx:(x==t)=true:=by rfl)(hm:d<m:=by decide):
  Loc P main Stop V (G (S a (.inRegion ops (i::rest)::k)) cs) w:=zw p.a ((ax p.g hj h).trans hx) hS p.d (by rw [hs];exact hm) hy fun a' x y z h=>K a' ⟨x,y,z⟩ h
theorem xr(ho:ops[i]? =some o)(hw:Region.wanted o (yielded ops a.tmps)=false)(hS:fg P main S)(hd:o.dst=some d)
  (K:∀a',a'.tmps.size=a.tmps.size->a'.defers=a.defers->(∀j,d≠j->a'.eval (.tmp j)=a.eval (.tmp j))->Loc P main Stop V (G (S a' (.inRegion ops rest::k)) cs) w):
  Loc P main Stop V (G (S a (.inRegion ops (i::rest)::k)) cs) w:=by
 have u:=bj a o.dst undef;exact Loc.step rfl fun w₁ hr=>⟨_,_,_,_,hS.unwanted _ _ _ _ _ _ _ _ ho hw,aY V w₁,(K _ u.size u.defers (fun j hj=>u.ne j (by rw [hd];intro h;exact hj (Option.some.inj h)))).rely hr⟩
theorem ao0(ho:ops[i]? =some o)(hw:Region.wanted o (yielded ops a.tmps)=true)(hS:fg P main S)
  (h:∀w₁,aP V w w₁->∀K':Act->World->Prop,(∀a' w',ia V w₁ w'->(∀e∈(execOp a.eval o).events P w₁ #[],EvQ (V.plus w₁ w') e)->Loc P main Stop (V.plus w₁ w') (G (S a' (.inRegion ops rest::k)) cs) w'->K' a' w')->uponK o a K' ((execOp a.eval o).run P w₁)):
  Loc P main Stop V (G (S a (.inRegion ops (i::rest)::k)) cs) w:=by
 refine Loc.step rfl fun w₁ hr=>?_;have hx:=h w₁ hr (fun a' w'=>ia V w₁ w'/\(∀e∈(execOp a.eval o).events P w₁ #[],EvQ (V.plus w₁ w') e)/\Loc P main Stop (V.plus w₁ w') (G (S a' (.inRegion ops rest::k)) cs) w') fun a' w' x y z=>⟨x,y,z⟩;rcases FM hx with ⟨v,w',sG,hT,he,hL⟩|⟨w',sG,hT,he,hL⟩
 ·obtain⟨es,bF,Wi⟩:=hS.value ops i rest o v a k cs w₁ w' ho hw sG;exact⟨_,_,_,_,bF,hT.eY fun e hx=>he e (Wi e hx),hL⟩
 ·obtain⟨es,bF,Wi⟩:=hS.none ops i rest o a k cs w₁ w' ho hw sG;exact⟨_,_,_,_,bF,hT.eY fun e hx=>he e (Wi e hx),hL⟩
theorem ao1(F:World->World)(ho:ops[i]? =some o)(hw:Region.wanted o (yielded ops a.tmps)=true)(hS:fg P main S)(hd:o.dst=none)
  (hF:∀w₁,aP V w w₁->aP V (F w) (F w₁)/\ia V w₁ (F w₁)/\(F w₁).heap.size=w₁.heap.size)
  (h:∀w₁,aP V w w₁->(execOp a.eval o).run P w₁=.ok .skip (F w₁)/\∀e∈(execOp a.eval o).events P w₁ #[],EvQ V e)
  (K:Loc P main Stop V (G (S a (.inRegion ops rest::k)) cs) (F w)):Loc P main Stop V (G (S a (.inRegion ops (i::rest)::k)) cs) w:=by
 refine Loc.step rfl fun w₁ hr=>?_;obtain⟨f1,f2,f3⟩:=hF w₁ hr;obtain⟨h1,h2⟩:=h w₁ hr;obtain⟨es,bF,Wi⟩:=hS.none ops i rest o a k cs w₁ _ ho hw h1;have e:=View.bB V f3;have F7:=f2.eY (es:=es) (fun x hx=>by rw [e];exact h2 x (Wi x hx))
 rw [e]at F7;rw [hd]at bF;exact⟨_,_,_,_,bF,F7,K.rely f1⟩
theorem ao2{f:FuncId}{fn:Func}{xs:Array Operand}{gY:Array TypeId}{c:Code}(ho:ops[i]? =some o)(hw:Region.wanted o (yielded ops a.tmps)=true)(hS:fg P main S)(aE:o.op=.call {callee:=.value (.func f),args:=xs,argTypes:=gY})
  (hf:P.funcs[f]? =some fn)(jq:(fn.name== "runtime.NumGoroutine")=false)(hb:fn.body=some c)
  (K:Loc P main Stop V (G (Frame.enter P f (xs.map a.eval) .normal) (S a (.inRegion ops (i::rest)::k)::cs)) w):
  Loc P main Stop V (G (S a (.inRegion ops (i::rest)::k)) cs) w:=by
 have h1:¬fn.name= "runtime.NumGoroutine" :=by simpa using jq
 have e1:=execOp_call_func (a:=a) aE;refine Loc.step rfl fun w₁ hr=>?_;obtain⟨es,bF,Wi⟩:=hS.enter ops i rest o f (xs.map a.eval) a k cs w₁ w₁ ho hw (by rw [e1];simp [callFunc,hf,h1,hb])
 have hz:∀e∈es,False:=fun e he=>by
  have:=Wi e he;rw [e1]at this;simp [callFunc,hf,h1,hb]at this
 have F7:=(ia.refl V w₁).eY (es:=es) fun e hx=>(hz e hx).elim;rw [View.bB V rfl]at F7;exact⟨_,_,_,_,bF,F7,K.rely hr⟩
theorem dM{b:Frame}{fn:Func}{ab:Act}{todo:List Item}{t:Tmp}(hS:fg P main S)(hn:b.kind=.normal)(hd:ab.defers=[])(hf:P.funcs[b.fn]? =some fn)(hr:fn.results=#[.tmp t])(ho:ops[i]? =some o)(hdd:o.dst=some d)(aU:d<a.tmps.size)
  (K:∀a',a'.tmps.size=a.tmps.size->a'.defers=a.defers->(∀j,d≠j->a'.eval (.tmp j)=a.eval (.tmp j))->a'.eval (.tmp d)=ab.eval (.tmp t)->Loc P main Stop V (G (S a' (.inRegion ops rest::k)) cs) w):
  Loc P main Stop V (G {b.at ab todo with mode:=.returning} (S a (.inRegion ops (i::rest)::k)::cs)) w:=by
 refine Loc.ctl rfl (fun w₁=>stepG_leave hn hd hf (results_tmp hr _ P w₁) (events_results_tmp hr _ _)) ?_;rw [hS.finish,ho];have u:=bj a o.dst (ab.tmps.getD t undef);exact K _ u.size u.defers (fun j hj=>u.ne j (by rw [hdd];intro h;exact hj (Option.some.inj h))) (u.eq d hdd aU)
end
theorem ly{b:Frame}(hk:b.kind≠.early):fg prog true b.at:=bh hk
structure aG(B:Nat->Prop)(A:Addr->Prop)(V:View)(w:World)(V':View)(w':World):Prop where
 tape:w'.tape=w.tape
 output:w'.output=w.output
 os:OsLater w.os w'.os
 size:w.heap.size<=w'.heap.size
 kind:eG w w'
 own:∀b,V.own b->¬B b->w'.heap[b]? =w.heap[b]?
 cell:∀a,V.ro a\/V.wc a->¬A a->w'.cell? a=w.cell? a
 mine:∀b,V.own b->V'.own b
 new:∀b,V'.own b->V.own b\/(w.heap.size<=b/\b<w'.heap.size)
 ro:V'.ro=V.ro
 wc:V'.wc=V.wc
 deaf:V'.deaf=V.deaf
def aI:Nat->Prop:=fun _=>False
def aD:Addr->Prop:=fun _=>False
def ba(V:View)(w:World)(b:Nat)(o:Obj):Prop:=V.own b/\w.heap[b]? =some o
def Cl(V:View)(w:World)(ad:Addr)(v:Value):Prop:=(V.ro ad\/V.wc ad)/\w.cell? ad=some v
def iJ(V:View)(w:World)(ad:Addr)(v:Value):Prop:=V.oz ad/\w.cell? ad=some v
section
variable {B':Nat->Prop} {A':Addr->Prop} {dq:View} {w cO:World} {b g:Nat} {o:Obj} {v:Value} {c:Array Value} {e:TypeId} {fr:Nat×Nat}
theorem aG.refl(V:View)(w:World):aG aI aD V w V w:=⟨rfl,rfl,.refl _,Nat.le_refl _,.refl w,fun _ _ _=>rfl,fun _ _ _=>rfl,fun _ h=>h,fun _ h=>.inl h,rfl,rfl,rfl⟩
theorem aG.mono(h:aG B A V w V' w')(hB:∀b,B b->B' b)(hA:∀a,A a->A' a):aG B' A' V w V' w':=
 ⟨h.tape,h.output,h.os,h.size,h.kind,fun b hb hn=>h.own b hb fun x=>hn (hB b x),fun a ha hn=>h.cell a ha fun x=>hn (hA a x),h.mine,h.new,h.ro,h.wc,h.deaf⟩
theorem aG.trans(h:aG B A V w V' w')(k:aG B A V' w' dq cO):aG B A V w dq cO:=
 ⟨k.tape.trans h.tape,k.output.trans h.output,h.os.trans k.os,Nat.le_trans h.size k.size,h.kind.trans k.kind,fun b hb hn=>(k.own b (h.mine b hb) hn).trans (h.own b hb hn),
  fun a ha hn=>(k.cell a (by rw [h.ro,h.wc];exact ha) hn).trans (h.cell a ha hn),fun b hb=>k.mine b (h.mine b hb),fun b hb=>(k.new b hb).elim (fun x=>(h.new b x).imp id fun y=>⟨y.1,Nat.lt_of_lt_of_le y.2 k.size⟩) fun y=>.inr ⟨Nat.le_trans h.size y.1,y.2⟩,
  k.ro.trans h.ro,k.wc.trans h.wc,k.deaf.trans h.deaf⟩
theorem aG.bk(h:aP V w w'):aG aI aD V w V w':=⟨h.tape,h.output,h.os,h.size,h.kind,fun b hb _=>h.own b hb,fun a ha _=>h.cell a ha,fun _ h=>h,fun _ h=>.inl h,rfl,rfl,rfl⟩
theorem aG.rely(h:aG aI aD V w V' w'):aP V w w':=⟨h.tape,h.output,h.os,h.size,h.kind,fun b hb=>h.own b hb id,fun a ha=>h.cell a ha id⟩
theorem aG.after(h:aP V w w₁)(k:aG B A V w₁ V' w'):aG B A V w V' w':=(((aG.bk h).mono (fun _ h=>h.elim) fun _ h=>h.elim)).trans k
theorem ba.lt(h:ba V w b o):b<w.heap.size:=(Array.getElem?_eq_some_iff.1 h.2).1
theorem ba.aGC(h:ba V w b o)(hn:w.heap.size<=n):b≠n:=fun e=>by have:=h.lt;omega
theorem ba.aC(h:ba V w b o)(k:aG B A V w V' w')(hb:¬B b):ba V' w' b o:=⟨k.mine b h.1,(k.own b h.1 hb).trans h.2⟩
theorem ba.go(h:ba V w b o)(k:aG aI A V w V' w'):ba V' w' b o:=h.aC k id
theorem ba.off(h:ba V w b o)(k:aG (· =g) A V w V' w')(hb:b≠g):ba V' w' b o:=h.aC k hb
theorem ba.rely(h:ba V w b o)(k:aP V w w'):ba V w' b o:=⟨h.1,(k.own b h.1).trans h.2⟩
theorem Cl.aC(h:Cl V w ad v)(k:aG B A V w V' w')(hb:¬A ad):Cl V' w' ad v:=⟨by rw [k.ro,k.wc];exact h.1,(k.cell ad h.1 hb).trans h.2⟩
theorem Cl.go(h:Cl V w ad v)(k:aG B aD V w V' w'):Cl V' w' ad v:=h.aC k id
theorem Cl.rely(h:Cl V w ad v)(k:aP V w w'):Cl V w' ad v:=⟨h.1,(k.cell ad h.1).trans h.2⟩
theorem Cl.cK(h:Cl V w ad v):iJ V w ad v:=⟨.inr h.1,h.2⟩
theorem ba.cK(h:ba V w b (.cells c e fr)){i:Nat}(hi:c[i]? =some v):iJ V w ⟨b,i,none⟩ v:=⟨.inl h.1,by simp [World.cell?,h.2,hi]⟩
theorem iJ.rely(h:iJ V w ad v)(k:aP V w w'):iJ V w' ad v:=⟨h.1,(k.oz h.1).trans h.2⟩
theorem iJ.go(h:iJ V w ad v)(k:aG aI aD V w V' w'):iJ V' w' ad v:=⟨by
 rcases h.1 with x|x
 ·exact .inl (k.mine _ x)
 ·exact .inr (by rw [k.ro,k.wc];exact x),(k.rely.oz h.1).trans h.2⟩
theorem alloc_old(w:World)(o:Obj){b:Nat}(h:b<w.heap.size):(w.alloc o).heap[b]? =w.heap[b]? :=by
 show(w.heap.push o)[b]? =_
 rw [Array.getElem?_push,if_neg (by omega)]
theorem QJ(w:World)(o:Obj):eG w (w.alloc o):=fun b c e fr h=>⟨c,(alloc_old w o (Array.getElem?_eq_some_iff.1 h).1).trans h,rfl⟩
theorem xJ(w:World)(o:Obj):(w.alloc o).heap[w.heap.size]? =some o:=by
 show(w.heap.push o)[w.heap.size]? =_
 rw [Array.getElem?_push,if_pos rfl]
theorem nA(w:World)(o:Obj):(w.alloc o).heap.size=w.heap.size+1:=Array.size_push ..
theorem nB(V:View)(w:World)(o:Obj):ia V w (w.alloc o):=
 ⟨rfl,rfl,.refl _,by rw [nA];omega,QJ w o,fun a h _ _=>by simp only [World.cell?,alloc_old w o h],fun b h _ _=>alloc_old w o h⟩
end
structure Tidy(V:View)(w:World):Prop where
 gl:prog.globals.size<=w.heap.size
 low:mP V w.heap.size
 fV:∀ad,V.ro ad\/V.wc ad->¬V.own ad.block
theorem Tidy.aC{V V':View}{w w':World}{B:Nat->Prop}{A:Addr->Prop}(h:Tidy V w)(k:aG B A V w V' w'):Tidy V' w':=by
 refine⟨Nat.le_trans h.gl k.size,⟨fun b hb=>?_,fun a ha=>?_,fun a ha=>?_⟩,fun ad ha hb=>?_⟩
 ·rcases k.new b hb with x|x
  ·exact Nat.lt_of_lt_of_le (h.low.own b x) k.size
  ·exact x.2
 ·rw [k.wc]at ha;exact Nat.lt_of_lt_of_le (h.low.wc a ha) k.size
 ·rw [k.ro]at ha;exact Nat.lt_of_lt_of_le (h.low.ro a ha) k.size
 ·rw [k.ro,k.wc]at ha;rcases k.new _ hb with x|x
  ·exact h.fV ad ha x
  ·have:=ha.elim (h.low.ro ad) (h.low.wc ad);omega
section
variable {w:World} {a:Act} {d:Nat} {rest:List Nat} {o:Oper}
theorem ri{w':World}{B:Nat->Prop}{A:Addr->Prop}(h:ia V w w')(cd:∀b,V.own b->¬B b->w'.heap[b]? =w.heap[b]?)(jz:∀a,V.ro a\/V.wc a->¬A a->w'.cell? a=w.cell? a):aG B A V w (V.plus w w') w':=
 ⟨h.tape,h.output,h.os,h.size,h.kind,cd,jz,fun _ h=>.inl h,fun _ h=>h,rfl,rfl,rfl⟩
theorem F8{ob:Obj}(mk:Nat->Value)(ho:ops[i]? =some o)(hw:Region.wanted o (yielded ops a.tmps)=true)(hk:fg P main S)(hd:o.dst=some d)(aU:d<a.tmps.size)
  (hT:Tidy V w)
  (h:∀w₁,aP V w w₁->(execOp a.eval o).run P w₁=.ok (.value (mk w₁.heap.size)) (w₁.alloc ob)/\∀e∈(execOp a.eval o).events P w₁ #[],EvQ V e)
  (K:∀n a' V' w',a'.tmps.size=a.tmps.size->a'.defers=a.defers->(∀j,d≠j->a'.eval (.tmp j)=a.eval (.tmp j))->a'.eval (.tmp d)=mk n->aG aI aD V w V' w'->w.heap.size<=n->ba V' w' n ob->Tidy V' w'->
   Loc P main Stop V' (G (S a' (.inRegion ops rest::k)) cs) w'):Loc P main Stop V (G (S a (.inRegion ops (i::rest)::k)) cs) w:=by
 refine ao0 ho hw hk fun w₁ hr K' E7=>?_;obtain⟨h1,h2⟩:=h w₁ hr;rw [h1];have gj:=hT.low;have IZ:=nB V w₁ ob;have u:=bj a o.dst (mk w₁.heap.size);refine E7 _ _ IZ (fun e he=>?_) ?_
 ·rcases h2 e he with ⟨a,wr,x,y⟩|⟨r,wr,x,y⟩|x
  ·exact .inl ⟨a,wr,x,y.imp .inl id⟩
  ·exact .inr (.inl ⟨r,wr,x,.inl y⟩)
  ·exact .inr (.inr x)
 ·have hW:aG aI aD V w (V.plus w₁ (w₁.alloc ob)) (w₁.alloc ob):=by
   refine aG.after hr (ri IZ (fun b hb _=>alloc_old _ _ (Nat.lt_of_lt_of_le (gj.own b hb) hr.size)) fun a ha _=>?_);have aU:a.block<w₁.heap.size:=Nat.lt_of_lt_of_le (ha.elim (gj.ro a) (gj.wc a)) hr.size;simp only [World.cell?,alloc_old _ _ aU]
  refine K w₁.heap.size _ _ _ u.size u.defers (fun j hj=>u.ne j (by rw [hd];intro h;exact hj (Option.some.inj h))) (u.eq d hd aU) hW hr.size ⟨.inr ⟨Nat.le_refl _,by rw [nA];omega⟩,xJ _ _⟩ (hT.aC hW)
end
def oc{α:Type}(P:Program)(s:Sem α):Prop:=∀w es,s.events P w es=es
section
variable {α β:Type}
theorem oc.pure(x:α):oc P (Pure.pure x:Sem α):=fun _ _=>rfl
theorem oc.bind{s:Sem α}{f:α->Sem β}(h:oc P s)(k:∀x,oc P (f x)):oc P (s>>=f):=fun w es=>by
 rw [Sem.events_bind,h];cases s.run P w with
 |ok x w'=>exact k x w' es
 |halt e w'=>rfl
theorem oc.mapM{f:α->Sem β}(h:∀x,oc P (f x)):∀l:List α,oc P (l.mapM f)
 |[]=>by rw [List.mapM_nil];exact .pure _
 |x::l=>by rw [List.mapM_cons];exact(h x).bind fun y=>(oc.mapM h l).bind fun z=>.pure _
theorem Xk(t:TypeId)(parts:Array (Nat×Value)):oc P (Instr.build t parts):=by
 unfold Instr.build;refine oc.bind (fun w es=>events_zeroValue ..) fun z=>oc.bind (fun w es=>events_underlying ..) fun d=>?_;cases d<;>try (exact fun _ _=>rfl)
 ·refine oc.bind (fun w es=>events_sizeOf ..) fun s=>?_;split<;>exact fun _ _=>rfl
 ·refine oc.bind ?_ fun s=>?_
  ·rw [Array.mapM_eq_mapM_toList];refine oc.bind (oc.mapM (fun f=>oc.bind (fun w es=>events_sizeOf ..) fun _=>.pure _) _) fun _=>.pure _
  ·split<;>exact fun _ _=>rfl
end
section
variable {w:World} {o:Oper} {a:Act} {x:Operand} {v:Value} {k:IntKind} {n:Int}
theorem ao3(ha:∀w,(isAgg t).run P w=.ok false w){w₁:World}(hc:w₁.cell? ad=some v):(Instr.loadAt t (.pointer (some ad))).run P w₁=.ok v w₁/\(Instr.loadAt t (.pointer (some ad))).events P w₁ #[]=#[⟨.cell ad,false,false⟩]:=by
 constructor
 ·simp [Instr.loadAt,Instr.sureAddr,loadVar,ha,hc]
 ·simp [Instr.loadAt,Instr.sureAddr,loadVar,ha,hc]
theorem aL(aE:o.op=.load t x)(hx:a.eval x=.pointer (some ad))(ha:∀w,(isAgg t).run P w=.ok false w)(h:iJ V w ad v):Yl P V w o a v:=
 aEh aE hx h.2 h.1 fun _ hc=>ao3 ha hc
theorem iq{w₁:World}{ad:Addr}:∀(n i:Nat) (acc:Array Value) (es:Array Event),(∀j,j<n->(w₁.cell? (ad.add (i+j))).isSome)->∀e∈(loadCellsFrom ad i n acc).events P w₁ es,e∈es\/∃j,j<n/\e=⟨.cell (ad.add (i+j)),false,false⟩
 |0,_,_,_,_=>fun e h=>.inl (by simpa [loadCellsFrom]using h)
 |n+1,i,acc,es,hc=>fun e h=>by
  obtain⟨u,hu⟩:=Option.isSome_iff_exists.1 (hc 0 (by omega))
  simp only [Nat.add_zero]at hu;simp only [loadCellsFrom,Sem.events_bind,run_load,hu,Result.evThen_ok,events_load]at h;rcases iq n (i+1) (acc.push u) _ (fun j hj=>by have:=hc (j+1) (by omega);rwa [show i+(j+1)=i+1+j by omega]at this) e h with h|⟨j,hj,h⟩
  ·rcases Array.mem_push.1 h with h|rfl
   ·exact .inl h
   ·exact .inr ⟨0,by omega,rfl⟩
  ·exact .inr ⟨j+1,by omega,by rw [h];congr 3;omega⟩
theorem I0(aE:o.op=.load t x)(hx:a.eval x=.pointer (some ad))(ha:∀w,(isAgg t).run P w=.ok true w){n:Nat}(hn:∀w,(sizeOf t).run P w=.ok n w)(vs:List Value)(hl:vs.length=n)
  (h:∀j u,vs[j]? =some u->iJ V w (ad.add j) u):Yl P V w o a (.agg vs.toArray):=fun w₁ hr=>by
 subst hl;have hc:∀j u,vs[j]? =some u->w₁.cell? (ad.add j)=some u:=fun j u hj=>((hr.oz (h j u hj).1)).trans (h j u hj).2;have yL:=run_loadCells_list (P:=P) w₁ ad vs hc;refine⟨by simp [execOp,aE,hx,Instr.loadAt,Instr.sureAddr,loadVar,ha,hn,yL],fun e he=>?_⟩
 have he':e∈(loadCells ad vs.length).events P w₁ #[]:=by
  simp [execOp,aE,hx,Instr.loadAt,Instr.sureAddr,loadVar,ha,hn,yL]at he;exact he
 rcases iq (P:=P) (w₁:=w₁) vs.length 0 #[] #[] (fun j hj=>by rw [Nat.zero_add,hc j vs[j] (List.getElem?_eq_getElem hj)];rfl) e he' with he|⟨j,hj,rfl⟩
 ·simp at he
 ·rw [Nat.zero_add];exact oB (h j vs[j] (List.getElem?_eq_getElem hj)).1
theorem eu{v0 v1:Value}{bl off:Nat}(aE:o.op=.load t x)(hx:a.eval x=.pointer (some ⟨bl,off,none⟩))(ha:∀w,(isAgg t).run P w=.ok true w)(hn:∀w,(sizeOf t).run P w=.ok 2 w)(h0:iJ V w ⟨bl,off,none⟩ v0)(h1:iJ V w ⟨bl,off+1,none⟩ v1):Yl P V w o a (.agg #[v0,v1]):=
 I0 aE hx ha hn [v0,v1] rfl fun j u hj=>by
  rcases j with _|_|j
  ·cases hj;exact h0
  ·cases hj;exact h1
  ·simp at hj
theorem vi{v0 v1 v2 v3:Value}{bl off:Nat}(aE:o.op=.load t x)(hx:a.eval x=.pointer (some ⟨bl,off,none⟩))(ha:∀w,(isAgg t).run P w=.ok true w)(hn:∀w,(sizeOf t).run P w=.ok 4 w)
  (h0:iJ V w ⟨bl,off,none⟩ v0)(h1:iJ V w ⟨bl,off+1,none⟩ v1)(h2:iJ V w ⟨bl,off+2,none⟩ v2)(h3:iJ V w ⟨bl,off+3,none⟩ v3):Yl P V w o a (.agg #[v0,v1,v2,v3]):=
 I0 aE hx ha hn [v0,v1,v2,v3] rfl fun j u hj=>by
  rcases j with _|_|_|_|j
  ·cases hj;exact h0
  ·cases hj;exact h1
  ·cases hj;exact h2
  ·cases hj;exact h3
  ·simp at hj
theorem lz{v0:Value}{bl off:Nat}(aE:o.op=.load t x)(hx:a.eval x=.pointer (some ⟨bl,off,none⟩))(ha:∀w,(isAgg t).run P w=.ok true w)(hn:∀w,(sizeOf t).run P w=.ok 1 w)(h0:iJ V w ⟨bl,off,none⟩ v0):Yl P V w o a (.agg #[v0]):=
 I0 aE hx ha hn [v0] rfl fun j u hj=>by
  rcases j with _|j
  ·cases hj;exact h0
  ·simp at hj
theorem dk{e:TypeId}{bs:Option Addr}{l c:Nat}(aE:o.op=.call {callee:=.builtin .len,args:=#[x],argTypes:=#[t]})(hx:a.eval x=.slice bs l c)(hu:P.underlying t=some (.slice e)):Yl P V w o a (.int .i64 l):=.pure fun w₁=>by
 constructor<;>simp [execOp,aE,hx,resolve,invoke,builtin,Builtin.len_,run_underlying hu,goInt]
theorem ao4(aE:o.op=.call {callee:=.builtin .min,args:=#[x,y],argTypes:=#[t,yt]})(hx:a.eval x=.int k m)(hy:a.eval y=.int k n):Yl P V w o a (.int k (if n<m then n else m)):=.pure fun w₁=>by
 constructor<;>simp [execOp,aE,hx,hy,resolve,invoke,builtin,Builtin.min_,Builtin.min2]
theorem bR{i:Nat}{vs:Array Value}(aE:o.op=.extract x i)(hx:a.eval x=.tuple vs)(hv:vs[i]? =some v):Yl P V w o a v:=.pure fun w₁=>by
 constructor<;>simp [execOp,aE,hx,Instr.extract,hv]
theorem lA{parts:Array (Nat×Operand)}{cells:Array Value}(aE:o.op=.build t parts)(h:P.built t (parts.map fun(i,x)=>(i,a.eval x)).toList=some cells):Yl P V w o a (.agg cells):=.pure fun w₁=>by
 have e1:=run_build (P:=P) w₁ t (parts.map fun(i,x)=>(i,a.eval x)) cells h;have e2:=Xk (P:=P) t (parts.map fun(i,x)=>(i,a.eval x)) w₁ #[];constructor
 ·simp only [execOp,aE,Sem.run_bind,e1,Result.andThen_ok,Sem.run_pure]
 ·simp only [execOp,aE,Sem.events_bind,e1,e2,Result.evThen_ok,Sem.events_pure]
theorem CS{fn:Fn}{f cp:Array Operand}(aE:o.op=.makeFunc fn f cp):Yl P V w o a (.func fn (f.map a.eval) (cp.map a.eval)):=.pure fun w₁=>by
 constructor<;>simp [execOp,aE,Instr.makeFunc]
theorem aRa(aE:o.op=.binOp .leq t x y yt)(hx:a.eval x=.int k m)(hy:a.eval y=.int k n):Yl P V w o a (.bool (m<=n)):=.pure fun w₁=>by simp [execOp,aE,hx,hy,eqGuard,binOp,Op.intCmp]
theorem aRb(aE:o.op=.binOp .geq t x y yt)(hx:a.eval x=.int k m)(hy:a.eval y=.int k n):Yl P V w o a (.bool (m>=n)):=.pure fun w₁=>by simp [execOp,aE,hx,hy,eqGuard,binOp,Op.intCmp]
end
section
variable {w:World} {o:Oper} {a:Act} {x:Operand} {k:IntKind} {n:Int}
theorem aBr(aE:o.op=.binOp .quo t x y yt)(hx:a.eval x=.int k m)(hy:a.eval y=.int k n)(hn:n≠0):Yl P V w o a (.int k (k.wrap (m.tdiv n))):=.pure fun w₁=>by
 constructor<;>simp [execOp,aE,hx,hy,eqGuard,binOp,Op.intDiv,hn]
theorem cT{e:TypeId}{bl off l c s i:Nat}{ki:IntKind}(aE:o.op=.indexAddr t x y)(hx:a.eval x=.slice (some ⟨bl,off,none⟩) l c)(hy:a.eval y=.int ki (i:Int))(hu:P.underlying t=some (.slice e))(hs:∀w,(sizeOf e).run P w=.ok s w)(hi:i<l):
  Yl P V w o a (.pointer (some ⟨bl,off+i*s,none⟩)):=.pure fun w₁=>by
 have h1:(0:Int)<=(i:Int)/\(i:Int)<(l:Int):=by omega
 constructor<;>simp [execOp,aE,hx,hy,Instr.indexAt,asIntOf,run_underlying hu,hs,hi,Addr.add_lit]
theorem ab3{e:TypeId}{bl off l c s lo hi:Nat}{k1 k2:IntKind}(aE:o.op=.slice t x (some y) (some z) none)(hx:a.eval x=.slice (some ⟨bl,off,none⟩) l c)(hy:a.eval y=.int k1 (lo:Int))(hz:a.eval z=.int k2 (hi:Int))(hu:P.underlying t=some (.slice e))(hs:∀w,(sizeOf e).run P w=.ok s w)(h1:lo<=hi)(h2:hi<=c):
  Yl P V w o a (.slice (some (if c=lo then⟨bl,off,none⟩else⟨bl,off+lo*s,none⟩)) (hi-lo) (c-lo)):=.pure fun w₁=>by
 constructor
 ·by_cases hc:c=lo
  ·obtain rfl:hi=lo:=by omega
   simp [execOp,aE,hx,hy,hz,Instr.sliceAt,run_underlying hu,Instr.slice,Instr.sliceBounds,Instr.sliceBound,asIntOf,hs,Addr.add_lit,hc]
  ·simp [execOp,aE,hx,hy,hz,Instr.sliceAt,run_underlying hu,Instr.slice,Instr.sliceBounds,Instr.sliceBound,asIntOf,h1,h2,hs,Addr.add_lit,hc]
 ·simp [execOp,aE,hx,hy,hz,Instr.sliceAt,run_underlying hu,Instr.slice,Instr.sliceBounds,Instr.sliceBound,asIntOf,h1,h2,hs]
end
theorem pf(g:Nat):∀(vs:List Value) (o:Nat) (w:World) (b:Nat),b≠g->(w.setCells g o vs).heap[b]? =w.heap[b]?
 |[],_,_,_,_=>rfl
 |v::r,o,w,b,h=>by rw [World.setCells,pf g r _ _ b h,(aside_setCell w ⟨g,o,none⟩ v).block b h]
theorem jh(g:Nat):∀(vs:List Value) (o:Nat) (w:World),(w.setCells g o vs).heap.size=w.heap.size
 |[],_,_=>rfl
 |v::r,o,w=>by rw [World.setCells,jh g r,(aside_setCell w ⟨g,o,none⟩ v).size]
def alu:Array Value->Nat->List Value->Array Value
 |c,_,[]=>c
 |c,o,v::r=>alu (c.setIfInBounds o v) (o+1) r
theorem yu(g:Nat){e:TypeId}{fr:Nat×Nat}:∀(vs:List Value) (o:Nat) (w:World) (c:Array Value),w.heap[g]? =some (.cells c e fr)->(w.setCells g o vs).heap[g]? =some (.cells (alu c o vs) e fr)
 |[],_,_,_,h=>h
 |v::r,o,w,c,h=>by
  refine yu g r (o+1) _ (c.setIfInBounds o v) ?_;have:=cZ w ⟨g,o,none⟩ v;simp only [h,Option.map_some,Option.isSome_none,Bool.false_eq_true,if_false]at this;exact this
theorem CU{V:View}{w w' cO:World}(h:ia V w w')(k:ia V w' cO)(hc:∀b:Nat,(∀(c:Array Value) (e:TypeId) (fr:Nat×Nat),w.heap[b]? ≠some (.cells c e fr))->w.heap[b]? =w'.heap[b]? ->∀(c:Array Value) (e:TypeId) (fr:Nat×Nat),w'.heap[b]? ≠some (.cells c e fr)):ia V w cO:=
 ⟨k.tape.trans h.tape,k.output.trans h.output,h.os.trans k.os,Nat.le_trans h.size k.size,h.kind.trans k.kind,fun a ha hb hd=>(k.cells a (Nat.lt_of_lt_of_le ha h.size) hb hd).trans (h.cells a ha hb hd),
  fun b hb hn hx=>(k.l9 b (Nat.lt_of_lt_of_le hb h.size) hn (hc b hx (h.l9 b hb hn hx).symm)).trans (h.l9 b hb hn hx)⟩
theorem lT{V:View}(g:Nat):∀(vs:List Value) (o:Nat) (w:World),(∀j,j<vs.length->V.has ⟨g,o+j,none⟩)->ia V w (w.setCells g o vs)
 |[],_,w,_=>.refl V w
 |v::r,o,w,h=>by
  refine CU (Hf w v (a:=⟨g,o,none⟩) (h 0 (by simp))) (lT g r (o+1) _ fun j hj=>by have:=h (j+1) (by simp;omega);rwa [show o+(j+1)=o+1+j by omega]at this) fun b hx he c e fr hh=>?_
  exact hx c e fr (he.trans hh)
theorem sc{V:View}(g:Nat):∀(vs:List Value) (o:Nat) (w w₁:World),aP V w w₁->(∀j,j<vs.length->V.has ⟨g,o+j,none⟩)->(∀j,j<vs.length->(w.cell? ⟨g,o+j,none⟩).isSome=true)->aP V (w.setCells g o vs) (w₁.setCells g o vs)
 |[],_,_,_,h,_,_=>h
 |v::r,o,w,w₁,h,hV,hc=>by
  refine sc g r (o+1) _ _ (h.setCell v (hV 0 (by simp)) (by have:=hc 0 (by simp);simp at this;intro e;rw [e]at this;cases this)) (fun j hj=>by have:=hV (j+1) (by simp;omega);rwa [show o+(j+1)=o+1+j by omega]at this) fun j hj=>?_
  rw [World.cell?_setCell_other _ _ _ _ (by simp;omega)]
  have:=hc (j+1) (by simp;omega)
  rwa [show o+(j+1)=o+1+j by omega]at this
section
variable {w:World} {a:Act} {d:Nat} {rest:List Nat} {o:Oper} {e:TypeId} {x:Operand}
theorem dN{z:Value}(ho:ops[i]? =some o)(hw:Region.wanted o (yielded ops a.tmps)=true)(hk:fg P main S)(hd:o.dst=some d)(aU:d<a.tmps.size)(hT:Tidy V w)(aE:o.op=.alloc t)(hz:∀w,(zeroValue t).run P w=.ok z w)
  (K:∀n a' V' w',a'.tmps.size=a.tmps.size->a'.defers=a.defers->(∀j,d≠j->a'.eval (.tmp j)=a.eval (.tmp j))->a'.eval (.tmp d)=.pointer (some ⟨n,0,none⟩)->aG aI aD V w V' w'->w.heap.size<=n->ba V' w' n (.cells z.cells t (0,0))->Tidy V' w'->
   Loc P main Stop V' (G (S a' (.inRegion ops rest::k)) cs) w'):Loc P main Stop V (G (S a (.inRegion ops (i::rest)::k)) cs) w:=by
 refine F8 (fun n=>.pointer (some ⟨n,0,none⟩)) ho hw hk hd aU hT (fun w₁ _=>⟨?_,?_⟩) K
 ·simp [execOp,aE,Instr.alloc,hz,newVar,newRow]
 ·intro e he;simp [execOp,aE,Instr.alloc,hz,newVar,newRow]at he
theorem pg{v:Value}(ho:ops[i]? =some o)(hw:Region.wanted o (yielded ops a.tmps)=true)(hk:fg P main S)(hd:o.dst=some d)(aU:d<a.tmps.size)(hT:Tidy V w)(aE:o.op=.box t x)(hx:a.eval x=v)
  (K:∀n a' V' w',a'.tmps.size=a.tmps.size->a'.defers=a.defers->(∀j,d≠j->a'.eval (.tmp j)=a.eval (.tmp j))->a'.eval (.tmp d)=.pointer (some ⟨n,0,none⟩)->aG aI aD V w V' w'->w.heap.size<=n->ba V' w' n (.cells v.cells t (0,0))->Tidy V' w'->
   Loc P main Stop V' (G (S a' (.inRegion ops rest::k)) cs) w'):Loc P main Stop V (G (S a (.inRegion ops (i::rest)::k)) cs) w:=by
 refine F8 (fun n=>.pointer (some ⟨n,0,none⟩)) ho hw hk hd aU hT (fun w₁ _=>⟨?_,?_⟩) K
 ·simp [execOp,aE,hx,Instr.box,newVar,newRow]
 ·intro e he;simp [execOp,aE,hx,Instr.box,newVar,newRow]at he
theorem jW{n:Nat}{parts:Array (Nat×Operand)}{cells:Array Value}{ie:TypeInfo}{z:Value}(ho:ops[i]? =some o)(hw:Region.wanted o (yielded ops a.tmps)=true)(hk:fg P main S)(hd:o.dst=some d)(aU:d<a.tmps.size)(hT:Tidy V w)(aE:o.op=.buildSlice t n parts)
  (hu:P.underlying t=some (.slice e))(hie:P.info? e=some ie)(hz:ie.zero=some z)(CV:¬n*ie.size>2^24)(dZ:¬n*ie.size=0)
  (hf:Instr.fill (fun i=>some (i*ie.size,ie.size)) ((Array.range (n*ie.size)).map (z.cells[· % z.cells.size]!)) (parts.map fun(i,x)=>(i,a.eval x)).toList=some cells)
  (K:∀g a' V' w',a'.tmps.size=a.tmps.size->a'.defers=a.defers->(∀j,d≠j->a'.eval (.tmp j)=a.eval (.tmp j))->a'.eval (.tmp d)=.slice (some ⟨g,0,none⟩) n n->aG aI aD V w V' w'->w.heap.size<=g->ba V' w' g (.cells cells e (0,0))->Tidy V' w'->
   Loc P main Stop V' (G (S a' (.inRegion ops rest::k)) cs) w'):Loc P main Stop V (G (S a (.inRegion ops (i::rest)::k)) cs) w:=by
 refine F8 (fun g=>.slice (some ⟨g,0,none⟩) n n) ho hw hk hd aU hT (fun w₁ _=>⟨?_,?_⟩) K
 ·have:=run_buildSlice (P:=P) w₁ t e n (parts.map fun(i,x)=>(i,a.eval x)) cells ie z hu hie hz CV dZ hf;simp only [execOp,aE,Sem.run_bind,this,Result.andThen_ok,Sem.run_pure]
 ·intro ev he;simp [execOp,aE,Instr.buildSlice,run_underlying hu,sizeOf,typeInfo,hie,CV,dZ,zeroValue,hz,newRow]at he;simp at hf;simp [hf]at he
theorem lB{n:Nat}{ie:TypeInfo}{z:Value}{k1 k2:IntKind}(ho:ops[i]? =some o)(hw:Region.wanted o (yielded ops a.tmps)=true)(hk:fg P main S)(hd:o.dst=some d)(aU:d<a.tmps.size)(hT:Tidy V w)(aE:o.op=.makeSlice t x y)(hx:a.eval x=.int k1 (n:Int))(hy:a.eval y=.int k2 (n:Int))
  (hu:P.underlying t=some (.slice e))(hie:P.info? e=some ie)(hz:ie.zero=some z)(CV:n*ie.bytes<=140737488355328)(CW:n<=9223372036854775807)
  (K:∀g a' V' w',a'.tmps.size=a.tmps.size->a'.defers=a.defers->(∀j,d≠j->a'.eval (.tmp j)=a.eval (.tmp j))->a'.eval (.tmp d)=.slice (some ⟨g,0,none⟩) n n->aG aI aD V w V' w'->w.heap.size<=g->ba V' w' g (.cells (madeCells z.cells (n*ie.size)) e (0,0))->Tidy V' w'->
   Loc P main Stop V' (G (S a' (.inRegion ops rest::k)) cs) w'):Loc P main Stop V (G (S a (.inRegion ops (i::rest)::k)) cs) w:=by
 have hb:(ie.bytes:Int)*(n:Int)<=281474976710656:=by rw [←Int.natCast_mul,Nat.mul_comm];omega
 refine F8 (fun g=>.slice (some ⟨g,0,none⟩) n n) ho hw hk hd aU hT (fun w₁ _=>⟨?_,?_⟩) K
 ·have:=run_make (P:=P) w₁ t e ie z hu hie hz k1 k2 n n (by omega) (Int.le_refl _) hb (by omega)
  simp only [Int.toNat_natCast]at this;simp only [execOp,aE,hx,hy,Sem.run_bind,this,Result.andThen_ok,Sem.run_pure]
 ·intro ev he;have h1:=events_make (P:=P) w₁ t e ie z hu hie hz k1 k2 n n (by omega) (Int.le_refl _) hb (by omega) (by simpa using CV) #[]
  have h2:=run_make (P:=P) w₁ t e ie z hu hie hz k1 k2 n n (by omega) (Int.le_refl _) hb (by omega)
  simp only [execOp,aE,hx,hy,Sem.events_bind,h1,h2,Result.evThen_ok,Sem.events_pure]at he;exact absurd he (Array.not_mem_empty _)
theorem alv(ho:ops[i]? =some o)(hw:Region.wanted o (yielded ops a.tmps)=true)(hk:fg P main S)(hd:o.dst=some d)(aU:d<a.tmps.size)(hT:Tidy V w)(aE:o.op=.makeMap t none)
  (K:∀n a' V' w',a'.tmps.size=a.tmps.size->a'.defers=a.defers->(∀j,d≠j->a'.eval (.tmp j)=a.eval (.tmp j))->a'.eval (.tmp d)=.map (some n)->aG aI aD V w V' w'->w.heap.size<=n->ba V' w' n (.map #[] 0)->Tidy V' w'->
   Loc P main Stop V' (G (S a' (.inRegion ops rest::k)) cs) w'):Loc P main Stop V (G (S a (.inRegion ops (i::rest)::k)) cs) w:=by
 refine F8 (fun n=>.map (some n)) ho hw hk hd aU hT (fun w₁ _=>⟨?_,?_⟩) K
 ·simp [execOp,aE,Instr.makeMap]
 ·intro e he;simp [execOp,aE,Instr.makeMap]at he
theorem CX{dir:ChanDir}{ie:TypeInfo}{k1:IntKind}(ho:ops[i]? =some o)(hw:Region.wanted o (yielded ops a.tmps)=true)(hk:fg P main S)(hd:o.dst=some d)(aU:d<a.tmps.size)(hT:Tidy V w)(aE:o.op=.makeChan t x)(hx:a.eval x=.int k1 0)(hu:P.underlying t=some (.chan dir e))(hie:P.info? e=some ie)
  (K:∀n a' V' w',a'.tmps.size=a.tmps.size->a'.defers=a.defers->(∀j,d≠j->a'.eval (.tmp j)=a.eval (.tmp j))->a'.eval (.tmp d)=.chan (some n)->aG aI aD V w V' w'->w.heap.size<=n->ba V' w' n (.chan 0 #[] false 0 0 false)->Tidy V' w'->
   Loc P main Stop V' (G (S a' (.inRegion ops rest::k)) cs) w'):Loc P main Stop V (G (S a (.inRegion ops (i::rest)::k)) cs) w:=by
 refine F8 (fun n=>.chan (some n)) ho hw hk hd aU hT (fun w₁ _=>⟨?_,?_⟩) K
 ·have:=run_makeChan (P:=P) (w:=w₁) hu hie k1 0 (by decide) (by simp)
  simp only [execOp,aE,hx,Sem.run_bind];erw [this];rfl
 ·intro ev he;have h1:=events_makeChan (P:=P) (w:=w₁) hu hie k1 0 (by decide) (by simp) #[]
  have h2:=run_makeChan (P:=P) (w:=w₁) hu hie k1 0 (by decide) (by simp)
  simp only [execOp,aE,hx,Sem.events_bind]at he;erw [h1,h2]at he;simp at he
end
theorem lU{P:Program}{g off:Nat}:∀(vs:List Value) (i:Nat) (w:World) (es:Array Event),(∀j,j<vs.length->(w.cell? ⟨g,off+i+j,none⟩).isSome=true)->(∀j,j<vs.length->w.frozen? ⟨g,off+i+j,none⟩=false)->(∀v∈vs,v.oneCell'=true)->
  ∀e∈(storeCells ⟨g,off,none⟩ vs i).events P w es,e∈es\/∃j,j<vs.length/\e=⟨.cell ⟨g,off+i+j,none⟩,true,false⟩
 |[],_,_,_,_,_,_=>fun e h=>.inl (by simpa [storeCells]using h)
 |v::r,i,w,es,hc,hf,h1=>fun e h=>by
  obtain⟨u,hu⟩:=Option.isSome_iff_exists.1 (hc 0 (by simp))
  have hz:=hf 0 (by simp)
  simp only [Nat.add_zero]at hu hz;have bF:(store ((⟨g,off,none⟩:Addr).add i) v).run P w=.ok () (w.setCell ⟨g,off+i,none⟩ v):=by
   rw [Addr.add_lit,run_store P w _ v _ (h1 v (by simp)),hu]
   simp [hz]
  have gN:(store ((⟨g,off,none⟩:Addr).add i) v).events P w es=es.push ⟨.cell ⟨g,off+i,none⟩,true,false⟩:=by
   rw [Addr.add_lit,events_store P w es _ v _ (h1 v (by simp)),hu]
   simp only [hz,Bool.false_eq_true,if_false];rfl
  simp only [storeCells,Sem.events_bind,bF,gN,Result.evThen_ok]at h;rcases lU r (i+1) _ _ (fun j hj=>by
    rw [World.cell?_setCell_other _ _ _ _ (by simp;omega)]
    have:=hc (j+1) (by simp;omega)
    rwa [show off+i+(j+1)=off+(i+1)+j by omega]at this)
   (fun j hj=>by
    rw [World.frozen?_setCell];have:=hf (j+1) (by simp;omega)
    rwa [show off+i+(j+1)=off+(i+1)+j by omega]at this) (fun x hx=>h1 x (by simp [hx])) e h with h|⟨j,hj,h⟩
  ·rcases Array.mem_push.1 h with h|rfl
   ·exact .inl h
   ·exact .inr ⟨0,by simp,rfl⟩
  ·exact .inr ⟨j+1,by simp;omega,by rw [h];congr 3;omega⟩
section
variable {w:World} {a:Act} {rest:List Nat} {o:Oper} {e:TypeId} {x:Operand} {g off:Nat} {v:Value} {vs:List Value}
theorem Xl(ho:ops[i]? =some o)(hw:Region.wanted o (yielded ops a.tmps)=true)(hk:fg P main S)(hd:o.dst=none)(aE:o.op=.store t x y)(hx:a.eval x=.pointer (some ⟨g,off,none⟩))(hy:a.eval y=v)(hv:v.cells.toList=vs)(hn:∀w,(sizeOf t).run P w=.ok vs.length w)(h1:∀u∈vs,u.oneCell'=true)
  (hV:∀j,j<vs.length->V.has ⟨g,off+j,none⟩)(hc:∀j,j<vs.length->(w.cell? ⟨g,off+j,none⟩).isSome=true)(hf:∀j,j<vs.length->w.frozen? ⟨g,off+j,none⟩=false)
  (K:Loc P main Stop V (G (S a (.inRegion ops rest::k)) cs) (w.setCells g off vs)):Loc P main Stop V (G (S a (.inRegion ops (i::rest)::k)) cs) w:=by
 refine ao1 (fun w=>w.setCells g off vs) ho hw hk hd (fun w₁ hr=>⟨sc g vs off w w₁ hr hV hc,lT g vs off w₁ hV,jh g vs off w₁⟩) (fun w₁ hr=>?_) K;have hc1:∀j,j<vs.length->(w₁.cell? ⟨g,off+0+j,none⟩).isSome=true:=fun j hj=>by rw [Nat.add_zero,hr.oz (hV j hj).oz];exact hc j hj
 have hf1:∀j,j<vs.length->w₁.frozen? ⟨g,off+0+j,none⟩=false:=fun j hj=>by
  rw [Nat.add_zero];obtain⟨u,hu⟩:=Option.isSome_iff_exists.1 (hc j hj);exact(hr.thaw hu).trans (hf j hj)
 have yL:=run_storeCells_cells (P:=P) g off vs 0 w₁ hc1 hf1 h1;have hlen:v.cells.size=vs.length:=by rw [←hv,Array.length_toList]
 have cr:(storeVar t ⟨g,off,none⟩ v).run P w₁=.ok () (w₁.setCells g off vs):=by
  simp [storeVar,hn,hlen,hv];simpa using yL
 have gN:(storeVar t ⟨g,off,none⟩ v).events P w₁ #[]=(storeCells ⟨g,off,none⟩ vs 0).events P w₁ #[]:=by
  simp [storeVar,hn,hlen,hv]
 refine⟨by simp [execOp,aE,hx,hy,Instr.storeAt,Instr.sureAddr,cr],fun e he=>?_⟩
 have he':e∈(storeCells ⟨g,off,none⟩ vs 0).events P w₁ #[]:=by
  rw [←gN];simp [execOp,aE,hx,hy,Instr.storeAt,Instr.sureAddr,cr]at he;exact he
 rcases lU vs 0 w₁ #[] hc1 hf1 h1 e he' with he|⟨j,hj,rfl⟩
 ·exact absurd he (Array.not_mem_empty _)
 ·rw [Nat.add_zero];exact axM (hV j hj)
theorem sd(hV:∀j,j<vs.length->V.has ⟨g,off+j,none⟩):aG (· =g) (fun a=>a.block=g/\off<=a.off/\a.off<off+vs.length) V w V (w.setCells g off vs):=by
 have h:=lT g vs off w hV;refine⟨h.tape,h.output,h.os,h.size,h.kind,fun b _ hb=>pf g vs off w b hb,fun ad _ hA=>World.cell?_setCells_out g vs off w ad fun h1 _=>?_,fun _ h=>h,fun _ h=>.inl h,rfl,rfl,rfl⟩;by_cases h2:ad.off<off
 ·exact .inl h2
 ·exact .inr (Nat.not_lt.1 fun h3=>hA ⟨h1,by omega,h3⟩)
theorem gg{c:Array Value}(ho:ops[i]? =some o)(hw:Region.wanted o (yielded ops a.tmps)=true)(hk:fg P main S)(hd:o.dst=none)(aE:o.op=.store t x y)(hx:a.eval x=.pointer (some ⟨g,off,none⟩))(hy:a.eval y=v)(hv:v.cells.toList=vs)(hn:∀w,(sizeOf t).run P w=.ok vs.length w)(h1:∀u∈vs,u.oneCell'=true)
  (hb:ba V w g (.cells c e (0,0)))(hl:off+vs.length<=c.size)(hT:Tidy V w)
  (K:∀w',aG (· =g) aD V w V w'->ba V w' g (.cells (alu c off vs) e (0,0))->Tidy V w'->w'.heap.size=w.heap.size->Loc P main Stop V (G (S a (.inRegion ops rest::k)) cs) w'):Loc P main Stop V (G (S a (.inRegion ops (i::rest)::k)) cs) w:=by
 have hV:∀j,j<vs.length->V.has ⟨g,off+j,none⟩:=fun _ _=>.inl hb.1;have hW:=sd (w:=w) hV;have Xm:aG (· =g) aD V w V (w.setCells g off vs):=⟨hW.tape,hW.output,hW.os,hW.size,hW.kind,hW.own,fun ad ha _=>hW.cell ad ha fun x=>hT.fV ad ha (x.1▸hb.1),hW.mine,hW.new,rfl,rfl,rfl⟩;refine Xl ho hw hk hd aE hx hy hv hn h1 hV (fun j hj=>?_) (fun j hj=>by simp [World.frozen?,hb.2]) (K _ Xm ⟨hb.1,yu g vs off w c hb.2⟩ (hT.aC Xm) (jh g vs off w))
 have:off+j<c.size:=by omega
 simp [World.cell?,hb.2,this]
theorem I1(ho:ops[i]? =some o)(hw:Region.wanted o (yielded ops a.tmps)=true)(hk:fg P main S)(hd:o.dst=none)(aE:o.op=.store t x y)(hx:a.eval x=.pointer (some ⟨g,off,none⟩))(hy:a.eval y=v)(hv:v.cells.toList=vs)(hn:∀w,(sizeOf t).run P w=.ok vs.length w)(h1:∀u∈vs,u.oneCell'=true)
  (hV:∀j,j<vs.length->V.wc ⟨g,off+j,none⟩/\(w.cell? ⟨g,off+j,none⟩).isSome=true)(hf:∃c e,w.heap[g]? =some (.cells c e (0,0)))(hT:Tidy V w)
  (K:∀w',aG aI (fun a=>a.block=g/\off<=a.off/\a.off<off+vs.length) V w V w'->(∀j u,vs[j]? =some u->Cl V w' ⟨g,off+j,none⟩ u)->Tidy V w'->w'.heap.size=w.heap.size->Loc P main Stop V (G (S a (.inRegion ops rest::k)) cs) w'):Loc P main Stop V (G (S a (.inRegion ops (i::rest)::k)) cs) w:=by
 obtain⟨c,e,hf⟩:=hf;have y7:∀j,j<vs.length->V.has ⟨g,off+j,none⟩:=fun j hj=>.inr (hV j hj).1;by_cases h0:vs.length=0
 ·have:vs=[]:=List.eq_nil_of_length_eq_zero h0;subst this;exact Xl ho hw hk hd aE hx hy hv hn h1 y7 (fun j hj=>absurd hj (Nat.not_lt_zero _)) (fun j hj=>absurd hj (Nat.not_lt_zero _)) (K _ ((aG.refl V w).mono (fun _ h=>h.elim) fun _ h=>h.elim) (fun j u h=>by simp at h) hT rfl)
 ·have dS:¬V.own g:=fun x=>hT.fV _ (.inr (hV 0 (by omega)).1) x
  have hW:=sd (w:=w) y7;have Xm:aG aI (fun a=>a.block=g/\off<=a.off/\a.off<off+vs.length) V w V (w.setCells g off vs):=⟨hW.tape,hW.output,hW.os,hW.size,hW.kind,fun b hb _=>hW.own b hb fun x=>dS (x▸hb),hW.cell,hW.mine,hW.new,rfl,rfl,rfl⟩;refine Xl ho hw hk hd aE hx hy hv hn h1 y7 (fun j hj=>(hV j hj).2) (fun j hj=>by simp [World.frozen?,hf]) (K _ Xm (fun j u hu=>?_) (hT.aC Xm) (jh g vs off w))
  obtain⟨hj,rfl⟩:=List.getElem?_eq_some_iff.1 hu;exact⟨.inr (hV j hj).1,World.cell?_setCells_in g vs off w (fun j hj=>(hV j hj).2) j hj⟩
end
theorem gy{P:Program}{V:View}{w w0:World}{ad:Addr}{size m c:Nat}{vs:List Value}(hl:vs.length=m*size)(hw:∀a:Addr,w.cell? a=w0.cell? a)(h:∀j u,vs[j]? =some u->iJ V w0 (ad.add j) u)(es:Array Event):
  ∀e∈(Builtin.firstCells size m (.slice (some ad) m c)).events P w es,e∈es\/EvQ V e:=fun e he=>by
 have he':e∈(loadCells ad (m*size)).events P w es:=by simpa [Builtin.firstCells]using he
 rcases iq (P:=P) (w₁:=w) (m*size) 0 #[] es (fun j hj=>by rw [Nat.zero_add,hw,(h j vs[j] (List.getElem?_eq_getElem (by omega))).2];rfl) e he' with he|⟨j,hj,rfl⟩
 ·exact .inl he
 ·rw [Nat.zero_add];exact .inr (oB (h j vs[j] (List.getElem?_eq_getElem (by omega))).1)
theorem QK{V:View}{w:World}{g:Nat}{cur cs:Array Value}{e:TypeId}(hg:w.heap[g]? =some (.cells cur e (0,0)))(hV:V.own g)(hs:cs.size=cur.size):ia V w (w.setRow g cs):=by
 have hb:=setRow_heap w g cur cs e _ hg;refine⟨rfl,rfl,.refl _,by simp [World.setRow],fun b c t fr h=>?_,fun a _ ha _=>?_,fun b _ hn _=>setRow_other w g b _ fun x=>hn (x▸hV)⟩
 ·by_cases x:b=g
  ·subst x;rw [hg]at h;cases h;exact⟨cs,hb,hs⟩
  ·exact⟨c,(setRow_other w g b _ x).trans h,rfl⟩
 ·simp only [World.cell?,setRow_other w g a.block _ fun x=>ha (x▸hV)]
theorem kG(V:View)(w:World)(o:Obj):ia V w (w.drew.alloc o):=by
 have h:=nB V w.drew o;exact⟨h.tape,h.output,h.os,h.size,h.kind,h.cells,h.l9⟩
section
variable {w:World} {e:TypeId} {i:TypeInfo} {z v:Value} {size m:Nat} {a:Addr}
theorem alw(ty:TypeId)(ht:P.underlying t=some (.slice e))(hi:P.info? e=some i)(hz:i.zero=some z)(ab5:i.size=size)(hzs:z.cells.size=size)(fO:0<size)
  (cd:w.ownsRow 0 e size v n xs)(hV:∀g,v.ownBlock=some g->V.own g)(hl:news.length=m*size)(vj:∀j u,news[j]? =some u->iJ V w (a.add j) u)(h1:∀u∈news,u.oneCell'=true)
  (CW:n+m<=maxLen)(kH:(n+m)*i.bytes<=140737488355328):
  ∃v' w',(Builtin.append_ #[t,t] ty #[v,.slice (some a) m c]).run P w=.ok v' w'/\ia V w w'/\(∀k,k<w.heap.size->some k≠v.ownBlock->w'.heap[k]? =w.heap[k]?)/\w'.ownsRow 0 e size v' (n+m) (xs++news)/\
   (∀g,v'.ownBlock=some g->v.ownBlock=some g\/(w.heap.size<=g/\g<w'.heap.size))/\∀ev∈(Builtin.append_ #[t,t] ty #[v,.slice (some a) m c]).events P w #[],EvQ V ev:=by
 have CV:n+m<=9223372036854775807:=by simp only [maxLen]at CW;omega
 have CY:∀j u,news[j]? =some u->w.cell? (a.add j)=some u:=fun j u h=>(vj j u h).2;obtain⟨v',w',cr,ir,hgr,_⟩:=run_append_own (P:=P) w 0 t ty e i z size i.bytes ht hi hz ab5 rfl hzs fO v n xs cd a m c news hl CY h1 CW kH (Nat.zero_le _);refine⟨v',w',cr,?_,fun k hk cM=>hgr.block k hk cM,ir,?_,?_⟩;all_goals subst ab5
 ·rcases cd.2 with ⟨rfl,rfl⟩|⟨g,cap,cur,rfl,hbg,hg,hnc,hcm,oe,aBs⟩
  ·by_cases hm:m=0
   ·subst hm;have hn:news=[]:=List.eq_nil_of_length_eq_zero (by simpa using hl)
    subst hn;simp [Builtin.append_,run_underlying ht,sizeOf,typeInfo,hi,Builtin.lenOf,Builtin.firstCells,loadCells,loadCellsFrom]at cr;rw [←cr.2];exact .refl V w
   ·rw [run_append_nil (P:=P) w t ty e i z ht hi hz a m c news hl CY (by omega) (by omega) (by have hb:=kH;simp only [Nat.zero_add]at hb;omega)]at cr
    cases cr;exact kG _ _ _
  ·by_cases vk:n+m<=cap
   ·have ayS:n*i.size+news.length<=cur.size:=by rw [hl,oe,←Nat.add_mul];exact Nat.mul_le_mul_right _ vk
    rw [run_append_room (P:=P) w t ty e i ht hi g n cap cur hg a m c news hl CY h1 vk ayS]at cr;cases cr;refine QK hg (hV g rfl) ?_;simp only [List.size_toArray,List.length_append,List.length_take,List.length_drop,Array.length_toList];omega
   ·rw [run_append_grow (P:=P) w t ty e i z ht hi hz ⟨g,0,none⟩ n cap xs cd.1 (cd.cells (g:=g) rfl) a m c news hl CY (by omega) (by omega) (growslice_fits (by omega) kH)]at cr
    cases cr;exact kG _ _ _
 ·intro g' rj;rcases cd.2 with ⟨rfl,rfl⟩|⟨g,cap,cur,rfl,hbg,hg,hnc,hcm,oe,aBs⟩
  ·by_cases hm:m=0
   ·subst hm;have hn:news=[]:=List.eq_nil_of_length_eq_zero (by simpa using hl)
    subst hn;simp [Builtin.append_,run_underlying ht,sizeOf,typeInfo,hi,Builtin.lenOf,Builtin.firstCells,loadCells,loadCellsFrom]at cr;rw [←cr.1]at rj;cases rj
   ·rw [run_append_nil (P:=P) w t ty e i z ht hi hz a m c news hl CY (by omega) (by omega) (by have hb:=kH;simp only [Nat.zero_add]at hb;omega)]at cr
    cases cr;cases rj;exact .inr ⟨Nat.le_refl _,by rw [World.size_alloc];exact Nat.lt_succ_self _⟩
  ·by_cases vk:n+m<=cap
   ·have ayS:n*i.size+news.length<=cur.size:=by rw [hl,oe,←Nat.add_mul];exact Nat.mul_le_mul_right _ vk
    rw [run_append_room (P:=P) w t ty e i ht hi g n cap cur hg a m c news hl CY h1 vk ayS]at cr;cases cr;exact .inl rj
   ·rw [run_append_grow (P:=P) w t ty e i z ht hi hz ⟨g,0,none⟩ n cap xs cd.1 (cd.cells (g:=g) rfl) a m c news hl CY (by omega) (by omega) (growslice_fits (by omega) kH)]at cr
    cases cr;cases rj;exact .inr ⟨Nat.le_refl _,by rw [World.size_alloc];exact Nat.lt_succ_self _⟩
 ·have ab6:∀{ev:Event},ev∈(#[]:Array Event)->EvQ V ev:=fun h=>absurd h (Array.not_mem_empty _);have room:∀{b:Nat} {w':World} {es:Array Event} {ev:Event},ev∈(askRoom b).events P w' es->ev∈es\/EvQ V ev:=fun h=>(events_askRoom _ _ _ _ h).imp id fun⟨m,hm,hN⟩=>by
   unfold Neutral at hN;subst hN;exact .inr (.inr hm)
  have aYS:∀{b k:Nat} {w':World} {es:Array Event} {ev:Event},ev∈(Builtin.firstCells b k (.slice none 0 0)).events P w' es->ev∈es:=fun h=>by simpa [Builtin.firstCells]using h
  intro ev gN;rcases cd.2 with ⟨rfl,rfl⟩|⟨g,cap,cur,rfl,hbg,hg,hnc,hcm,oe,aBs⟩
  ·by_cases hm:m=0
   ·subst hm;simp [Builtin.append_,run_underlying ht,sizeOf,typeInfo,hi,Builtin.lenOf]at gN;exact(gy hl (fun _=>rfl) vj _ ev gN).elim ab6 id
   ·have Xn:¬(9223372036854775807<(m:Int)):=by omega
    have ao5:¬(281474976710656<Builtin.nextslicecap m 0*i.bytes):=by rw [nextslicecap_zero (by omega)];simp only [Nat.zero_add]at kH;omega
    have hf:=run_firstCells_some (P:=P) w.drew i.size m a m c news hl (by simpa using CY)
    simp [Builtin.append_,run_underlying ht,sizeOf,typeInfo,zeroValue,hi,hz,Builtin.lenOf,hm,Xn,ao5,Question.forced,run_firstCells_none,hf,newRow]at gN;rcases gy (w:=w.drew) (w0:=w) hl (fun _=>rfl) vj _ ev gN with h|h
    ·exact(room (aYS h)).elim ab6 id
    ·exact h
  ·have holds:∀j u,xs[j]? =some u->w.cell? ((⟨g,0,none⟩:Addr).add j)=some u:=cd.cells (g:=g) rfl;have Hp:∀j u,xs[j]? =some u->iJ V w ((⟨g,0,none⟩:Addr).add j) u:=fun j u h=>⟨.inl (by rw [addBlock];exact hV g rfl),holds j u h⟩
   by_cases vk:n+m<=cap
   ·have ayS:n*i.size+news.length<=cur.size:=by rw [hl,oe,←Nat.add_mul];exact Nat.mul_le_mul_right _ vk
    have hf:=run_firstCells_some (P:=P) w i.size m a m c news hl CY;simp [Builtin.append_,run_underlying ht,sizeOf,typeInfo,hi,Builtin.lenOf,vk,hf,Addr.add_lit]at gN;rcases lU (P:=P) (g:=g) (off:=n*i.size) news 0 w _ (fun j hj=>by
     have:n*i.size+0+j<cur.size:=by omega
     simp [World.cell?,hg];omega) (fun j hj=>by simp [World.frozen?,hg]) h1 ev gN with h|⟨j,hj,rfl⟩
    ·exact(gy hl (fun _=>rfl) vj _ ev h).elim ab6 id
    ·exact He (hV g rfl)
   ·have hn:¬(n+m<=cap):=vk;have Xn:¬(9223372036854775807<((n:Int)+(m:Int))):=by omega
    have ao5:¬(281474976710656<Builtin.nextslicecap (n+m) cap*i.bytes):=by have:=growslice_fits (need:=n+m) (old:=cap) (bytes:=i.bytes) (by omega) kH;omega
    have hf:=run_firstCells_some (P:=P) w.drew i.size m a m c news hl (by simpa using CY)
    have hfo:=run_firstCells_some (P:=P) w.drew i.size n ⟨g,0,none⟩ n cap xs cd.1 (by simpa using holds)
    simp [Builtin.append_,run_underlying ht,sizeOf,typeInfo,zeroValue,hi,hz,Builtin.lenOf,hn,Xn,ao5,Question.forced,hf,hfo,newRow]at gN;rcases gy (w:=w.drew) (w0:=w) hl (fun _=>rfl) vj _ ev gN with h|h
    ·rcases gy (w:=w.drew) (w0:=w) (c:=cap) cd.1 (fun _=>rfl) Hp _ ev h with h|h
     ·exact(room h).elim ab6 id
     ·exact h
    ·exact h
end
def Row(V:View)(w:World)(e:TypeId)(size:Nat)(v:Value)(n:Nat)(xs:List Value):Prop:=w.ownsRow 0 e size v n xs/\∀g,v.ownBlock=some g->V.own g
section
variable {w:World} {e:TypeId} {size:Nat} {v:Value}
theorem ew{w w':World}(h:w.ownsRow 0 e size v n xs)(k:∀g,v.ownBlock=some g->w'.heap[g]? =w.heap[g]?):w'.ownsRow 0 e size v n xs:=by
 refine⟨h.1,h.2.imp id ?_⟩;rintro⟨g,cap,cur,rfl,h1,h2,h3⟩;exact⟨g,cap,cur,rfl,h1,(k g rfl).trans h2,h3⟩
theorem Row.aC(h:Row V w e size v n xs)(k:aG B A V w V' w')(hB:∀g,v.ownBlock=some g->¬B g):Row V' w' e size v n xs:=
 ⟨ew h.1 fun g hg=>k.own g (h.2 g hg) (hB g hg),fun g hg=>k.mine g (h.2 g hg)⟩
theorem Row.go(h:Row V w e size v n xs)(k:aG aI A V w V' w'):Row V' w' e size v n xs:=h.aC k fun _ _=>id
theorem Row.rely(h:Row V w e size v n xs)(k:aP V w w'):Row V w' e size v n xs:=⟨ew h.1 fun g hg=>k.own g (h.2 g hg),h.2⟩
theorem Row.nil(V:View)(w:World)(e:TypeId)(size:Nat):Row V w e size (.slice none 0 0) 0 []:=⟨World.ownsRow_nil w 0 e size,fun g h=>by cases h⟩
end
section
variable {w:World} {a:Act} {d:Nat} {rest:List Nat} {o:Oper} {e:TypeId} {x:Operand} {v z:Value} {ie:TypeInfo} {size m:Nat}
theorem QL(ho:ops[i]? =some o)(hw:Region.wanted o (yielded ops a.tmps)=true)(hk:fg P main S)(hd:o.dst=some d)(aU:d<a.tmps.size)(hT:Tidy V w)(aE:o.op=.call {callee:=.builtin .append,args:=#[x,y],argTypes:=#[t,t]})(hx:a.eval x=v)(hy:a.eval y=.slice (some ad) m c)
  (ht:P.underlying t=some (.slice e))(hi:P.info? e=some ie)(hz:ie.zero=some z)(ab5:ie.size=size)(hzs:z.cells.size=size)(fO:0<size)
  (ir:Row V w e size v n xs)(hl:news.length=m*size)(vj:∀j u,news[j]? =some u->iJ V w (ad.add j) u)(h1:∀u∈news,u.oneCell'=true)(CW:n+m<=maxLen)(kH:(n+m)*ie.bytes<=140737488355328)
  (K:∀v' a' V' w',a'.tmps.size=a.tmps.size->a'.defers=a.defers->(∀j,d≠j->a'.eval (.tmp j)=a.eval (.tmp j))->a'.eval (.tmp d)=v'->aG (fun b=>some b=v.ownBlock) aD V w V' w'->Row V' w' e size v' (n+m) (xs++news)->
   (∀g,v'.ownBlock=some g->v.ownBlock=some g\/w.heap.size<=g)->Tidy V' w'->Loc P main Stop V' (G (S a' (.inRegion ops rest::k)) cs) w'):Loc P main Stop V (G (S a (.inRegion ops (i::rest)::k)) cs) w:=by
 refine ao0 ho hw hk fun w₁ hr K' E7=>?_;have aBt:=ir.rely hr;obtain⟨v',w',cr,IZ,hold,cd,hblk,gN⟩:=alw (P:=P) (V:=V) (w:=w₁) (a:=ad) (c:=c) o.type ht hi hz ab5 hzs fO aBt.1 aBt.2 hl (fun j u h=>(vj j u h).rely hr) h1 CW kH;refine uponK_append x y t aE hx hy cr ?_;have u:=bj a o.dst v';have ab7:∀ad:Addr,V.ro ad\/V.wc ad->some ad.block≠v.ownBlock:=fun ad ha h=>hT.fV ad ha (ir.2 _ h.symm);have anj:∀ad:Addr,V.ro ad\/V.wc ad->ad.block<w₁.heap.size:=fun ad ha=>Nat.lt_of_lt_of_le (ha.elim (hT.low.ro ad) (hT.low.wc ad)) hr.size;have hW:aG (fun b=>some b=v.ownBlock) aD V w (V.plus w₁ w') w':=by
  refine aG.after hr (ri IZ (fun b hb hn=>hold b (Nat.lt_of_lt_of_le (hT.low.own b hb) hr.size) hn) fun ad ha _=>?_);simp only [World.cell?,hold _ (anj ad ha) (ab7 ad ha)]
 refine E7 _ _ IZ (fun ev he=>?_) (K v' _ _ _ u.size u.defers (fun j hj=>u.ne j (by rw [hd];intro h;exact hj (Option.some.inj h))) (u.eq d hd aU) hW ⟨cd,fun g hg=>?_⟩ (fun g hg=>(hblk g hg).imp id fun x=>Nat.le_trans hr.size x.1) (hT.aC hW))
 ·rw [events_append_op x y t aE hx hy]at he;rcases gN ev he with ⟨a,wr,x,y⟩|⟨r,wr,x,y⟩|x
  ·exact .inl ⟨a,wr,x,y.imp .inl id⟩
  ·exact .inr (.inl ⟨r,wr,x,.inl y⟩)
  ·exact .inr (.inr x)
 ·rcases hblk g hg with x|x
  ·exact .inl (ir.2 g x)
  ·exact .inr x
end
def iu(es:List MapEntry):Prop:=∀e∈es,∃n,e.key=.int .i64 n
def QM:Value->Int->Bool
 |.int .i64 m,n=>n==m
 |_,_=>false
def kI:List MapEntry->Int->Option Value
 |[],_=>none
 |e::es,n=>if QM e.key n then some e.val else kI es n
theorem nD{n:Int}:∀(es:List MapEntry) (i:Nat),iu es->∃r:Option (Nat×Value),Instr.findNow (.int .i64) (.int .i64 n) es i=some r/\r.map (·.2)=kI es n
 |[],i,_=>⟨none,rfl,rfl⟩
 |e::es,i,h=>by
  obtain⟨m,hm⟩:=h e (List.mem_cons_self ..);obtain⟨r,h1,h2⟩:=nD (n:=n) es (i+1) fun x hx=>h x (List.mem_cons_of_mem _ hx);cases e1:(n==m)with
  |true=>exact⟨some (i,e.val),by simp [Instr.findNow,Instr.sameNow,hm,e1],by simp [kI,hm,QM,e1]⟩
  |false=>exact⟨r,by simp [Instr.findNow,Instr.sameNow,hm,e1,h1],by simp [kI,hm,QM,e1,h2]⟩
theorem alx{es:List MapEntry}{m:Int}{v:Value}{c:Nat}(n:Int):kI (es++[{key:=.int .i64 m,val:=v,born:=c}]) n=if(kI es n).isSome then kI es n else if n==m then some v else none:=by
 induction es with
 |nil=>cases h:(n==m)<;>simp [kI,QM,h]
 |cons e es ih=>
  cases h:QM e.key n<;>simp [kI,h,ih]
theorem iu.push{es:List MapEntry}(h:iu es){m:Int}{v:Value}{c:Nat}:iu (es++[{key:=.int .i64 m,val:=v,born:=c}]):=fun e he=>by
 rcases List.mem_append.1 he with he|he
 ·exact h e he
 ·simp at he;subst he;exact⟨m,rfl⟩
section
variable {w:World} {n:Int}
theorem iv(h:w.heap[r]? =some (.map es c))(evs:Array Event):(getObj r).events P w evs=evs.push ⟨.obj r,false,false⟩:=by
 simp [getObj,Sem.events,Sem.runT,h,Obj.isChan,-Sem.runT_eq]
theorem run_getObj_map(h:w.heap[r]? =some (.map es c)):(getObj r).run P w=.ok (.map es c) w:=by simp [getObj,Sem.run,h]
theorem vn(h:w.heap[r]? =some (.map es c))(o:Obj)(ho:o.isChan=false)(evs:Array Event):(setObj r o).events P w evs=evs.push ⟨.obj r,true,false⟩:=by
 simp [setObj,Sem.events,Sem.runT,h,ho,-Sem.runT_eq]
theorem run_setObj_map(h:w.heap[r]? =some (.map es c))(o:Obj):(setObj r o).run P w=.ok () {w with heap:=w.heap.setIfInBounds r o}:=by simp [setObj,Sem.run,h]
theorem jX(hk:P.underlying kt=some (.int .i64))(b:Bool)(v:Value):(Instr.checkKey b 10000 kt v).run P w=.ok () w/\∀es,(Instr.checkKey b 10000 kt v).events P w es=es:=by
 have key:∀m:Nat,(Instr.checkKey b (m+1) kt v).run P w=.ok () w/\∀es,(Instr.checkKey b (m+1) kt v).events P w es=es:=fun m=>by
  constructor
  ·simp [Instr.checkKey,run_underlying hk]
  ·simp [Instr.checkKey,run_underlying hk]
 exact key 9999
theorem aly(hu:P.underlying t=some (.map kt et))(hk:P.underlying kt=some (.int .i64)){z:Value}(hz:∀w,(zeroValue et).run P w=.ok z w)(h:w.heap[r]? =some (.map es c))(hi:iu es.toList):
  (Instr.lookup t (.map (some r)) (.int .i64 n) true).run P w=.ok (.tuple #[(kI es.toList n).getD z,.bool (kI es.toList n).isSome]) w/\(Instr.lookup t (.map (some r)) (.int .i64 n) true).events P w #[]=#[⟨.obj r,false,false⟩]:=by
 obtain⟨x,h1,h2⟩:=nD (n:=n) es.toList 0 hi;obtain⟨k1,k2⟩:=jX (P:=P) (w:=w) hk es.isEmpty (.int .i64 n);obtain⟨k3,k4⟩:=jX (P:=P) (w:=w) hk false (.int .i64 n);cases x with
 |none=>
  rw [←h2];constructor
  ·simp [Instr.lookup,run_underlying hu,run_getObj_map h,k1,k2,k3,k4,Instr.findKey,run_underlying hk,h1,hz]
  ·simp [Instr.lookup,run_underlying hu,run_getObj_map h,iv h,k1,k2,k3,k4,Instr.findKey,run_underlying hk,h1,hz]
 |some x=>
  rw [←h2];constructor
  ·simp [Instr.lookup,run_underlying hu,run_getObj_map h,k1,k2,k3,k4,Instr.findKey,run_underlying hk,h1]
  ·simp [Instr.lookup,run_underlying hu,run_getObj_map h,iv h,k1,k2,k3,k4,Instr.findKey,run_underlying hk,h1]
theorem I2{v:Value}(hu:P.underlying t=some (.map kt et))(hk:P.underlying kt=some (.int .i64))(h:w.heap[r]? =some (.map es c))(hi:iu es.toList)(hn:kI es.toList n=none):
  (Instr.mapUpdate t (.map (some r)) (.int .i64 n) v).run P w=.ok () {w with heap:=w.heap.setIfInBounds r (.map (es.push {key:=.int .i64 n,val:=v,born:=c}) (c+1))}/\
   (Instr.mapUpdate t (.map (some r)) (.int .i64 n) v).events P w #[]=#[⟨.obj r,false,false⟩,⟨.obj r,true,false⟩]:=by
 obtain⟨x,h1,h2⟩:=nD (n:=n) es.toList 0 hi;obtain⟨k1,k2⟩:=jX (P:=P) (w:=w) hk es.isEmpty (.int .i64 n);obtain⟨k3,k4⟩:=jX (P:=P) (w:=w) hk false (.int .i64 n);rw [hn]at h2;cases x with
 |some x=>cases h2
 |none=>
  constructor
  ·simp [Instr.mapUpdate,run_underlying hu,run_getObj_map h,k1,k2,k3,k4,Instr.findKey,run_underlying hk,h1,run_setObj_map h]
  ·simp [Instr.mapUpdate,run_underlying hu,run_getObj_map h,iv h,k1,k2,k3,k4,Instr.findKey,run_underlying hk,h1,vn h (.map _ _) rfl]
end
section
variable {w:World} {a:Act} {rest:List Nat} {o:Oper} {x:Operand} {n:Int}
theorem aGE{zv:Value}(aE:o.op=.lookup t x y true)(hx:a.eval x=.map (some r))(hy:a.eval y=.int .i64 n)(hu:P.underlying t=some (.map kt et))(hk:P.underlying kt=some (.int .i64))(hz:∀w,(zeroValue et).run P w=.ok zv w)(hb:ba V w r (.map es c))(hi:iu es.toList):
  Yl P V w o a (.tuple #[(kI es.toList n).getD zv,.bool (kI es.toList n).isSome]):=fun w₁ hr=>by
 obtain⟨e1,e2⟩:=aly (P:=P) (w:=w₁) (n:=n) hu hk hz (hb.rely hr).2 hi;refine⟨by simp [execOp,aE,hx,hy,e1],fun e he=>?_⟩
 simp [execOp,aE,hx,hy,e1,e2]at he;subst he;exact .inr (.inl ⟨r,false,rfl,hb.1⟩)
theorem ao6{v:Value}(ho:ops[i]? =some o)(hw:Region.wanted o (yielded ops a.tmps)=true)(hk:fg P main S)(hd:o.dst=none)(aE:o.op=.mapUpdate t x y z)(hx:a.eval x=.map (some r))(hy:a.eval y=.int .i64 n)(hz:a.eval z=v)(hu:P.underlying t=some (.map kt et))(hkt:P.underlying kt=some (.int .i64))
  (hb:ba V w r (.map es c))(hi:iu es.toList)(hn:kI es.toList n=none)(hT:Tidy V w)
  (K:∀w',aG (· =r) aD V w V w'->ba V w' r (.map (es.push {key:=.int .i64 n,val:=v,born:=c}) (c+1))->Tidy V w'->w'.heap.size=w.heap.size->Loc P main Stop V (G (S a (.inRegion ops rest::k)) cs) w'):
  Loc P main Stop V (G (S a (.inRegion ops (i::rest)::k)) cs) w:=by
 have aU:=hb.lt;have key:∀u:World,u.heap[r]? =some (.map es c)->ia V u {u with heap:=u.heap.setIfInBounds r (.map (es.push {key:=.int .i64 n,val:=v,born:=c}) (c+1))}:=fun u hu'=>by
  have jU:=(Array.getElem?_eq_some_iff.1 hu').1;refine⟨rfl,rfl,.refl _,by simp,fun g cs e fr h=>?_,fun ad _ ha _=>?_,fun g _ hg _=>?_⟩
  ·have:r≠g:=fun e=>by subst e;rw [hu']at h;cases h
   exact⟨cs,by simp only;rw [Array.getElem?_setIfInBounds_ne this];exact h,rfl⟩
  ·have:r≠ad.block:=fun e=>ha (e▸hb.1);simp only [World.cell?];rw [Array.getElem?_setIfInBounds_ne this]
  ·have:r≠g:=fun e=>hg (e▸hb.1);simp only;rw [Array.getElem?_setIfInBounds_ne this]
 have hT0:=key w hb.2;have hW:aG (· =r) aD V w V {w with heap:=w.heap.setIfInBounds r (.map (es.push {key:=.int .i64 n,val:=v,born:=c}) (c+1))}:=by
  refine⟨rfl,rfl,.refl _,hT0.size,hT0.kind,fun g _ hg=>?_,fun ad ha _=>?_,fun _ h=>h,fun _ h=>.inl h,rfl,rfl,rfl⟩
  ·simp only;rw [Array.getElem?_setIfInBounds_ne fun e=>hg e.symm]
  ·have:r≠ad.block:=fun e=>hT.fV ad ha (e▸hb.1);simp only [World.cell?];rw [Array.getElem?_setIfInBounds_ne this]
 refine ao1 (fun w=>{w with heap:=w.heap.setIfInBounds r (.map (es.push {key:=.int .i64 n,val:=v,born:=c}) (c+1))}) ho hw hk hd (fun w₁ hr=>⟨?_,key w₁ (hb.rely hr).2,by simp⟩) (fun w₁ hr=>?_) (K _ hW ⟨hb.1,Array.getElem?_setIfInBounds_self_of_lt aU⟩ (hT.aC hW) (by simp))
 ·refine⟨hr.tape,hr.output,hr.os,by simpa using hr.size,fun g cs e fr h=>?_,fun g hg=>?_,fun ad ha=>?_⟩
  ·have:r≠g:=fun e=>by subst e;simp only [Array.getElem?_setIfInBounds_self_of_lt aU]at h;cases h
   simp only at h⊢;rw [Array.getElem?_setIfInBounds_ne this]at h⊢;exact hr.kind _ _ _ _ h
  ·by_cases e:r=g
   ·subst e;simp only;rw [Array.getElem?_setIfInBounds_self_of_lt aU,Array.getElem?_setIfInBounds_self_of_lt (Nat.lt_of_lt_of_le aU hr.size)]
   ·simp only;rw [Array.getElem?_setIfInBounds_ne e,Array.getElem?_setIfInBounds_ne e];exact hr.own g hg
  ·have:r≠ad.block:=fun e=>hT.fV ad ha (e▸hb.1);have:=hr.cell ad ha;simp only [World.cell?]at this⊢;rw [Array.getElem?_setIfInBounds_ne (by assumption),Array.getElem?_setIfInBounds_ne (by assumption)];exact this
 ·obtain⟨e1,e2⟩:=I2 (P:=P) (w:=w₁) (n:=n) (v:=v) hu hkt (hb.rely hr).2 hi hn;refine⟨by simp [execOp,aE,hx,hy,hz,e1],fun e he=>?_⟩
  simp [execOp,aE,hx,hy,hz,e1,e2]at he;rcases he with rfl|rfl
  ·exact .inr (.inl ⟨r,false,rfl,hb.1⟩)
  ·exact .inr (.inl ⟨r,true,rfl,hb.1⟩)
end
def fW(o:Obj):Prop:=∀c e fr,o≠.cells c e fr
def put(w:World)(r:Nat)(o:Obj):World:={w with heap:=w.heap.setIfInBounds r o}
section
variable {w:World} {o o0:Obj}
theorem ji{b:Nat}(h:b≠r):(put w r o).heap[b]? =w.heap[b]? :=Array.getElem?_setIfInBounds_ne fun e=>h e.symm
theorem vp(h:r<w.heap.size):(put w r o).heap[r]? =some o:=Array.getElem?_setIfInBounds_self_of_lt h
theorem fL:(put w r o).heap.size=w.heap.size:=Array.size_setIfInBounds ..
theorem pj(hV:V.own r)(h0:w.heap[r]? =some o0)(nc:fW o0):ia V w (put w r o):=by
 refine⟨rfl,rfl,.refl _,Nat.le_of_eq fL.symm,fun g cs e fr h=>?_,fun ad _ ha _=>?_,fun g _ hg _=>ji fun e=>hg (e▸hV)⟩
 ·have:g≠r:=fun x=>by subst x;rw [h0]at h;cases h;exact nc _ _ _ rfl
  exact⟨cs,(ji this).trans h,rfl⟩
 ·have e:ad.block≠r:=fun e=>ha (e▸hV);simp only [World.cell?,ji (o:=o) (w:=w) e]
theorem jB(hb:ba V w r o0)(nc:fW o0)(hT:Tidy V w):aG (· =r) aD V w V (put w r o):=by
 have h:=pj (o:=o) hb.1 hb.2 nc;refine⟨rfl,rfl,.refl _,h.size,h.kind,fun g _ hg=>ji hg,fun ad ha _=>?_,fun _ h=>h,fun _ h=>.inl h,rfl,rfl,rfl⟩;have e:ad.block≠r:=fun e=>hT.fV ad ha (e▸hb.1);simp only [World.cell?,ji (o:=o) (w:=w) e]
theorem vq(hr:aP V w w₁)(hb:ba V w r o0)(nc:fW o)(hT:Tidy V w):aP V (put w r o) (put w₁ r o):=by
 refine⟨hr.tape,hr.output,hr.os,by rw [fL,fL];exact hr.size,fun g cs e fr h=>?_,fun g hg=>?_,fun ad ha=>?_⟩
 ·have:g≠r:=fun x=>by subst x;rw [vp hb.lt]at h;cases h;exact nc _ _ _ rfl
  rw [ji this]at h⊢;exact hr.kind _ _ _ _ h
 ·by_cases e:g=r
  ·subst e;rw [vp hb.lt,vp (hb.rely hr).lt]
  ·rw [ji e,ji e];exact hr.own g hg
 ·have e:ad.block≠r:=fun e=>hT.fV ad ha (e▸hb.1);have:=hr.cell ad ha;simp only [World.cell?]at this⊢;rw [ji e,ji e];exact this
end
theorem dO{P:Program}{w:World}{r:Nat}{o:Obj}(h:w.heap[r]? =some o)(ho:o.isChan=false)(hc:fW o)(evs:Array Event):(getObj r).run P w=.ok o w/\(getObj r).events P w evs=evs.push ⟨.obj r,false,false⟩:=by
 cases o with
 |cells c e fr=>exact absurd rfl (hc c e fr)
 |chan _ _ _ _ _ _=>cases ho
 |_=>constructor<;>simp [getObj,Sem.run,Sem.events,Sem.runT,h,Obj.isChan,-Sem.runT_eq]
theorem ft{P:Program}{w:World}{r:Nat}{o o':Obj}(h:w.heap[r]? =some o)(hc:fW o)(ho:o'.isChan=false)(evs:Array Event):(setObj r o').run P w=.ok () (put w r o')/\(setObj r o').events P w evs=evs.push ⟨.obj r,true,false⟩:=by
 cases o with
 |cells c e fr=>exact absurd rfl (hc c e fr)
 |_=>constructor<;>simp [setObj,put,Sem.run,Sem.events,Sem.runT,h,ho,-Sem.runT_eq]
theorem jY{V:View}{r:Nat}{wr:Bool}(h:V.own r):EvQ V ⟨.obj r,wr,false⟩:=.inr (.inl ⟨r,wr,rfl,h⟩)
theorem aG.QN{V:View}{w:World}(hT:Tidy V w)(o1 o2:Obj):ia V w ((w.alloc o1).alloc o2):=by
 have h1:=nB V w o1;have h2:=nB V (w.alloc o1) o2;refine CU h1 h2 fun b hx he c e fr hh=>hx c e fr (he.trans hh)
section
variable {w:World} {a:Act} {l:Nat}
theorem QO{f:Operand}{ps:Array Tmp}{assign body c:Code}{gf:FuncId}{lb:Array Value}{fn:Func}(hk:b.kind≠.early)(hT:Tidy V w)(hf:a.eval f=.func (.func gf) #[] lb)(qY:P.funcs[gf]? =some fn)(jq:(fn.name== "runtime.NumGoroutine")=false)(hb:fn.body=some c)
  (K:∀D l V' w',aG aI aD V w V' w'->ba V' w' D (.deferred (some []))->ba V' w' l (.loop {state:=.ready,pending:=none,fn:=b.fn,tmps:=a.tmps,params:=ps,assign,body,defers:=D})->D≠l->w.heap.size<=D->w.heap.size<=l->Tidy V' w'->
   Loc P main Stop V' (G ((base gf).at {tmps:=(#[.func (.yield l) #[] #[]]++lb)++Array.replicate (fn.ntmps-(#[Value.func (.yield l) #[] #[]]++lb).size) undef,defers:=[]} [.code c])
    (b.at {a with defers:={target:=.collected D,args:=#[]}::a.defers} (.inRangeFunc l::k)::cs)) w'):
  Loc P main Stop V (G (b.at a (.code (.rangeFunc f ps assign body)::k)) cs) w:=by
 refine Loc.step rfl fun w₁ hr=>?_;have h1:¬fn.name= "runtime.NumGoroutine" :=by simpa using jq
 have hf':Frame.eval {fn:=b.fn,tmps:=a.tmps,todo:=.inRangeFunc (w₁.heap.size+1)::k,defers:={target:=.collected w₁.heap.size,args:=#[]}::a.defers,mode:=.run,kind:=b.kind} f=.func (.func gf) #[] lb:=by
  rw [←hf];cases f<;>rfl
 have IZ:=aG.QN (hT.aC (.bk hr)) (.deferred (some [])) (.loop {state:=.ready,pending:=none,fn:=b.fn,tmps:=a.tmps,params:=ps,assign,body,defers:=w₁.heap.size});obtain⟨g',rj⟩:∃g':Nat->Nat->Goroutine,g'=fun D l=>G ((base gf).at {tmps:=(#[.func (.yield l) #[] #[]]++lb)++Array.replicate (fn.ntmps-(#[Value.func (.yield l) #[] #[]]++lb).size) undef,defers:=[]} [.code c])
    (b.at {a with defers:={target:=.collected D,args:=#[]}::a.defers} (.inRangeFunc l::k)::cs):=⟨_,rfl⟩
 have key:stepG P main (G (b.at a (.code (.rangeFunc f ps assign body)::k)) cs) w₁=.go (g' w₁.heap.size (w₁.heap.size+1)) ((w₁.alloc (.deferred (some []))).alloc (.loop {state:=.ready,pending:=none,fn:=b.fn,tmps:=a.tmps,params:=ps,assign,body,defers:=w₁.heap.size})) #[]:=by
  rw [rj];simp only [];rw [←enter_at _ qY hb];have hc:∀(fr:Frame) (v:Value),fr.eval (.const v)=v:=fun _ _=>rfl;simp [G,stepG,stepG.exec,Frame.at,Instr.enterLoop,stepG.apply,resolve,hf',Deferred.ofValue,invoke,callFunc,qY,h1,hb,seen_none,GStep.after,hc]
 have e1:=nA w₁ (.deferred (some []));have e2:=nA (w₁.alloc (.deferred (some []))) (.loop {state:=.ready,pending:=none,fn:=b.fn,tmps:=a.tmps,params:=ps,assign,body,defers:=w₁.heap.size});have hT1:=hT.aC (.bk hr);have old:∀g,g<w₁.heap.size->((w₁.alloc (.deferred (some []))).alloc (.loop {state:=.ready,pending:=none,fn:=b.fn,tmps:=a.tmps,params:=ps,assign,body,defers:=w₁.heap.size})).heap[g]? =w₁.heap[g]? :=fun g hg=>(alloc_old _ _ (by omega)).trans (alloc_old _ _ hg)
 have zx:aG aI aD V w₁ (V.plus w₁ ((w₁.alloc (.deferred (some []))).alloc (.loop {state:=.ready,pending:=none,fn:=b.fn,tmps:=a.tmps,params:=ps,assign,body,defers:=w₁.heap.size}))) ((w₁.alloc (.deferred (some []))).alloc (.loop {state:=.ready,pending:=none,fn:=b.fn,tmps:=a.tmps,params:=ps,assign,body,defers:=w₁.heap.size})):=by
  refine ri IZ (fun g hg _=>old g (hT1.low.own g hg)) fun ad ha _=>?_;simp only [World.cell?,old ad.block (ha.elim (hT1.low.ro ad) (hT1.low.wc ad))]
 refine⟨_,_,_,V.plus w₁ _,key,IZ.eY (fun e h=>absurd h (Array.not_mem_empty _)),?_⟩;subst rj;refine K w₁.heap.size (w₁.heap.size+1) _ _ (.after hr zx) ⟨.inr ⟨Nat.le_refl _,by omega⟩,(alloc_old _ _ (by omega)).trans (xJ _ _)⟩ ⟨.inr ⟨by omega,by omega⟩,by rw [←e1];exact xJ _ _⟩ (by omega) hr.size (Nat.le_succ_of_le hr.size) (hT1.aC zx)
theorem ayT{S:Act->List Item->Frame}{ops:Array Oper}{i:Nat}{rest:List Nat}{o:Oper}{x:Operand}{xs:Array Operand}{gY:Array TypeId}{r:Loop}(hS:fg P main S)(jf:∀(a:Act) k,(S a k).eval=a.eval/\(S a k).kind≠.early/\(S a k).todo=k)(bF:∀(a:Act) k cs w s,ops[i]? =some o->Region.wanted o (yielded ops a.tmps)=true->(∀c,o.op≠.defer c)->s=execOp a.eval o->stepG P main (G (S a (.inRegion ops (i::rest)::k)) cs) w=stepG.apply P true (S a (.inRegion ops (i::rest)::k)) cs none s w)
  (ho:ops[i]? =some o)(hw:Region.wanted o (yielded ops a.tmps)=true)(aE:o.op=.call {callee:=.value x,args:=xs,argTypes:=gY})(hx:a.eval x=.func (.yield l) #[] #[])(hb:ba V w l (.loop r))(fO:xs.size=r.params.size)
  (K:Loc P main Stop V (G (jO (base r.fn) l {tmps:=(r.params.zip (xs.map a.eval)).foldl (fun t (p,v)=>t.setIfInBounds p v) r.tmps,defers:=[]} [.code r.assign,.beginRound,.code r.body]) (S a (.inRegion ops (i::rest)::k)::cs)) w):
  Loc P main Stop V (G (S a (.inRegion ops (i::rest)::k)) cs) w:=by
 refine Loc.step rfl fun w₁ hr=>?_;obtain⟨e1,e2⟩:=dO (P:=P) (hb.rely hr).2 rfl (fun _ _ _ h=>by cases h) #[]
 have cr:(execOp a.eval o).run P w₁=.ok (.round l r.fn ((r.params.zip (xs.map a.eval)).foldl (fun t (p,v)=>t.setIfInBounds p v) r.tmps) r.assign r.body) w₁:=by
  simp [execOp,aE,resolve,hx,Deferred.ofValue,invoke,Instr.yield,Instr.getLoop,e1,fO]
 have gN:(execOp a.eval o).events P w₁ #[]=#[⟨.obj l,false,false⟩]:=by
  simp [execOp,aE,resolve,hx,Deferred.ofValue,invoke,Instr.yield,Instr.getLoop,e1,e2,fO]
 have FV:=bF a k cs w₁ _ ho hw (fun c hc=>by rw [aE]at hc;cases hc) rfl
 obtain⟨h1,h2,h3⟩:=jf a (.inRegion ops (i::rest)::k);have cm:((S a (.inRegion ops (i::rest)::k)).kind==CallKind.early)=false:=by simpa using h2
 refine⟨_,w₁,seen P (S a (.inRegion ops (i::rest)::k)).fn ((execOp a.eval o).events P w₁ #[]),V,?_,?_,K.rely hr⟩
 ·rw [FV];simp [stepG.apply,cr,cm,h3,GStep.after,G,jO,Frame.round,base]
 ·have F7:=(ia.refl V w₁).eY (es:=seen P (S a (.inRegion ops (i::rest)::k)).fn ((execOp a.eval o).events P w₁ #[])) fun e hx=>by
   have:=mem_seen hx;rw [gN]at this;simp at this;subst this;rw [View.bB V rfl];exact jY hb.1
  rwa [View.bB V rfl]at F7
theorem I3{r:Loop}(hk:b.kind≠.early)(hT:Tidy V w)(hb:ba V w l (.loop r))(nf:r.state=.ready)
  (K:∀w',aG (· =l) aD V w V w'->ba V w' l (.loop {r with state:=.busy})->Tidy V w'->Loc P main Stop V (G (jO b l a k) cs) w'):
  Loc P main Stop V (G (jO b l a (.beginRound::k)) cs) w:=by
 refine Loc.step rfl fun w₁ hr=>?_;have nc:fW (.loop r):=fun _ _ _ h=>by cases h
 have nc':fW (.loop {r with state:=.busy}):=fun _ _ _ h=>by cases h
 obtain⟨e1,e2⟩:=dO (P:=P) (hb.rely hr).2 rfl nc #[];obtain⟨e3,e4⟩:=ft (P:=P) (o':=.loop {r with state:=.busy}) (hb.rely hr).2 nc rfl (#[].push ⟨.obj l,false,false⟩)
 have cm:(b.kind==CallKind.early)=false:=by simpa using hk
 have cr:(Instr.beginRound l).run P w₁=.ok () (put w₁ l (.loop {r with state:=.busy})):=by
  simp [Instr.beginRound,Instr.getLoop,e1,e3,nf]
 have gN:(Instr.beginRound l).events P w₁ #[]=#[⟨.obj l,false,false⟩,⟨.obj l,true,false⟩]:=by
  simp at e4;simp [Instr.beginRound,Instr.getLoop,e1,e2,e3,e4,nf]
 have IZ:=pj (o:=.loop {r with state:=.busy}) (hb.rely hr).1 (hb.rely hr).2 nc
 refine⟨_,put w₁ l (.loop {r with state:=.busy}),seen P b.fn #[⟨.obj l,false,false⟩,⟨.obj l,true,false⟩],V,?_,?_,(K _ (jB hb nc hT) ⟨hb.1,vp hb.lt⟩ (hT.aC (jB hb nc hT))).rely (vq hr hb nc' hT)⟩
 ·simp only [G,stepG,stepG.exec,jO,Option.elim_some];simp [stepG.apply,cr,gN,cm,GStep.after,Frame.finish]
 ·have F7:=IZ.eY (es:=seen P b.fn #[⟨.obj l,false,false⟩,⟨.obj l,true,false⟩]) fun e hx=>by
   have:=mem_seen hx;rw [View.bB V fL];simp at this;rcases this with rfl|rfl
   ·exact jY hb.1
   ·exact jY hb.1
  rwa [View.bB V fL]at F7
theorem Xo{r:Loop}{c:Frame}(j:Bool)(hk:b.kind=.normal)(hT:Tidy V w)(hb:ba V w l (.loop r))
  (K:∀w',aG (· =l) aD V w V w'->ba V w' l (.loop {r with state:=if j then .done else .ready,pending:=if j then some .ret else none})->Tidy V w'->Loc P main Stop V (G (c.finish (.bool (!j))) cs) w'):
  Loc P main Stop V (G (jO b l a (if j then .code .ret::k else [])) (c::cs)) w:=by
 refine Loc.step rfl fun w₁ hr=>?_;have nc:fW (.loop r):=fun _ _ _ h=>by cases h
 obtain⟨r',jU⟩:∃r':Loop,r'={r with state:=if j then .done else .ready,pending:=if j then some .ret else none}:=⟨_,rfl⟩
 have nc':fW (.loop r'):=fun _ _ _ h=>by cases h
 obtain⟨e1,e2⟩:=dO (P:=P) (hb.rely hr).2 rfl nc #[];obtain⟨e3,e4⟩:=ft (P:=P) (o':=.loop r') (hb.rely hr).2 nc rfl (#[].push ⟨.obj l,false,false⟩);simp only [List.push_toArray,List.nil_append]at e4;have IZ:=pj (o:=.loop r') (hb.rely hr).1 (hb.rely hr).2 nc;have hgo:(Instr.endRound l (if j then some .ret else none)).run P w₁=.ok (.bool (!j)) (put w₁ l (.loop r'))/\(Instr.endRound l (if j then some .ret else none)).events P w₁ #[]=#[⟨.obj l,false,false⟩,⟨.obj l,true,false⟩]:=by
  cases j
  ·simp at jU;subst jU;simp at e3 e4;constructor<;>simp [Instr.endRound,Instr.getLoop,e1,e2,e3,e4]
  ·simp at jU;subst jU;simp at e3 e4;constructor<;>simp [Instr.endRound,Instr.getLoop,e1,e2,e3,e4]
 refine⟨G (c.finish (.bool (!j))) cs,put w₁ l (.loop r'),seen P b.fn #[⟨.obj l,false,false⟩,⟨.obj l,true,false⟩],V,?_,?_,(K _ (jB hb nc hT) (by rw [←jU];exact⟨hb.1,vp hb.lt⟩) (hT.aC (jB hb nc hT))).rely (vq hr hb nc' hT)⟩
 ·obtain⟨h1,h2⟩:=hgo;cases j
  ·simp only [Bool.false_eq_true,if_false,Bool.not_false]at h1 h2;simp [G,stepG,stepG.exec,jO,h1,h2,hk,doReturn,GStep.after]
  ·simp only [if_true,Bool.not_true]at h1 h2;simp [G,stepG,stepG.exec,jO,h1,h2,hk,doReturn,GStep.after]
 ·have F7:=IZ.eY (es:=seen P b.fn #[⟨.obj l,false,false⟩,⟨.obj l,true,false⟩]) fun e hx=>by
   have:=mem_seen hx;rw [View.bB V fL];simp at this;rcases this with rfl|rfl
   ·exact jY hb.1
   ·exact jY hb.1
  rwa [View.bB V fL]at F7
theorem alA{r:Loop}(hT:Tidy V w)(hb:ba V w l (.loop r))(nf:r.state=.ready\/r.state=.done)
  (K:∀w',aG (· =l) aD V w V w'->Tidy V w'->Loc P main Stop V (G (b.at a ((r.pending.map Item.code).toList++k)) cs) w'):
  Loc P main Stop V (G (b.at a (.endRangeFunc l::k)) cs) w:=by
 refine Loc.step rfl fun w₁ hr=>?_;have nc:fW (.loop r):=fun _ _ _ h=>by cases h
 have nc':fW (.loop {r with state:=.exhausted}):=fun _ _ _ h=>by cases h
 obtain⟨e1,e2⟩:=dO (P:=P) (hb.rely hr).2 rfl nc #[];obtain⟨e3,e4⟩:=ft (P:=P) (o':=.loop {r with state:=.exhausted}) (hb.rely hr).2 nc rfl (#[].push ⟨.obj l,false,false⟩)
 simp only [List.push_toArray,List.nil_append]at e4;have IZ:=pj (o:=.loop {r with state:=.exhausted}) (hb.rely hr).1 (hb.rely hr).2 nc
 have hb0:¬r.state=.busy:=by rcases nf with h|h<;>rw [h]<;>simp
 have h1:(Instr.endLoop l).run P w₁=.ok r.pending (put w₁ l (.loop {r with state:=.exhausted})):=by
  simp [Instr.endLoop,Instr.getLoop,e1,e3,hb0]
 have h2:(Instr.endLoop l).events P w₁ #[]=#[⟨.obj l,false,false⟩,⟨.obj l,true,false⟩]:=by
  simp [Instr.endLoop,Instr.getLoop,e1,e2,e3,e4,hb0]
 refine⟨_,put w₁ l (.loop {r with state:=.exhausted}),seen P b.fn #[⟨.obj l,false,false⟩,⟨.obj l,true,false⟩],V,?_,?_,(K _ (jB hb nc hT) (hT.aC (jB hb nc hT))).rely (vq hr hb nc' hT)⟩
 ·simp [G,stepG,stepG.exec,Frame.at,h1,h2,GStep.after]
 ·have F7:=IZ.eY (es:=seen P b.fn #[⟨.obj l,false,false⟩,⟨.obj l,true,false⟩]) fun e hx=>by
   have:=mem_seen hx;rw [View.bB V fL];simp at this;rcases this with rfl|rfl
   ·exact jY hb.1
   ·exact jY hb.1
  rwa [View.bB V fL]at F7
theorem aGH{D:Nat}{ds:List Deferred}{todo:List Item}{tm:Array Value}(hT:Tidy V w)(hb:ba V w D (.deferred (some [])))
  (K:∀w',aG (· =D) aD V w V w'->Tidy V w'->Loc P main Stop V (G {b.at ⟨tm,ds⟩ todo with mode:=.returning} cs) w'):
  Loc P main Stop V (G {b.at ⟨tm,{target:=.collected D,args:=#[]}::ds⟩ todo with mode:=.returning} cs) w:=by
 refine Loc.step rfl fun w₁ hr=>?_;have nc:fW (.deferred (some [])):=fun _ _ _ h=>by cases h
 have nc':fW (.deferred none):=fun _ _ _ h=>by cases h
 obtain⟨e1,e2⟩:=dO (P:=P) (hb.rely hr).2 rfl nc #[];obtain⟨e3,e4⟩:=ft (P:=P) (o':=.deferred none) (hb.rely hr).2 nc rfl (#[].push ⟨.obj D,false,false⟩);simp only [List.push_toArray,List.nil_append]at e4;have IZ:=pj (o:=.deferred none) (hb.rely hr).1 (hb.rely hr).2 nc;have h1:(Instr.takeDeferred D).run P w₁=.ok [] (put w₁ D (.deferred none)):=by
  simp [Instr.takeDeferred,e1,e3]
 have h2:(Instr.takeDeferred D).events P w₁ #[]=#[⟨.obj D,false,false⟩,⟨.obj D,true,false⟩]:=by
  simp [Instr.takeDeferred,e1,e2,e3,e4]
 refine⟨_,put w₁ D (.deferred none),seen P b.fn #[⟨.obj D,false,false⟩,⟨.obj D,true,false⟩],V,?_,?_,(K _ (jB hb nc hT) (hT.aC (jB hb nc hT))).rely (vq hr hb nc' hT)⟩
 ·simp [G,stepG,unwind,Frame.at,h1,h2,GStep.after]
 ·have F7:=IZ.eY (es:=seen P b.fn #[⟨.obj D,false,false⟩,⟨.obj D,true,false⟩]) fun e hx=>by
   have:=mem_seen hx;rw [View.bB V fL];simp at this;rcases this with rfl|rfl
   ·exact jY hb.1
   ·exact jY hb.1
  rwa [View.bB V fL]at F7
end
theorem Xp:(prog.info? 56).map (fun i=>decide (i.size=0))=some false:=by kernel_rfl
section
variable {k:Nat} {f f':Fz} {γ fw:Gh} {w:World} {a:Act}
def eV(Γ:Rc)(k:Nat)(fw:Gh)(f':Fz)(V:View)(w:World)(K:View->World->Prop):Prop:=
 ∀w₁,aP V w w₁->∃V' VK,V'.Le V/\VK.Le V/\Apart V' VK/\Γ.cont k fw VK w₁/\(∀c,f'=.bH c->V.own c.ch/\¬V'.own c.ch/\¬VK.own c.ch/\bC w₁ c.ch/\c.c≠c.ch/\∀a,V'.ro a\/V'.wc a\/VK.ro a\/VK.wc a->a.block≠c.ch)/\K V' w₁
theorem eV.rely{K:View->World->Prop}{w₁:World}(h:eV Γ k fw f' V w K)(hr:aP V w w₁):eV Γ k fw f' V w₁ K:=fun fy ao7=>h fy (hr.trans ao7)
theorem eV.mono{K K':View->World->Prop}(h:eV Γ k fw f' V w K)(hk:∀V w,K V w->K' V w):eV Γ k fw f' V w K':=fun fy ao7=>by
 obtain⟨V',VK,h1,h2,h3,h4,h5,h6⟩:=h fy ao7;exact⟨V',VK,h1,h2,h3,h4,h5,hk _ _ h6⟩
theorem aGI{c:Array Value}{ty:TypeId}{fr:Nat×Nat}(hk:b.kind≠.early)(qY:b.fn=88)(hV:V.deaf=0)(gU:k<Γ.ns)(nl:dB Γ k V)(hB:w.heap[Γ.src k]? =some (.cells c ty fr))(fO:2<c.size)
  (hs:a.tmps.size=21)(hd:a.defers=[])(h0:a.eval (.tmp 0)=.pointer (some (eC Γ k)))(hm:Made Γ e k f γ fw f')(H:eV Γ k fw f' V w fun V' w₁=>kF Γ (Next Γ e f') V' b cs w₁):
  bf (At Γ) (fun t=>t=⟨e,f,.rel k γ fw f'⟩) V (G (b.at a (.code OL::[])) cs) w:=by
 refine bg aQU (fH aQR rfl (bg aQP (aF aQL (rl [0,1,2,3] rfl) (bp abc hk hs (af abc.o h0) fun a ae h3=>t1 ae hs hd h0 fun hs hd h0=>?_))));refine bp abd hk hs (bE abd.o h3) fun a ae h4=>t1 ae hs hd h0 fun hs hd h0=>?_;refine bp abe hk hs (aB abe.o h4 underlying56 rfl sizeOf21 (by decide) rfl) fun a ae h5=>t1 ae hs hd h0 fun hs hd h0=>?_
 refine aGy hB fO ze.a ze.f hk (by rw [qY];exact als) ze.d ze.o h5 fun a au an ah=>?_
 replace hs:=au.trans hs;replace hd:=an.trans hd;replace h0:=(ah 0 (by decide)).trans h0
 clear au an ah;refine al (bg aQO (aF aQM (rl [0,1,2] rfl) (bp abg hk hs (af abg.o h0) fun a ae h7=>t1 ae hs hd h0 fun hs hd h0=>?_)));refine bp abh hk hs (jm abh.o h7 underlying160 underlying96 Xp hB fO rfl) fun a ae h8=>t1 ae hs hd h0 fun hs hd h0=>?_;refine di _ rfl fun w₁ hr=>At.fold ⟨rfl,hV,gU,hm,fun fy dv=>?_⟩;obtain⟨V',VK,q1,q2,q3,q4,q5,q6⟩:=H fy (hr.trans dv);refine⟨V',VK,_,q1,q2,q3,q4,q5,stepG_markAt .releaseMerge (by simp) zf.a zf.f hk zf.o func36 aAy aAz aAA aAB (by simp;exact h8),?_⟩
 have u:=bj a (nR F0 2).dst (.tuple #[]);generalize a.put (nR F0 2).dst (.tuple #[])=a' at u;have aZ:=u.size.trans hs;have aV:=u.defers.trans hd;have h0':=(u.ne 0 (by rw [zf.d];decide)).trans h0
 have y7:V'.deaf=0:=q1.deaf.trans hV;refine al (aF aQN (rl [0] rfl) (mY .disable 1 (.inl ⟨rfl,by rw [y7]⟩) zg.a zg.f hk zg.d zg.o func37 NQ NR NS NU fun a au an ah=>?_))
 refine al (aGz hk rfl gU ((nl.le q1).hears 1) (au.trans aZ) (an.trans aV) ((ah 0 (by decide)).trans h0') ?_)
 rw [pa,s0 y7];exact q6
theorem yv{c:Array Value}{ty:TypeId}{fr:Nat×Nat}(hk:b.kind≠.early)(hV:V.deaf=0)(gU:k<Γ.ns)(nl:dB Γ k V)(hB:w.heap[Γ.src k]? =some (.cells c ty fr))(fO:2<c.size)
  (hs:a.tmps.size=6)(hd:a.defers=[])(h0:a.eval (.tmp 0)=.pointer (some (eC Γ k)))(hm:Made Γ e k f γ fw f')(H:eV Γ k fw f' V w fun V' w₁=>kF Γ (Next Γ e f') V' b cs w₁):
  bf (At Γ) (fun t=>t=⟨e,f,.rel k γ fw f'⟩) V (G (b.at a (.code aaT::[])) cs) w:=by
 refine aF aQB (rl [0,1,2,3] rfl) (bp aaU hk hs (af aaU.o h0) fun a ae h2=>t0 ae hs hd fun hs hd=>?_);refine bp aaV hk hs (bE aaV.o h2) fun a ae h3=>t0 ae hs hd fun hs hd=>?_;refine bp aaW hk hs (aB aaW.o h3 underlying58 rfl sizeOf56 (by decide) rfl) fun a ae h4=>t0 ae hs hd fun hs hd=>?_
 have h4:a.eval (.tmp 4)=.pointer (some (eC Γ k)):=h4;refine lS ui.a ui.f hk ui.o func88 (by kernel_rfl) aE5 (aGI (by decide) rfl hV gU nl hB fO (by simp [show Tryz.f88.ntmps=21 from rfl]) rfl (by simpa [Act.eval]using h4) hm (H.mono fun V' w₁ K a' todo aV=>?_))
 exact jg rfl aV func88 rfl ui.a ui.d fun a au an ah=>al (rX (K a [] (an.trans hd)))
end
section
variable {k:Nat} {f:Fz} {w:World} {a:Act} {d:Nat} {rest:List Nat} {o:Oper} {kk:List Item} {xs:Array Operand} {gY:Array TypeId}
theorem Xq(V:View)(w:World)(n:Nat):aP V w {w with drawn:=n}:=⟨rfl,rfl,.refl _,Nat.le_refl _,fun _ c _ _ h=>⟨c,h,rfl⟩,fun _ _=>rfl,fun _ _=>rfl⟩
theorem Xr(V:View)(w:World):aP V w w.later:=⟨rfl,rfl,⟨w.tick,rfl⟩,Nat.le_refl _,fun _ c _ _ h=>⟨c,h,rfl⟩,fun _ _=>rfl,fun _ _=>rfl⟩
theorem I4(V:View)(w:World)(n:Nat):fG V w {w with drawn:=n} #[] V:=by
 have:=(BV V w n).eY (es:=#[]) (fun e h=>absurd h (Array.not_mem_empty _));rwa [View.bB V (w:=w) (w':={w with drawn:=n}) rfl]at this
theorem I5(V:View)(w:World):fG V w w.later #[] V:=by
 have ht:ia V w w.later:=⟨rfl,rfl,⟨w.tick,rfl⟩,Nat.le_refl _,fun _ c _ _ h=>⟨c,h,rfl⟩,fun _ _ _ _=>rfl,fun _ _ _ _=>rfl⟩;have:=ht.eY (es:=#[]) (fun e h=>absurd h (Array.not_mem_empty _));rwa [View.bB V (w:=w) (w':=w.later) rfl]at this
theorem ao8(ho:ops[i]? =some o)(hw:Region.wanted o (yielded ops a.tmps)=true)(hk:b.kind≠.early)(hd:o.dst=some d)(aU:d<a.tmps.size)(aE:o.op=.call {callee:=.value (.func 107),args:=xs,argTypes:=gY})
  (K:∀x:Int,∀a',a'.tmps.size=a.tmps.size->a'.defers=a.defers->(∀j,d≠j->a'.eval (.tmp j)=a.eval (.tmp j))->a'.eval (.tmp d)=.int .i64 x->Loc prog false Stop V (G (b.at a' (.inRegion ops rest::kk)) cs) w):
  Loc prog false Stop V (G (b.at a (.inRegion ops (i::rest)::kk)) cs) w:=by
 refine Loc.step rfl fun w₁ hr=>?_;have bF:=stepG_nanotime (P:=prog) (main:=false) (w:=w₁) (kk:=kk) (cs:=cs) (rest:=rest) ho hw hk aE func107 aDQ aDR aDS aDT aDX;have u:=bj a o.dst (.int .i64 ((w₁.os.mono+w₁.tick:Nat):Int));exact⟨_,_,_,V,bF,I5 V w₁,(K _ _ u.size u.defers (fun j hj=>u.ne j (by rw [hd];intro h;exact hj (Option.some.inj h))) (u.eq d hd aU)).rely (hr.trans (Xr V w₁))⟩
theorem alB{it:Nat}{x:Operand}(ho:ops[i]? =some o)(hw:Region.wanted o (yielded ops a.tmps)=true)(hk:b.kind≠.early)(hd:o.dst=some d)(aU:d<a.tmps.size)(aE:o.op=.call {callee:=.value (.func 104),args:=#[x],argTypes:=gY})
  (hx:a.eval x=.int .i64 (it:Int))
  (K:∀r:Bool,(r=true->it<4)->∀a',a'.tmps.size=a.tmps.size->a'.defers=a.defers->(∀j,d≠j->a'.eval (.tmp j)=a.eval (.tmp j))->a'.eval (.tmp d)=.bool r->Loc prog false Stop V (G (b.at a' (.inRegion ops rest::kk)) cs) w):
  Loc prog false Stop V (G (b.at a (.inRegion ops (i::rest)::kk)) cs) w:=by
 refine Loc.step rfl fun w₁ hr=>?_;by_cases h4:it<4
 ·have bF:=stepG_canSpin_ask (P:=prog) (main:=false) (w:=w₁) (kk:=kk) (cs:=cs) (rest:=rest) ho hw hk aE func104 amI amJ amK amL (k:=.i64) (n:=it) (by simp [hx]) (by omega)
  have u:=bj a o.dst (.bool w₁.spins);exact⟨_,_,_,V,bF,I4 V w₁ _,(K _ (fun _=>h4) _ u.size u.defers (fun j hj=>u.ne j (by rw [hd];intro h;exact hj (Option.some.inj h))) (u.eq d hd aU)).rely (hr.trans (Xq V w₁ _))⟩
 ·have bF:=stepG_canSpin_no (P:=prog) (main:=false) (w:=w₁) (kk:=kk) (cs:=cs) (rest:=rest) ho hw hk aE func104 amI amJ amK amL (k:=.i64) (n:=it) (by simp [hx]) (by omega)
  have u:=bj a o.dst (.bool false);exact⟨_,_,_,V,bF,aY V w₁,(K false (by simp) _ u.size u.defers (fun j hj=>u.ne j (by rw [hd];intro h;exact hj (Option.some.inj h))) (u.eq d hd aU)).rely hr⟩
theorem ao9(ho:ops[i]? =some o)(hw:Region.wanted o (yielded ops a.tmps)=true)(hk:b.kind≠.early)(hd:o.dst=some d)(aE:o.op=.call {callee:=.value (.func 105),args:=#[],argTypes:=gY})
  (K:∀a',a'.tmps.size=a.tmps.size->a'.defers=a.defers->(∀j,d≠j->a'.eval (.tmp j)=a.eval (.tmp j))->Loc prog false Stop V (G (b.at a' (.inRegion ops rest::kk)) cs) w):
  Loc prog false Stop V (G (b.at a (.inRegion ops (i::rest)::kk)) cs) w:=by
 refine Loc.step rfl fun w₁ hr=>?_;have bF:=stepG_entry (P:=prog) (main:=false) (w:=w₁) (w':=w₁) (v:=.tuple #[]) (evs:=#[]) (kk:=kk) (cs:=cs) (rest:=rest) ho hw hk aE func105 aDM aDN aDO aDP (by simp [Extern.Sync.nothing,Extern.Sync.none_]) (by simp [Extern.Sync.nothing,Extern.Sync.none_]) (by simp)
 have u:=bj a o.dst (.tuple #[]);exact⟨_,_,_,V,bF,aY V w₁,(K _ u.size u.defers (fun j hj=>u.ne j (by rw [hd];intro h;exact hj (Option.some.inj h)))).rely hr⟩
def iw(Γ:Rc)(k:Nat)(e:En)(f:Fz)(V:View)(w:World)(K:(Tag->Prop)->View->World->Prop):Prop:=
 ∀w₁ γ VK,aP V w w₁->VK.deaf=0->Apart V VK->Γ.cont k γ VK w₁->(∀c,f=.bH c->c∈γ.bO/\c.no∉γ.done)->K (fun t=>∃fw f',Made Γ e k f γ fw f'/\t=⟨e,f,.rel k γ fw f'⟩) (V.join VK) w₁
theorem iw.rely{K:(Tag->Prop)->View->World->Prop}{w₁:World}(h:iw Γ k e f V w K)(hr:aP V w w₁):iw Γ k e f V w₁ K:=fun fy γ VK ao7=>h fy γ VK (hr.trans ao7)
theorem iw.mono{K K':(Tag->Prop)->View->World->Prop}(h:iw Γ k e f V w K)(hk:∀q V w,K q V w->K' q V w):iw Γ k e f V w K':=fun fy γ VK h1 h2 h3 h4 h5=>hk _ _ _ (h fy γ VK h1 h2 h3 h4 h5)
theorem apa(hV:V.deaf=0)(gU:k<Γ.ns)(ho:ops[i]? =some o)(hg:o.guard=none)(hk:b.kind≠.early)(hd:o.dst=some d)(aE:o.op=.call {callee:=.value (.func 52),args:=xs,argTypes:=gY})(hx:(xs.map a.eval)[0]? =some (.pointer (some (eC Γ k))))
  (K:iw Γ k e f V w fun q V' w₁=>∀a',a'.tmps.size=a.tmps.size->a'.defers=a.defers->bf (At Γ) q V' (G (b.at a' (.inRegion ops rest::kk)) cs) w₁):
  Vw Γ (At Γ) ⟨e,f,.acq k⟩ V (G (b.at a (.inRegion ops (i::rest)::kk)) cs) w:=by
 refine⟨rfl,hV,gU,fun w₁ γ VK h1 h2 h3 h4 h5=>⟨_,stepG_markAt .acquire (by simp) ho (gO hg) hk aE func52 amD amE amF amG hx,?_⟩⟩
 have u:=bj a o.dst (.tuple #[]);exact K w₁ γ VK h1 h2 h3 h4 h5 _ u.size u.defers
end
def QP(wd:Wd)(aw sv:Bool):Wd:=⟨if wd.S then wd.L else true,wd.W&&!aw,wd.S||(sv&&wd.L),if wd.L||wd.S then wd.n+1 else wd.n⟩
structure U8(Γ:Rc)(k:Nat)(wd:Wd)(aw sv:Bool)(it:Nat)(ws:Int)(a:Act):Prop where
 size:a.tmps.size=139
 defers:a.defers=[]
 h0:a.eval (.tmp 0)=.pointer (some (eC Γ k))
 h2:a.eval (.tmp 2)=.int .i64 ws
 h3:a.eval (.tmp 3)=.bool sv
 h4:a.eval (.tmp 4)=.bool aw
 h5:a.eval (.tmp 5)=.int .i64 (it:Int)
 h6:a.eval (.tmp 6)=.int .i32 (wz wd)
section
variable {k:Nat} {f:Fz} {w:World} {a:Act}
noncomputable def Xs:List Item:=.inBlock 1::.inLoop xH::.inBlock 0::.code lx::[]
noncomputable def maG(b:Frame)(a:Act)(cs:List Frame):Goroutine:=G (b.at a (.inRegion lP [5]::.code sV::Xs)) cs
structure MaA(Γ:Rc)(k:Nat)(wd:Wd)(aw sv:Bool)(it:Nat)(ws:Int)(a:Act):Prop where
 f:U8 Γ k wd aw sv it ws a
 n:wd.n<31
 ok:(sv=true->aw=true)/\(aw=true->wd.W=true/\wd.S=false)/\it<=4
 F9:a.eval (.tmp 77)=.pointer (some (eC Γ k))
 Ga:a.eval (.tmp 78)=.int .i32 (wz wd)
 h79:a.eval (.tmp 79)=.int .i32 (wz (QP wd aw sv))
theorem ayU(hk:b.kind≠.early)(hn:wd.n<31)(dH:(sv=true->aw=true)/\(aw=true->wd.W=true/\wd.S=false)/\it<=4)(hF:U8 Γ k wd aw sv it ws a)
  (hX:∀a w₁,aP V w w₁->MaA Γ k wd aw sv it ws a->X ⟨e,f,.lk k (.main aw sv wd it)⟩ V (maG b a cs) w₁):
  bf X (fun t=>t=⟨e,f,.lk k (.main aw sv wd it)⟩) V (G (b.at a (.code sU::Xs)) cs) w:=by
 have bG:wd.n<32:=by omega
 obtain⟨hs,hd,h0,h2,h3,h4,h5,h6⟩:=hF;refine bg aGg (aF aFk (rl [0,1] rfl) (bp OU hk hs (af OU.o h6) fun a ae yQ=>t6 ae hs hd h0 h2 h3 h4 h5 h6 fun hs hd h0 h2 h3 h4 h5 h6=>?_));refine bp OV hk hs (ak OV.o yQ) fun a ae h7=>t6 ae hs hd h0 h2 h3 h4 h5 h6 fun hs hd h0 h2 h3 h4 h5 h6=>?_;refine al (bg aGf (bg aFp (aF aFl (rl [0,1,2] rfl) (bp OW hk hs (af OW.o h6) fun a ae sf=>t7 ae hs hd h0 h2 h3 h4 h5 h6 h7 fun hs hd h0 h2 h3 h4 h5 h6 h7=>?_))));refine bp OX hk hs (gP OX.o sf rfl) fun a ae rP=>t7 ae hs hd h0 h2 h3 h4 h5 h6 h7 fun hs hd h0 h2 h3 h4 h5 h6 h7=>?_;refine bp OY hk hs (eH OY.o rP rfl) fun a ae tA=>t7 ae hs hd h0 h2 h3 h4 h5 h6 h7 fun hs hd h0 h2 h3 h4 h5 h6 h7=>?_;rw [Oi wd bG]at tA;refine al (akX (fun a=>U8 Γ k wd aw sv it ws a/\a.eval (.tmp 7)=.int .i32 (wz ⟨if wd.S then wd.L else true,wd.W,wd.S,wd.n⟩)) aFo tA (fun ht K=>?_) (fun ht K=>?_) (fun a ha=>?_))
 ·refine aF aFm (rl [0,1,2] rfl) (bp OZ hk hs (af OZ.o h7) fun a ae xK=>t7 ae hs hd h0 h2 h3 h4 h5 h6 h7 fun hs hd h0 h2 h3 h4 h5 h6 h7=>?_);refine bp O0 hk hs (axP O0.o xK rfl) fun a ae NM=>t7 ae hs hd h0 h2 h3 h4 h5 h6 h7 fun hs hd h0 h2 h3 h4 h5 h6 h7=>?_;rw [aEj wd bG]at NM;refine bp O1 hk hs (ak O1.o NM) fun a ae h7=>t6 ae hs hd h0 h2 h3 h4 h5 h6 fun hs hd h0 h2 h3 h4 h5 h6=>?_;refine al ?_;have hS:wd.S=false:=by simpa using ht
  exact K a ⟨⟨hs,hd,h0,h2,h3,h4,h5,h6⟩,by rw [h7,hS];rfl⟩
 ·have hS:wd.S=true:=by simpa using ht
  exact eZ aFn (K a ⟨⟨hs,hd,h0,h2,h3,h4,h5,h6⟩,by rw [h7];obtain⟨L,W,S,n⟩:=wd;simp only at hS;subst hS;rfl⟩)
 clear hd hs;obtain⟨⟨hs,hd,h0,h2,h3,h4,h5,h6⟩,h7⟩:=ha;refine bg aGe (bg aFu (aF aFq (rl [0,1,2] rfl) (bp O2 hk hs (af O2.o h6) fun a ae Fe=>t7 ae hs hd h0 h2 h3 h4 h5 h6 h7 fun hs hd h0 h2 h3 h4 h5 h6 h7=>?_)));refine bp O3 hk hs (gP O3.o Fe rfl) fun a ae Ff=>t7 ae hs hd h0 h2 h3 h4 h5 h6 h7 fun hs hd h0 h2 h3 h4 h5 h6 h7=>?_;refine bp O4 hk hs (eI O4.o Ff rfl) fun a ae h57=>t7 ae hs hd h0 h2 h3 h4 h5 h6 h7 fun hs hd h0 h2 h3 h4 h5 h6 h7=>?_;rw [anm wd bG]at h57;refine al (akX (fun a=>U8 Γ k wd aw sv it ws a/\a.eval (.tmp 7)=.int .i32 (wz ⟨if wd.S then wd.L else true,wd.W,wd.S,if wd.L||wd.S then wd.n+1 else wd.n⟩)) aFt h57 (fun ht K=>?_) (fun ht K=>?_) (fun a ha=>?_))
 ·refine aF aFr (rl [0,1,2] rfl) (bp O5 hk hs (af O5.o h7) fun a ae Fg=>t7 ae hs hd h0 h2 h3 h4 h5 h6 h7 fun hs hd h0 h2 h3 h4 h5 h6 h7=>?_);refine bp O6 hk hs (gQ O6.o Fg rfl) fun a ae CZ=>t7 ae hs hd h0 h2 h3 h4 h5 h6 h7 fun hs hd h0 h2 h3 h4 h5 h6 h7=>?_;rw [axR ⟨if wd.S then wd.L else true,wd.W,wd.S,wd.n⟩ bG]at CZ
  refine bp O7 hk hs (ak O7.o CZ) fun a ae h7=>t6 ae hs hd h0 h2 h3 h4 h5 h6 fun hs hd h0 h2 h3 h4 h5 h6=>?_;refine al ?_;exact K a ⟨⟨hs,hd,h0,h2,h3,h4,h5,h6⟩,by rw [h7,ht];rfl⟩
 ·exact eZ aFs (K a ⟨⟨hs,hd,h0,h2,h3,h4,h5,h6⟩,by rw [h7,ht];rfl⟩)
 clear hd hs;obtain⟨⟨hs,hd,h0,h2,h3,h4,h5,h6⟩,h7⟩:=ha;have aGJ:(if wd.L||wd.S then wd.n+1 else wd.n)<32:=by split<;>omega
 refine bg aGd (bg aFz (aF aFv (rl [0,1,2,3,4,5] rfl) (bp O8 hk hs (af O8.o h3) fun a ae rn=>t7 ae hs hd h0 h2 h3 h4 h5 h6 h7 fun hs hd h0 h2 h3 h4 h5 h6 h7=>?_)));refine bp O9 hk hs (af O9.o rn) fun a ae kJ=>t7 ae hs hd h0 h2 h3 h4 h5 h6 h7 fun hs hd h0 h2 h3 h4 h5 h6 h7=>?_;have key:∀a,U8 Γ k wd aw sv it ws a->a.eval (.tmp 7)=.int .i32 (wz ⟨if wd.S then wd.L else true,wd.W,wd.S,if wd.L||wd.S then wd.n+1 else wd.n⟩)->a.eval (.tmp 65)=.bool (sv&&wd.L)->
   bf X (fun t=>t=⟨e,f,.lk k (.main aw sv wd it)⟩) V (G (b.at a (.inRegion oU []::.code CG::.code CH::Xs)) cs) w:=by
  intro a hF h7 Xt;obtain⟨hs,hd,h0,h2,h3,h4,h5,h6⟩:=hF;refine al (akX (fun a=>U8 Γ k wd aw sv it ws a/\a.eval (.tmp 7)=.int .i32 (wz ⟨if wd.S then wd.L else true,wd.W,wd.S||(sv&&wd.L),if wd.L||wd.S then wd.n+1 else wd.n⟩)) aFy Xt (fun ht K=>?_) (fun ht K=>?_) (fun a ha=>?_))
  ·refine aF aFw (rl [0,1,2] rfl) (bp Pa hk hs (af Pa.o h7) fun a ae h66=>t7 ae hs hd h0 h2 h3 h4 h5 h6 h7 fun hs hd h0 h2 h3 h4 h5 h6 h7=>?_);refine bp Pb hk hs (axP Pb.o h66 rfl) fun a ae Xu=>t7 ae hs hd h0 h2 h3 h4 h5 h6 h7 fun hs hd h0 h2 h3 h4 h5 h6 h7=>?_;rw [aEk ⟨if wd.S then wd.L else true,wd.W,wd.S,if wd.L||wd.S then wd.n+1 else wd.n⟩ aGJ]at Xu
   refine bp Pd hk hs (ak Pd.o Xu) fun a ae h7=>t6 ae hs hd h0 h2 h3 h4 h5 h6 fun hs hd h0 h2 h3 h4 h5 h6=>?_;refine al ?_;exact K a ⟨⟨hs,hd,h0,h2,h3,h4,h5,h6⟩,by rw [h7,ht];simp⟩
  ·exact eZ aFx (K a ⟨⟨hs,hd,h0,h2,h3,h4,h5,h6⟩,by rw [h7,ht];simp⟩)
  clear hd hs;obtain⟨⟨hs,hd,h0,h2,h3,h4,h5,h6⟩,h7⟩:=ha;refine bg aGc (bg aFK (aF aFA (rl [0] rfl) (bp Pe hk hs (af Pe.o h4) fun a ae C0=>t7 ae hs hd h0 h2 h3 h4 h5 h6 h7 fun hs hd h0 h2 h3 h4 h5 h6 h7=>?_)));refine al (akX (fun a=>U8 Γ k wd aw sv it ws a/\a.eval (.tmp 7)=.int .i32 (wz (QP wd aw sv))) aFJ C0 (fun ht K=>?_) (fun ht K=>?_) (fun a ha=>?_))
  ·refine bg aFH (bg aFF (aF aFB (rl [0,1,2] rfl) (bp Pf hk hs (af Pf.o h7) fun a ae h69=>t7 ae hs hd h0 h2 h3 h4 h5 h6 h7 fun hs hd h0 h2 h3 h4 h5 h6 h7=>?_)));refine bp Pg hk hs (gP Pg.o h69 rfl) fun a ae U9=>t7 ae hs hd h0 h2 h3 h4 h5 h6 h7 fun hs hd h0 h2 h3 h4 h5 h6 h7=>?_;refine bp Ph hk hs (eH Ph.o U9 rfl) fun a ae h71=>t7 ae hs hd h0 h2 h3 h4 h5 h6 h7 fun hs hd h0 h2 h3 h4 h5 h6 h7=>?_;rw [Oh _ aGJ]at h71;have hW:=(dH.2.1 ht).1;refine al (eo aFE (by rw [h71];simp [hW]) (eZ aFD (aF aFG (rl [0,1,2] rfl) (bp Pj hk hs (af Pj.o h7) fun a ae h73=>t7 ae hs hd h0 h2 h3 h4 h5 h6 h7 fun hs hd h0 h2 h3 h4 h5 h6 h7=>?_))))
   refine bp Pk hk hs (anl Pk.o h73 rfl) fun a ae h74=>t7 ae hs hd h0 h2 h3 h4 h5 h6 h7 fun hs hd h0 h2 h3 h4 h5 h6 h7=>?_;rw [Vu _ aGJ]at h74;refine bp Pm hk hs (ak Pm.o h74) fun a ae h7=>t6 ae hs hd h0 h2 h3 h4 h5 h6 fun hs hd h0 h2 h3 h4 h5 h6=>?_;refine al ?_;exact K a ⟨⟨hs,hd,h0,h2,h3,h4,h5,h6⟩,by rw [h7,ht];simp [QP]⟩
  ·exact eZ aFI (K a ⟨⟨hs,hd,h0,h2,h3,h4,h5,h6⟩,by rw [h7,ht];simp [QP]⟩)
  clear hd hs;obtain⟨⟨hs,hd,h0,h2,h3,h4,h5,h6⟩,h7⟩:=ha;refine bg aGb (aF aFL (rl [0,1,2,3,4,5] rfl) (bp Pn hk hs (af Pn.o h0) fun a ae h75=>t7 ae hs hd h0 h2 h3 h4 h5 h6 h7 fun hs hd h0 h2 h3 h4 h5 h6 h7=>?_));refine bp Po hk hs (bE Po.o h75) fun a ae h76=>t7 ae hs hd h0 h2 h3 h4 h5 h6 h7 fun hs hd h0 h2 h3 h4 h5 h6 h7=>?_;refine bp Pp hk hs (aB Pp.o h76 underlying56 rfl sizeOf21 (by decide) rfl) fun a ae F9=>t7 ae hs hd h0 h2 h3 h4 h5 h6 h7 fun hs hd h0 h2 h3 h4 h5 h6 h7=>?_
  refine bp Pq hk hs (af Pq.o h6) fun a ae Ga=>t8 ae hs hd h0 h2 h3 h4 h5 h6 h7 F9 fun hs hd h0 h2 h3 h4 h5 h6 h7 F9=>?_;refine bp Pr hk hs (af Pr.o h7) fun a ae h79=>t9 ae hs hd h0 h2 h3 h4 h5 h6 h7 F9 Ga fun hs hd h0 h2 h3 h4 h5 h6 h7 F9 Ga=>?_;exact di _ rfl fun w₁ hr=>hX a w₁ hr ⟨⟨hs,hd,h0,h2,h3,h4,h5,h6⟩,hn,dH,F9,Ga,h79⟩
 cases hsv:sv
 ·rw [hsv]at kJ h3;refine xq oV.a (ax (x:=false) oV.g rfl kJ) oV.d fun a au an ah=>t8 ⟨au,an,ah⟩ hs hd h0 h2 h3 h4 h5 h6 h7 kJ fun hs hd h0 h2 h3 h4 h5 h6 h7 kJ=>?_;refine xq oW.a (ax (x:=false) oW.g rfl kJ) oW.d fun a au an ah=>t8 ⟨au,an,ah⟩ hs hd h0 h2 h3 h4 h5 h6 h7 kJ fun hs hd h0 h2 h3 h4 h5 h6 h7 kJ=>?_;refine xq oX.a (ax (x:=false) oX.g rfl kJ) oX.d fun a au an ah=>t8 ⟨au,an,ah⟩ hs hd h0 h2 h3 h4 h5 h6 h7 kJ fun hs hd h0 h2 h3 h4 h5 h6 h7 kJ=>?_;refine bp uB hk hs (bn (b:=false) (v:=.bool false) uB.o kJ rfl) fun a ae Xt=>t8 ae hs hd h0 h2 h3 h4 h5 h6 h7 kJ fun hs hd h0 h2 h3 h4 h5 h6 h7 kJ=>?_;rw [hsv]at key;exact key a ⟨hs,hd,h0,h2,h3,h4,h5,h6⟩ h7 (by rw [Xt];simp)
 ·rw [hsv]at kJ h3;refine sJ oV rfl kJ hk hs (af oV.o h6) fun a ae zy=>t8 ae hs hd h0 h2 h3 h4 h5 h6 h7 kJ fun hs hd h0 h2 h3 h4 h5 h6 h7 kJ=>?_;refine sJ oW rfl kJ hk hs (gP oW.o zy rfl) fun a ae CW=>t8 ae hs hd h0 h2 h3 h4 h5 h6 h7 kJ fun hs hd h0 h2 h3 h4 h5 h6 h7 kJ=>?_;refine sJ oX rfl kJ hk hs (eI oX.o CW rfl) fun a ae Va=>t8 ae hs hd h0 h2 h3 h4 h5 h6 h7 kJ fun hs hd h0 h2 h3 h4 h5 h6 h7 kJ=>?_;rw [ann wd bG]at Va;refine bp uB hk hs (bn (b:=true) uB.o kJ Va) fun a ae Xt=>t7 ae hs hd h0 h2 h3 h4 h5 h6 h7 fun hs hd h0 h2 h3 h4 h5 h6 h7=>?_;rw [hsv]at key;exact key a ⟨hs,hd,h0,h2,h3,h4,h5,h6⟩ h7 (by rw [Xt];simp)
end
structure QQ(Γ:Rc)(k:Nat)(aw sv:Bool)(it:Nat)(ws:Int)(a:Act):Prop where
 size:a.tmps.size=139
 defers:a.defers=[]
 h0:a.eval (.tmp 0)=.pointer (some (eC Γ k))
 h2:a.eval (.tmp 2)=.int .i64 ws
 h3:a.eval (.tmp 3)=.bool sv
 h4:a.eval (.tmp 4)=.bool aw
 h5:a.eval (.tmp 5)=.int .i64 (it:Int)
section
variable {k:Nat} {f:Fz} {w:World} {a:Act}
noncomputable def alC:List Item:=.code sU::Xs
noncomputable def l2G(b:Frame)(a:Act)(cs:List Frame):Goroutine:=G (b.at a (.inRegion sT [3,4]::.code WB::alC)) cs
noncomputable def spG(b:Frame)(a:Act)(cs:List Frame):Goroutine:=G (b.at a (.inRegion eJ [19,20]::.code sS::.code oT::alC)) cs
structure SpA(Γ:Rc)(k:Nat)(wd:Wd)(it:Nat)(ws:Int)(a:Act):Prop where
 f:U8 Γ k wd false false it ws a
 n:wd.n<31
 ok:wd.L=true/\wd.W=false/\wd.S=false/\wd.n≠0/\it<4
 bJ:a.eval (.tmp 33)=.bool true
 rh:a.eval (.tmp 36)=.pointer (some (eC Γ k))
 iI:a.eval (.tmp 37)=.int .i32 (wz wd)
 im:a.eval (.tmp 39)=.int .i32 (wz ⟨wd.L,true,wd.S,wd.n⟩)
theorem I6(hk:b.kind≠.early)(rp:it<4)(hF:QQ Γ k aw sv it ws a)
  (hX:∀a w₁,aP V w w₁->QQ Γ k aw sv (it+1) ws a->a.eval (.tmp 47)=.pointer (some (eC Γ k))->X ⟨e,f,.lk k (.ld aw sv (it+1))⟩ V (l2G b a cs) w₁):
  bf X (fun t=>t=⟨e,f,.lk k (.ld aw sv (it+1))⟩) V (G (b.at a (.code oT::alC)) cs) w:=by
 obtain⟨hs,hd,h0,h2,h3,h4,h5⟩:=hF;refine bg aFg (aF aFa (rl [0] rfl) (ao9 zm.a zm.f hk zm.d zm.o fun a au an ah=>?_));replace hs:=au.trans hs;replace hd:=an.trans hd;replace h0:=(ah 0 (by decide)).trans h0;replace h2:=(ah 2 (by decide)).trans h2;replace h3:=(ah 3 (by decide)).trans h3;replace h4:=(ah 4 (by decide)).trans h4;replace h5:=(ah 5 (by decide)).trans h5
 clear au an ah;refine al (bg aFf (aF aFb (rl [0,1,2] rfl) (bp abM hk hs (af abM.o h5) fun a ae zz=>t5 ae hs hd h0 h2 h3 h4 h5 fun hs hd h0 h2 h3 h4 h5=>?_)));refine bp abN hk hs (gQ abN.o zz rfl) fun a ae mS=>t5 ae hs hd h0 h2 h3 h4 h5 fun hs hd h0 h2 h3 h4 h5=>?_;rw [show IntKind.i64.wrap ((it:Int)+1)=((it+1:Nat):Int) by have:it=0\/it=1\/it=2\/it=3:=by {omega};rcases this with rfl|rfl|rfl|rfl<;>decide]at mS
 refine bp abO hk hs (ak abO.o mS) fun a ae h5=>t4 ae hs hd h0 h2 h3 h4 fun hs hd h0 h2 h3 h4=>?_;refine al (bg aFe (aF aFc (rl [0,1,2,3,4] rfl) (bp OP hk hs (af OP.o h0) fun a ae xu=>t5 ae hs hd h0 h2 h3 h4 h5 fun hs hd h0 h2 h3 h4 h5=>?_)));refine bp OQ hk hs (bE OQ.o xu) fun a ae jZ=>t5 ae hs hd h0 h2 h3 h4 h5 fun hs hd h0 h2 h3 h4 h5=>?_;refine bp OS hk hs (aB OS.o jZ underlying56 rfl sizeOf21 (by decide) rfl) fun a ae lV=>t5 ae hs hd h0 h2 h3 h4 h5 fun hs hd h0 h2 h3 h4 h5=>?_
 exact di _ rfl fun w₁ hr=>hX a w₁ hr ⟨hs,hd,h0,h2,h3,h4,h5⟩ lV
theorem ayX(hk:b.kind≠.early)(hn:wd.n<31)(rp:it<4)(hL:wd.L=true/\wd.S=false)(hsv:sv=true->aw=true)(hF:U8 Γ k wd aw sv it ws a)
  (hX:∀a w₁,aP V w w₁->QQ Γ k aw sv (it+1) ws a->a.eval (.tmp 47)=.pointer (some (eC Γ k))->X ⟨e,f,.lk k (.ld aw sv (it+1))⟩ V (l2G b a cs) w₁)
  (hX':aw=false->∀a w₁,aP V w w₁->SpA Γ k wd it ws a->X ⟨e,f,.lk k (.oq wd it)⟩ V (spG b a cs) w₁):
  bf X (fun t=>t=⟨e,f,.lk k (.ld aw sv (it+1))⟩\/(aw=false/\wd.W=false/\wd.n≠0/\t=⟨e,f,.lk k (.oq wd it)⟩)) V (G (b.at a (.code CF::alC)) cs) w:=by
 have bG:wd.n<32:=by omega
 obtain⟨hs,hd,h0,h2,h3,h4,h5,h6⟩:=hF;refine bg aFh (bg aE9 ?_);have aRf:∀(a:Act) (x:Bool),U8 Γ k wd aw sv it ws a->a.eval (.tmp 33)=.bool x->(x=true->aw=false/\wd.W=false/\wd.n≠0)->
   bf X (fun t=>t=⟨e,f,.lk k (.ld aw sv (it+1))⟩\/(aw=false/\wd.W=false/\wd.n≠0/\t=⟨e,f,.lk k (.oq wd it)⟩)) V (G (b.at a (.inRegion eJ [13,14,15,16,17,18,19,20]::.code sS::.code oT::alC)) cs) w:=by
  intro a x hF bJ hx;obtain⟨hs,hd,h0,h2,h3,h4,h5,h6⟩:=hF;cases x
  ·refine xq oN.a (ax (x:=false) oN.g rfl bJ) oN.d fun a au an ah=>t7 ⟨au,an,ah⟩ hs hd h0 h2 h3 h4 h5 h6 bJ fun hs hd h0 h2 h3 h4 h5 h6 bJ=>?_;refine xq oO.a (ax (x:=false) oO.g rfl bJ) oO.d fun a au an ah=>t7 ⟨au,an,ah⟩ hs hd h0 h2 h3 h4 h5 h6 bJ fun hs hd h0 h2 h3 h4 h5 h6 bJ=>?_;refine xq oP.a (ax (x:=false) oP.g rfl bJ) oP.d fun a au an ah=>t7 ⟨au,an,ah⟩ hs hd h0 h2 h3 h4 h5 h6 bJ fun hs hd h0 h2 h3 h4 h5 h6 bJ=>?_;refine xq oQ.a (ax (x:=false) oQ.g rfl bJ) oQ.d fun a au an ah=>t7 ⟨au,an,ah⟩ hs hd h0 h2 h3 h4 h5 h6 bJ fun hs hd h0 h2 h3 h4 h5 h6 bJ=>?_;refine xq oR.a (ax (x:=false) oR.g rfl bJ) oR.d fun a au an ah=>t7 ⟨au,an,ah⟩ hs hd h0 h2 h3 h4 h5 h6 bJ fun hs hd h0 h2 h3 h4 h5 h6 bJ=>?_;refine xq oS.a (ax (x:=false) oS.g rfl bJ) oS.d fun a au an ah=>t7 ⟨au,an,ah⟩ hs hd h0 h2 h3 h4 h5 h6 bJ fun hs hd h0 h2 h3 h4 h5 h6 bJ=>?_;refine xq ky.a (ax (x:=false) ky.g rfl bJ) ky.d fun a au an ah=>t7 ⟨au,an,ah⟩ hs hd h0 h2 h3 h4 h5 h6 bJ fun hs hd h0 h2 h3 h4 h5 h6 bJ=>?_;refine bp mm hk hs (bn (b:=false) (v:=.bool false) mm.o bJ rfl) fun a ae iT=>t7 ae hs hd h0 h2 h3 h4 h5 h6 bJ fun hs hd h0 h2 h3 h4 h5 h6 bJ=>?_;refine al (eo Wx iT (eZ aoq (Loc.mono ?_ (I6 (X:=X) hk rp ⟨hs,hd,h0,h2,h3,h4,h5⟩ hX))));rintro V g w ⟨t,rfl,h⟩;exact⟨_,.inl rfl,h⟩
  ·skip;obtain⟨rfl,hW,hn0⟩:=hx rfl;obtain rfl:sv=false:=by cases sv<;>simp_all
   refine sJ oN rfl bJ hk hs (af oN.o h0) fun a ae cQ=>t7 ae hs hd h0 h2 h3 h4 h5 h6 bJ fun hs hd h0 h2 h3 h4 h5 h6 bJ=>?_;refine sJ oO rfl bJ hk hs (bE oO.o cQ) fun a ae iF=>t7 ae hs hd h0 h2 h3 h4 h5 h6 bJ fun hs hd h0 h2 h3 h4 h5 h6 bJ=>?_;refine sJ oP rfl bJ hk hs (aB oP.o iF underlying56 rfl sizeOf21 (by decide) rfl) fun a ae rh=>t7 ae hs hd h0 h2 h3 h4 h5 h6 bJ fun hs hd h0 h2 h3 h4 h5 h6 bJ=>?_
   refine sJ oQ rfl bJ hk hs (af oQ.o h6) fun a ae iI=>t8 ae hs hd h0 h2 h3 h4 h5 h6 bJ rh fun hs hd h0 h2 h3 h4 h5 h6 bJ rh=>?_;refine sJ oR rfl bJ hk hs (af oR.o h6) fun a ae nz=>t9 ae hs hd h0 h2 h3 h4 h5 h6 bJ rh iI fun hs hd h0 h2 h3 h4 h5 h6 bJ rh iI=>?_;refine sJ oS rfl bJ hk hs (axP oS.o nz rfl) fun a ae im=>t9 ae hs hd h0 h2 h3 h4 h5 h6 bJ rh iI fun hs hd h0 h2 h3 h4 h5 h6 bJ rh iI=>?_;rw [aEi wd bG]at im;exact di ⟨e,f,.lk k (.oq wd it)⟩ (.inr ⟨rfl,hW,hn0,rfl⟩) fun w₁ hr=>hX' rfl a w₁ hr ⟨⟨hs,hd,h0,h2,h3,h4,h5,h6⟩,hn,⟨hL.1,hW,hL.2,hn0,rp⟩,bJ,rh,iI,im⟩
 have ayY:∀(a:Act) (x:Bool),U8 Γ k wd aw sv it ws a->a.eval (.tmp 27)=.bool x->(x=true->aw=false/\wd.W=false)->
   bf X (fun t=>t=⟨e,f,.lk k (.ld aw sv (it+1))⟩\/(aw=false/\wd.W=false/\wd.n≠0/\t=⟨e,f,.lk k (.oq wd it)⟩)) V (G (b.at a (.inRegion eJ [7,8,9,10,11,12,13,14,15,16,17,18,19,20]::.code sS::.code oT::alC)) cs) w:=by
  intro a x hF dT hx;obtain⟨hs,hd,h0,h2,h3,h4,h5,h6⟩:=hF;refine bp abJ hk hs (af abJ.o dT) fun a ae cI=>t7 ae hs hd h0 h2 h3 h4 h5 h6 dT fun hs hd h0 h2 h3 h4 h5 h6 dT=>?_;cases x
  ·refine xq uv.a (ax (x:=false) uv.g rfl cI) uv.d fun a au an ah=>t8 ⟨au,an,ah⟩ hs hd h0 h2 h3 h4 h5 h6 dT cI fun hs hd h0 h2 h3 h4 h5 h6 dT cI=>?_;refine xq uw.a (ax (x:=false) uw.g rfl cI) uw.d fun a au an ah=>t8 ⟨au,an,ah⟩ hs hd h0 h2 h3 h4 h5 h6 dT cI fun hs hd h0 h2 h3 h4 h5 h6 dT cI=>?_;refine xq oM.a (ax (x:=false) oM.g rfl cI) oM.d fun a au an ah=>t8 ⟨au,an,ah⟩ hs hd h0 h2 h3 h4 h5 h6 dT cI fun hs hd h0 h2 h3 h4 h5 h6 dT cI=>?_;refine bp uy hk hs (bn (b:=false) (v:=.bool false) uy.o cI rfl) fun a ae bG=>t8 ae hs hd h0 h2 h3 h4 h5 h6 dT cI fun hs hd h0 h2 h3 h4 h5 h6 dT cI=>?_;refine bp uz hk hs (af uz.o bG) fun a ae bJ=>t9 ae hs hd h0 h2 h3 h4 h5 h6 dT cI bG fun hs hd h0 h2 h3 h4 h5 h6 dT cI bG=>?_;exact aRf a false ⟨hs,hd,h0,h2,h3,h4,h5,h6⟩ bJ (by simp)
  ·skip;refine sJ uv rfl cI hk hs (af uv.o h6) fun a ae fc=>t8 ae hs hd h0 h2 h3 h4 h5 h6 dT cI fun hs hd h0 h2 h3 h4 h5 h6 dT cI=>?_;refine sJ uw rfl cI hk hs (BZ (n:=3) uw.o fc rfl) fun a ae eK=>t8 ae hs hd h0 h2 h3 h4 h5 h6 dT cI fun hs hd h0 h2 h3 h4 h5 h6 dT cI=>?_;rw [B0 wd bG]at eK;refine sJ oM rfl cI hk hs (eI oM.o eK rfl) fun a ae lg=>t8 ae hs hd h0 h2 h3 h4 h5 h6 dT cI fun hs hd h0 h2 h3 h4 h5 h6 dT cI=>?_;refine bp uy hk hs (bn (b:=true) uy.o cI lg) fun a ae bG=>t7 ae hs hd h0 h2 h3 h4 h5 h6 dT fun hs hd h0 h2 h3 h4 h5 h6 dT=>?_;refine bp uz hk hs (af uz.o bG) fun a ae bJ=>t8 ae hs hd h0 h2 h3 h4 h5 h6 dT bG fun hs hd h0 h2 h3 h4 h5 h6 dT bG=>?_;exact aRf a _ ⟨hs,hd,h0,h2,h3,h4,h5,h6⟩ bJ (fun h=>⟨(hx rfl).1,(hx rfl).2,fun h0=>by simp [h0]at h⟩)
 refine aF aE7 (rl [0,1,2,3,4,5,6,7,8,9,10,11,12,13,14,15,16,17,18,19,20] rfl) (bp abG hk hs (af abG.o h4) fun a ae cD=>t6 ae hs hd h0 h2 h3 h4 h5 h6 fun hs hd h0 h2 h3 h4 h5 h6=>?_);refine bp abH hk hs (kl abH.o cD) fun a ae kE=>t6 ae hs hd h0 h2 h3 h4 h5 h6 fun hs hd h0 h2 h3 h4 h5 h6=>?_;refine bp abI hk hs (af abI.o kE) fun a ae ga=>t6 ae hs hd h0 h2 h3 h4 h5 h6 fun hs hd h0 h2 h3 h4 h5 h6=>?_;cases haw:aw
 ·rw [haw]at ga h4 ayY;simp only [Bool.not_false]at ga;refine sJ uo rfl ga hk hs (af uo.o h6) fun a ae oi=>t7 ae hs hd h0 h2 h3 h4 h5 h6 ga fun hs hd h0 h2 h3 h4 h5 h6 ga=>?_;refine sJ uq rfl ga hk hs (gP uq.o oi rfl) fun a ae o9=>t7 ae hs hd h0 h2 h3 h4 h5 h6 ga fun hs hd h0 h2 h3 h4 h5 h6 ga=>?_;refine sJ uu rfl ga hk hs (eH uu.o o9 rfl) fun a ae fe=>t7 ae hs hd h0 h2 h3 h4 h5 h6 ga fun hs hd h0 h2 h3 h4 h5 h6 ga=>?_;rw [Oh wd bG]at fe;refine bp zl hk hs (bn (b:=true) zl.o ga fe) fun a ae dT=>t7 ae hs hd h0 h2 h3 h4 h5 h6 ga fun hs hd h0 h2 h3 h4 h5 h6 ga=>?_;exact ayY a _ ⟨hs,hd,h0,h2,h3,h4,h5,h6⟩ dT (fun h=>⟨rfl,by simpa using h⟩)
 ·rw [haw]at ga h4 ayY;simp only [Bool.not_true]at ga;refine xq uo.a (ax (x:=false) uo.g rfl ga) uo.d fun a au an ah=>t7 ⟨au,an,ah⟩ hs hd h0 h2 h3 h4 h5 h6 ga fun hs hd h0 h2 h3 h4 h5 h6 ga=>?_;refine xq uq.a (ax (x:=false) uq.g rfl ga) uq.d fun a au an ah=>t7 ⟨au,an,ah⟩ hs hd h0 h2 h3 h4 h5 h6 ga fun hs hd h0 h2 h3 h4 h5 h6 ga=>?_;refine xq uu.a (ax (x:=false) uu.g rfl ga) uu.d fun a au an ah=>t7 ⟨au,an,ah⟩ hs hd h0 h2 h3 h4 h5 h6 ga fun hs hd h0 h2 h3 h4 h5 h6 ga=>?_;refine bp zl hk hs (bn (b:=false) (v:=.bool false) zl.o ga rfl) fun a ae dT=>t6 ae hs hd h0 h2 h3 h4 h5 h6 fun hs hd h0 h2 h3 h4 h5 h6=>?_;exact ayY a false ⟨hs,hd,h0,h2,h3,h4,h5,h6⟩ dT (by simp)
end
end Go.Proofs.YtmcddajniiaieaaGreatDoor
